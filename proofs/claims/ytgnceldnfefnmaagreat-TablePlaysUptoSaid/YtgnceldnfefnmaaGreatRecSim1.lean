/-
  The conditions give the machine's calls; printed by vcgen.py.
-/
import Derived.Test.YtgnceldnfefnmaaGreatRecVc
namespace Go.Proofs.YtgnceldnfefnmaaGreat
open Go Go.Vc
set_option maxRecDepth 100000
set_option maxHeartbeats 4000000
theorem sim_sherdlaw15_taken (w : World) (Q : Ending → World → Prop) (h : vc_sherdlaw15_taken w Q) : Calls PP F_sherdlaw15_taken #[] w Q := by
 unfold vc_sherdlaw15_taken at h
 refine enter (n := 86) Tryz.func10 rfl rfl (Nat.le_of_ble_eq_true rfl) fun a H => c_seq fun K1 hK1 => c_reg <| s_assign H rfl rfl (lt_ rfl) fun a H => c_nil <| hK1 _ _ <| c_seq fun K2 hK2 => c_reg <| s_call H rfl body_5 (H.args (vs := [(.i 0)]) rfl) (lt_ rfl) h ?_ (fun c w' h H => e_panic (P := PP) (fn := Tryz.f10) H h)
 clear H h a
 rintro _ w3 a ⟨N4, N5, rfl, h⟩ H
 refine s_move H rfl rfl (lt_ rfl) fun a H => s_ext H rfl rfl rfl (lt_ rfl) fun a H => s_ext H rfl rfl rfl (lt_ rfl) fun a H => s_assign H rfl rfl (lt_ rfl) fun a H => s_assign H rfl rfl (lt_ rfl) fun a H => c_nil <| hK2 _ _ <| c_seq fun K6 hK6 => c_seq fun K7 hK7 => c_reg <| s_move H rfl rfl (lt_ rfl) fun a H => s_bin H rfl rfl rfl r_neq (lt_ rfl) fun a H => s_move H rfl rfl (lt_ rfl) fun a H => ?_
 refine g_join (n := 86) [(18, (.bool ((decide (N5 ≠ 0)) || N4.isNone))), (1, (.pointer N4))] (.succ (.succ (.succ (.zero _)))) ?_ ?_
 ·intro h9
  try clear h
  rcases Bool.eq_false_or_eq_true (decide (N5 ≠ 0)) with h8 | h8
  ·replace H := H.ch (t := 15) (b := true) rfl h8
   refine s_skip H (wantN H rfl rfl rfl) rfl (lt_ rfl) fun a H => s_skip H (wantN H rfl rfl rfl) rfl (lt_ rfl) fun a H => s_pickT H rfl rfl rfl (lt_ rfl) fun a H => ?_
   exact h9 _ (H.weaken ⟨by rw [h8]; rfl, rfl, trivial⟩)
  ·replace H := H.ch (t := 15) (b := false) rfl h8
   refine s_move H (wantG H rfl rfl) rfl (lt_ rfl) fun a H => s_bin H (wantG H rfl rfl) rfl rfl (r_eqP0 ptr_23) (lt_ rfl) fun a H => s_pickF H rfl rfl rfl (lt_ rfl) fun a H => ?_
   exact h9 _ (H.weaken ⟨by rw [h8]; rfl, rfl, trivial⟩)
 ·clear H a
  intro a H
  refine c_nil <| hK7 _ _ <| c_cond H rfl (fun h10 => ?_) (fun h10 => ?_)
  ·replace h := h.1 h10
   refine c_seq fun K11 hK11 => c_reg <| s_assign H rfl rfl (lt_ rfl) fun a H => c_nil <| hK11 _ _ <| c_ret ?_
   exact e_ret1 H rfl rfl h
  ·replace h := h.2 h10
   refine c_skip <| hK6 _ _ <| c_seq fun K12 hK12 => c_reg <| s_build H rfl (by rw [H.parts (vs := [(0, (.i 1)), (1, (.i 1))]) rfl]; exact bd_33_ii640_ii641 w3 1 1) (lt_ rfl) fun a H => ?_
   replace h := h.get
   obtain ⟨b13, w14, n15, h⟩ := h
   refine s_alloc H rfl zero_33 (lt_ rfl) ?_
   rw [← n15.at_]
   clear H a
   intro a H
   refine n15.go <| s_stoN (l := [(.i 1), (.i 1)]) H rfl rfl rfl rfl agg_33 rfl rfl h ?_
   clear h H
   intro w16 h H
   refine c_nil <| hK12 _ _ <| c_seq fun K17 hK17 => c_reg <| s_build H rfl (by rw [H.parts (vs := [(0, (.i 2)), (1, (.i 1))]) rfl]; exact bd_33_ii640_ii641 w16 2 1) (lt_ rfl) fun a H => ?_
   replace h := h.get
   obtain ⟨b18, w19, n20, h⟩ := h
   refine s_alloc H rfl zero_33 (lt_ rfl) ?_
   rw [← n20.at_]
   clear H a
   intro a H
   refine n20.go <| s_stoN (l := [(.i 2), (.i 1)]) H rfl rfl rfl rfl agg_33 rfl rfl h ?_
   clear h H
   intro w21 h H
   refine c_nil <| hK17 _ _ <| c_seq fun K22 hK22 => c_reg <| s_move H rfl rfl (lt_ rfl) fun a H => ?_
   obtain ⟨C23, hc24, C25, hc26, h⟩ := h
   refine s_loadN (l := [(.i C23), (.i C25)]) H rfl rfl agg_33 rfl ⟨hc24, hc26, trivial⟩ (lt_ rfl) fun a H => ?_
   replace h := h.get
   obtain ⟨b27, w28, n29, h⟩ := h
   refine s_bslc H rfl (by rw [H.parts (vs := [(0, (.int .u8 120))]) rfl]; exact bs_34_1_iu80 w21 120) (lt_ rfl) ?_
   rw [← n29.at_]
   clear H a
   intro a H
   refine n29.go ?_
   obtain ⟨w31, h30, h⟩ := h
   refine s_cv H rfl rfl h30 (lt_ rfl) ?_
   clear H a h30
   intro a H
   refine s_build H rfl (by rw [H.parts (vs := [(0, (.agg #[(.i C23), (.i C25)])), (3, (Slc.v (Slc.mk (some (blk b27)) 1 1)))]) rfl]; exact bd_36_ii64ii640_s3 w31 C23 C25 (Slc.mk (some (blk b27)) 1 1)) (lt_ rfl) fun a H => ?_
   refine s_build H rfl (by rw [H.parts (vs := [(0, (.i 1)), (1, (.string (ByteArray.mk #[107]))), (2, (.agg #[(.i C23), (.i C25), (.bool false), (.bool false), (Slc.v (Slc.mk (some (blk b27)) 1 1))]))]) rfl]; exact bd_38_ii640_s1_ii64ii64bbs2 w31 1 (ByteArray.mk #[107]) C23 C25 false false (Slc.mk (some (blk b27)) 1 1)) (lt_ rfl) fun a H => ?_
   refine s_call H rfl body_35 (H.args (vs := [(.pointer N4), (.agg #[(.i 1), (.string (ByteArray.mk #[107])), (.i C23), (.i C25), (.bool false), (.bool false), (Slc.v (Slc.mk (some (blk b27)) 1 1))])]) rfl) (lt_ rfl) h ?_ (fun c w' h H => e_panic (P := PP) (fn := Tryz.f10) H h)
   clear H h a
   rintro _ w32 a ⟨A33, A34, rfl, h⟩ H
   refine s_move H rfl rfl (lt_ rfl) fun a H => s_ext H rfl rfl rfl (lt_ rfl) fun a H => s_ext H rfl rfl rfl (lt_ rfl) fun a H => s_assign H rfl rfl (lt_ rfl) fun a H => s_assign H rfl rfl (lt_ rfl) fun a H => c_nil <| hK22 _ _ <| c_seq fun K35 hK35 => c_reg <| s_move H rfl rfl (lt_ rfl) fun a H => ?_
   obtain ⟨C36, hc37, C38, hc39, h⟩ := h
   refine s_loadN (l := [(.i C36), (.i C38)]) H rfl rfl agg_33 rfl ⟨hc37, hc39, trivial⟩ (lt_ rfl) fun a H => s_build H rfl (by rw [H.parts (vs := [(0, (.agg #[(.i C36), (.i C38)]))]) rfl]; exact bd_36_ii64ii640 w32 C36 C38) (lt_ rfl) fun a H => ?_
   refine s_build H rfl (by rw [H.parts (vs := [(0, (.i 2)), (1, (.string (ByteArray.mk #[107]))), (2, (.agg #[(.i C36), (.i C38), (.bool false), (.bool false), Slc.nil.v]))]) rfl]; exact bd_38_ii640_s1_ii64ii64bbs2 w32 2 (ByteArray.mk #[107]) C36 C38 false false Slc.nil) (lt_ rfl) fun a H => ?_
   refine s_call H rfl body_35 (H.args (vs := [(.pointer N4), (.agg #[(.i 2), (.string (ByteArray.mk #[107])), (.i C36), (.i C38), (.bool false), (.bool false), Slc.nil.v])]) rfl) (lt_ rfl) h ?_ (fun c w' h H => e_panic (P := PP) (fn := Tryz.f10) H h)
   clear H h a
   rintro _ w40 a ⟨A41, A42, rfl, h⟩ H
   refine s_move H rfl rfl (lt_ rfl) fun a H => s_ext H rfl rfl rfl (lt_ rfl) fun a H => s_ext H rfl rfl rfl (lt_ rfl) fun a H => s_assign H rfl rfl (lt_ rfl) fun a H => s_assign H rfl rfl (lt_ rfl) fun a H => c_nil <| hK35 _ _ <| c_seq fun K43 hK43 => c_seq fun K44 hK44 => ?_
   obtain ⟨R46, h, h150⟩ := h
   have h125 : ∀ (a : Act) (s45 : Bool) (w47 : World), R46 s45 w47 → Has 86 [] a [(1, (.pointer N4)), (4, (.pointer (some (blk b18)))), (63, (.bool s45))] → K44 a w47 := by
    clear h
    intro a s45 w47 h H
    replace h := h150 s45 w47 h
    refine hK44 _ _ <| c_cond H rfl (fun h48 => ?_) (fun h48 => ?_)
    ·replace h := h.1 h48
     refine c_seq fun K49 hK49 => c_reg <| s_assign H rfl rfl (lt_ rfl) fun a H => c_nil <| hK49 _ _ <| c_ret ?_
     exact e_ret1 H rfl rfl h
    ·replace h := h.2 h48
     refine c_skip <| hK43 _ _ <| c_seq fun K50 hK50 => c_reg <| s_move H rfl rfl (lt_ rfl) fun a H => ?_
     obtain ⟨C51, hc52, C53, hc54, h⟩ := h
     refine s_loadN (l := [(.i C51), (.i C53)]) H rfl rfl agg_33 rfl ⟨hc52, hc54, trivial⟩ (lt_ rfl) fun a H => s_build H rfl (by rw [H.parts (vs := [(0, (.agg #[(.i C51), (.i C53)]))]) rfl]; exact bd_36_ii64ii640 w47 C51 C53) (lt_ rfl) fun a H => ?_
     refine s_build H rfl (by rw [H.parts (vs := [(0, (.i 2)), (1, (.string (ByteArray.mk #[107]))), (2, (.agg #[(.i C51), (.i C53), (.bool false), (.bool false), Slc.nil.v]))]) rfl]; exact bd_38_ii640_s1_ii64ii64bbs2 w47 2 (ByteArray.mk #[107]) C51 C53 false false Slc.nil) (lt_ rfl) fun a H => ?_
     refine s_call H rfl body_35 (H.args (vs := [(.pointer N4), (.agg #[(.i 2), (.string (ByteArray.mk #[107])), (.i C51), (.i C53), (.bool false), (.bool false), Slc.nil.v])]) rfl) (lt_ rfl) h ?_ (fun c w' h H => e_panic (P := PP) (fn := Tryz.f10) H h)
     clear H h a
     rintro _ w55 a ⟨A56, A57, rfl, h⟩ H
     refine c_nil <| hK50 _ _ <| c_seq fun K58 hK58 => ?_
     obtain ⟨R60, h, h120⟩ := h
     have h62 : ∀ (a : Act) (s59 : Bool) (w61 : World), R60 s59 w61 → Has 86 [] a [(0, (.bool s59))] → K58 a w61 := by
      clear h
      intro a s59 w61 h H
      replace h := h120 s59 w61 h
      refine hK58 _ _ <| c_ret ?_
      exact e_ret1 H rfl rfl h
     clear h120
     replace H := H.weaken (L' := [(1, (.pointer N4)), (4, (.pointer (some (blk b18))))]) ⟨rfl, rfl, trivial⟩
     refine c_anyT0 (V := [(0, (.pointer N4))]) 5 (⟨⟨[[], [0], [1], [1, 2], [3], [3, 4], [3], [3, 5, 6], [3, 7], [5, 8], [9], [9, 10], [9], [9, 12], [9, 13], [9, 11, 14], [9, 15], [0, 1, 2, 3, 4, 5, 6, 7, 8, 9, 10, 11, 12, 13, 14, 15, 16]], [some 69, some 70, some 71, some 72, some 73, some 74, some 75, some 76, some 77, some 78, some 79, some 80, some 81, some 82, some 83, some 84, some 85, some 0], [1, 5, 11, 14, 15], [], []⟩, [[], [], [1], [1], [1], [1], [1], [1, 5], [1, 5], [1, 5], [1, 5], [1, 5], [1, 5], [1, 5], [1, 5], [1, 5, 11, 14], [1, 5, 11, 14, 15], [1, 5, 11, 14, 15]], [[1, 5, 11, 14, 15], [5, 11, 14, 15], [5, 11, 14, 15], [5, 11, 14, 15], [5, 11, 14, 15], [11, 14, 15], [11, 14, 15], [11, 14, 15], [11, 14, 15], [11, 14, 15], [11, 15], [15], [14, 15], [14, 15], [15], [], [], []]⟩ : Rh) [(1, (.pointer N4)), (4, (.pointer (some (blk b18))))] mixed (by kernel_rfl) H ?_
     refine StT.more [0] [1] (by kernel_rfl) (by kernel_rfl) (by kernel_rfl) (.cons ?_ .nil) (.cons ?_ .nil)
     ·refine Ans.mk rfl rfl fun a H => s_move H rfl rfl (lt_ rfl) fun a H => ?_
      exact Ans.fin H rfl
     ·refine ⟨_, rfl, fun a H => ?_⟩
      replace H := H.weaken (L' := [(69, (.pointer N4))]) ⟨rfl, trivial⟩
      refine s_call H rfl body_21 (H.args (vs := [(.pointer N4), (.string (ByteArray.mk #[107]))]) rfl) (lt_ rfl) h ?_ (fun c w' h H => e_panic (P := PP) (fn := Tryz.f10) H h)
      clear H h a
      rintro _ w63 a ⟨F64, rfl, h⟩ H
      refine c_nil ?_
      rcases Bool.eq_false_or_eq_true (decide (F64 = 0)) with h65 | h65
      ·replace h := h.1 h65
       obtain ⟨C66, hc67, C68, hc69, h⟩ := h
       refine effQ.go [(2, (.bool (decide (F64 = 0)))), (3, (.bool (decide (F64 = 0)))), (4, (.pointer N4)), (6, (.agg #[(.i C66), (.i C68)]))] H rfl rfl <| StT.more [2, 3, 4, 6] [5] (by kernel_rfl) (by kernel_rfl) (by kernel_rfl) (.cons ?_ (.cons ?_ (.cons ?_ (.cons ?_ .nil)))) (.cons ?_ .nil)
       ·refine Ans.mk rfl rfl fun a H => s_bin H rfl rfl rfl r_eql (lt_ rfl) fun a H => ?_
        exact Ans.fin H rfl
       ·refine Ans.mk rfl rfl fun a H => s_move H rfl rfl (lt_ rfl) fun a H => ?_
        exact Ans.fin H rfl
       ·refine Ans.mk rfl rfl fun a H => ?_
        replace H := H.ch (t := 72) (b := true) rfl h65
        refine s_move H (wantG H rfl rfl) rfl (lt_ rfl) fun a H => ?_
        exact Ans.fin H rfl
       ·refine Ans.mk rfl rfl fun a H => ?_
        replace H := H.ch (t := 72) (b := true) rfl h65
        refine s_loadN (l := [(.i C66), (.i C68)]) H (wantG H rfl rfl) rfl agg_33 rfl ⟨hc67, hc69, trivial⟩ (lt_ rfl) fun a H => ?_
        exact Ans.fin H rfl
       ·refine ⟨_, rfl, fun a H => ?_⟩
        replace H := H.weaken (L' := [(72, (.bool (decide (F64 = 0)))), (73, (.pointer N4))]) ⟨rfl, rfl, trivial⟩
        replace H := H.ch (t := 72) (b := true) rfl h65
        refine s_call H (wantG H rfl rfl) body_19 (H.args (vs := [(.pointer N4), (.string (ByteArray.mk #[107]))]) rfl) (lt_ rfl) h ?_ (fun c w' h H => e_panic (P := PP) (fn := Tryz.f10) H h)
        clear H h a
        rintro _ w70 a ⟨C71, C72, rfl, h⟩ H
        refine c_nil ?_
        obtain ⟨hc73, hc74, h⟩ := h
        rcases Bool.eq_false_or_eq_true (decide (C71 = C66) && (decide (C72 = C68))) with h75 | h75
        ·replace h := h.1 h75
         obtain ⟨C76, hc77, C78, hc79, h⟩ := h
         refine effQ.go [(7, (.bool (decide (C71 = C66) && (decide (C72 = C68))))), (8, (.bool (decide (C71 = C66) && (decide (C72 = C68))))), (9, (.bool (decide (C71 = C66) && (decide (C72 = C68))))), (10, (.pointer N4)), (12, (.agg #[(.i C76), (.i C78)])), (13, (.agg #[(.i C76), (.i C78), (.bool true), (.bool false), Slc.nil.v]))] H rfl rfl ?_
         refine StT.more [6, 7, 8, 9, 10, 12, 13] [11, 14] (by kernel_rfl) (by kernel_rfl) (by kernel_rfl) (.cons ?_ (.cons ?_ (.cons ?_ (.cons ?_ (.cons ?_ (.cons ?_ (.cons ?_ .nil))))))) (.cons ?_ (.cons ?_ .nil))
         ·refine Ans.mk rfl rfl fun a H => ?_
          replace H := H.ch (t := 72) (b := true) rfl h65
          refine s_loadN (l := [(.i C66), (.i C68)]) H (wantG H rfl rfl) rfl agg_33 rfl ⟨hc73, hc74, trivial⟩ (lt_ rfl) fun a H => ?_
          exact Ans.fin H rfl
         ·refine Ans.mk rfl rfl fun a H => ?_
          replace H := H.ch (t := 72) (b := true) rfl h65
          refine s_bin H (wantG H rfl rfl) rfl rfl (r_eqst eqg_33 (eqst_33 0) rfl) (lt_ rfl) fun a H => ?_
          exact Ans.fin H rfl
         ·refine Ans.mk rfl rfl fun a H => ?_
          replace H := H.ch (t := 72) (b := true) rfl h65
          refine s_pickT H rfl rfl rfl (lt_ rfl) fun a H => ?_
          exact Ans.fin H rfl
         ·refine Ans.mk rfl rfl fun a H => s_move H rfl rfl (lt_ rfl) fun a H => ?_
          exact Ans.fin H rfl
         ·refine Ans.mk rfl rfl fun a H => ?_
          replace H := H.ch (t := 78) (b := true) rfl h75
          refine s_move H (wantG H rfl rfl) rfl (lt_ rfl) fun a H => ?_
          exact Ans.fin H rfl
         ·refine Ans.mk rfl rfl fun a H => ?_
          replace H := H.ch (t := 78) (b := true) rfl h75
          refine s_loadN (l := [(.i C76), (.i C78)]) H (wantG H rfl rfl) rfl agg_33 rfl ⟨hc77, hc79, trivial⟩ (lt_ rfl) fun a H => ?_
          exact Ans.fin H rfl
         ·refine Ans.mk rfl rfl fun a H => ?_
          replace H := H.ch (t := 78) (b := true) rfl h75
          refine s_build H (wantG H rfl rfl) (by rw [H.parts (vs := [(0, (.agg #[(.i C76), (.i C78)])), (1, (.bool true))]) rfl]; exact bd_36_ii64ii640_b1 w70 C76 C78 true) (lt_ rfl) fun a H => ?_
          exact Ans.fin H rfl
         ·refine ⟨_, rfl, fun a H => ?_⟩
          replace h := h.1
          replace H := H.weaken (L' := [(78, (.bool (decide (C71 = C66) && (decide (C72 = C68))))), (79, (.pointer N4))]) ⟨rfl, rfl, trivial⟩
          replace H := H.ch (t := 78) (b := true) rfl h75
          refine s_call H (wantG H rfl rfl) body_24 (H.args (vs := [(.pointer N4), (.string (ByteArray.mk #[107]))]) rfl) (lt_ rfl) h ?_ (fun c w' h H => e_panic (P := PP) (fn := Tryz.f10) H h)
          clear H h a
          rintro _ w80 a ⟨E81, rfl, h⟩ H
          refine c_nil ?_
          obtain ⟨hc82, hc83, h⟩ := h
          refine effQ.go [] H rfl rfl <| StT.more [12, 13] [14] (by kernel_rfl) (by kernel_rfl) (by kernel_rfl) (.cons ?_ (.cons ?_ .nil)) (.cons ?_ .nil)
          ·refine Ans.mk rfl rfl fun a H => ?_
           replace H := H.ch (t := 78) (b := true) rfl h75
           refine s_loadN (l := [(.i C76), (.i C78)]) H (wantG H rfl rfl) rfl agg_33 rfl ⟨hc82, hc83, trivial⟩ (lt_ rfl) fun a H => ?_
           exact Ans.fin H rfl
          ·refine Ans.mk rfl rfl fun a H => ?_
           replace H := H.ch (t := 78) (b := true) rfl h75
           refine s_build H (wantG H rfl rfl) (by rw [H.parts (vs := [(0, (.agg #[(.i C76), (.i C78)])), (1, (.bool true))]) rfl]; exact bd_36_ii64ii640_b1 w80 C76 C78 true) (lt_ rfl) fun a H => ?_
           exact Ans.fin H rfl
          ·refine ⟨_, rfl, fun a H => ?_⟩
           replace H := H.weaken (L' := [(78, (.bool (decide (C71 = C66) && (decide (C72 = C68))))), (82, (.agg #[(.i C76), (.i C78), (.bool true), (.bool false), Slc.nil.v]))]) ⟨rfl, rfl, trivial⟩
           replace H := H.ch (t := 78) (b := true) rfl h75
           replace h := h.get
           obtain ⟨b84, w85, n86, h⟩ := h
           refine s_bslc H (wantG H rfl rfl) (by rw [H.parts (vs := [(0, (.agg #[(.i C76), (.i C78), (.bool true), (.bool false), Slc.nil.v]))]) rfl]; exact bs_64_1_ii64ii64bbs0 w80 C76 C78 true false Slc.nil) (lt_ rfl) ?_
           rw [← n86.at_]
           clear H a
           intro a H
           refine n86.go <| c_nil <| effQ.go [] H rfl rfl <| StT.more [] [15] (by kernel_rfl) (by kernel_rfl) (by kernel_rfl) .nil (.cons ?_ .nil)
           ·refine ⟨_, rfl, fun a H => ?_⟩
            replace H := H.weaken (L' := [(78, (.bool (decide (C71 = C66) && (decide (C72 = C68))))), (80, E81.v), (83, (Slc.v (Slc.mk (some (blk b84)) 1 1)))]) ⟨rfl, rfl, rfl, trivial⟩
            replace H := H.ch (t := 78) (b := true) rfl h75
            refine s_call H (wantG H rfl rfl) body_23 (H.args (vs := [E81.v, (Slc.v (Slc.mk (some (blk b84)) 1 1))]) rfl) (lt_ rfl) h ?_ (fun c w' h H => e_panic (P := PP) (fn := Tryz.f10) H h)
            clear H h a
            rintro _ w87 a ⟨s88, rfl, h⟩ H
            refine c_nil <| effQ.go [(16, (.bool s88)), (17, (.bool s88))] H rfl rfl <| StT.last [16, 17] (by kernel_rfl) (by kernel_rfl) (.cons ?_ (.cons ?_ .nil)) ?_
            ·refine Ans.mk rfl rfl fun a H => ?_
             replace H := H.ch (t := 78) (b := true) rfl h75
             refine s_pickT H rfl rfl rfl (lt_ rfl) fun a H => ?_
             exact Ans.fin H rfl
            ·refine Ans.mk rfl rfl fun a H => s_assign H rfl rfl (lt_ rfl) fun a H => ?_
             exact Ans.fin H rfl
            ·intro a H
             replace H := H.weaken (L' := [(0, (.bool s88))]) ⟨rfl, trivial⟩
             exact h62 _ _ _ h (H.weaken ⟨rfl, trivial⟩)
         ·refine ⟨_, rfl, fun a H => ?_⟩
          replace h := h.2
          replace H := H.weaken (L' := [(78, (.bool (decide (C71 = C66) && (decide (C72 = C68))))), (82, (.agg #[(.i C76), (.i C78), (.bool true), (.bool false), Slc.nil.v]))]) ⟨rfl, rfl, trivial⟩
          replace H := H.ch (t := 78) (b := true) rfl h75
          replace h := h.get
          obtain ⟨b97, w98, n99, h⟩ := h
          refine s_bslc H (wantG H rfl rfl) (by rw [H.parts (vs := [(0, (.agg #[(.i C76), (.i C78), (.bool true), (.bool false), Slc.nil.v]))]) rfl]; exact bs_64_1_ii64ii64bbs0 w70 C76 C78 true false Slc.nil) (lt_ rfl) ?_
          rw [← n99.at_]
          clear H a
          intro a H
          refine n99.go <| c_nil <| effQ.go [] H rfl rfl <| StT.more [10] [11] (by kernel_rfl) (by kernel_rfl) (by kernel_rfl) (.cons ?_ .nil) (.cons ?_ .nil)
          ·refine Ans.mk rfl rfl fun a H => ?_
           replace H := H.ch (t := 78) (b := true) rfl h75
           refine s_move H (wantG H rfl rfl) rfl (lt_ rfl) fun a H => ?_
           exact Ans.fin H rfl
          ·refine ⟨_, rfl, fun a H => ?_⟩
           replace H := H.weaken (L' := [(78, (.bool (decide (C71 = C66) && (decide (C72 = C68))))), (79, (.pointer N4))]) ⟨rfl, rfl, trivial⟩
           replace H := H.ch (t := 78) (b := true) rfl h75
           refine s_call H (wantG H rfl rfl) body_24 (H.args (vs := [(.pointer N4), (.string (ByteArray.mk #[107]))]) rfl) (lt_ rfl) h ?_ (fun c w' h H => e_panic (P := PP) (fn := Tryz.f10) H h)
           clear H h a
           rintro _ w100 a ⟨E101, rfl, h⟩ H
           refine c_nil <| effQ.go [] H rfl rfl <| StT.more [] [15] (by kernel_rfl) (by kernel_rfl) (by kernel_rfl) .nil (.cons ?_ .nil)
           ·refine ⟨_, rfl, fun a H => ?_⟩
            replace H := H.weaken (L' := [(78, (.bool (decide (C71 = C66) && (decide (C72 = C68))))), (80, E101.v), (83, (Slc.v (Slc.mk (some (blk b97)) 1 1)))]) ⟨rfl, rfl, rfl, trivial⟩
            replace H := H.ch (t := 78) (b := true) rfl h75
            refine s_call H (wantG H rfl rfl) body_23 (H.args (vs := [E101.v, (Slc.v (Slc.mk (some (blk b97)) 1 1))]) rfl) (lt_ rfl) h ?_ (fun c w' h H => e_panic (P := PP) (fn := Tryz.f10) H h)
            clear H h a
            rintro _ w102 a ⟨s103, rfl, h⟩ H
            refine c_nil <| effQ.go [(16, (.bool s103)), (17, (.bool s103))] H rfl rfl <| StT.last [16, 17] (by kernel_rfl) (by kernel_rfl) (.cons ?_ (.cons ?_ .nil)) ?_
            ·refine Ans.mk rfl rfl fun a H => ?_
             replace H := H.ch (t := 78) (b := true) rfl h75
             refine s_pickT H rfl rfl rfl (lt_ rfl) fun a H => ?_
             exact Ans.fin H rfl
            ·refine Ans.mk rfl rfl fun a H => s_assign H rfl rfl (lt_ rfl) fun a H => ?_
             exact Ans.fin H rfl
            ·intro a H
             replace H := H.weaken (L' := [(0, (.bool s103))]) ⟨rfl, trivial⟩
             exact h62 _ _ _ h (H.weaken ⟨rfl, trivial⟩)
        ·replace h := h.2 h75
         refine effQ.go [(7, (.bool (decide (C71 = C66) && (decide (C72 = C68))))), (8, (.bool (decide (C71 = C66) && (decide (C72 = C68))))), (9, (.bool (decide (C71 = C66) && (decide (C72 = C68))))), (10, undef), (12, undef), (13, undef)] H rfl rfl <| StT.more [6, 7, 8, 9, 10, 12, 13] [11, 14] (by kernel_rfl) (by kernel_rfl) (by kernel_rfl) (.cons ?_ (.cons ?_ (.cons ?_ (.cons ?_ (.cons ?_ (.cons ?_ (.cons ?_ .nil))))))) (.cons ?_ (.cons ?_ .nil))
         ·refine Ans.mk rfl rfl fun a H => ?_
          replace H := H.ch (t := 72) (b := true) rfl h65
          refine s_loadN (l := [(.i C66), (.i C68)]) H (wantG H rfl rfl) rfl agg_33 rfl ⟨hc73, hc74, trivial⟩ (lt_ rfl) fun a H => ?_
          exact Ans.fin H rfl
         ·refine Ans.mk rfl rfl fun a H => ?_
          replace H := H.ch (t := 72) (b := true) rfl h65
          refine s_bin H (wantG H rfl rfl) rfl rfl (r_eqst eqg_33 (eqst_33 0) rfl) (lt_ rfl) fun a H => ?_
          exact Ans.fin H rfl
         ·refine Ans.mk rfl rfl fun a H => ?_
          replace H := H.ch (t := 72) (b := true) rfl h65
          refine s_pickT H rfl rfl rfl (lt_ rfl) fun a H => ?_
          exact Ans.fin H rfl
         ·refine Ans.mk rfl rfl fun a H => s_move H rfl rfl (lt_ rfl) fun a H => ?_
          exact Ans.fin H rfl
         ·exact .skip rfl rfl rfl rfl rfl rfl h75 rfl
         ·exact .skip rfl rfl rfl rfl rfl rfl h75 rfl
         ·exact .skip rfl rfl rfl rfl rfl rfl h75 rfl
         ·refine ⟨_, rfl, fun a H => ?_⟩
          replace h := h.1
          replace H := H.weaken (L' := [(78, (.bool (decide (C71 = C66) && (decide (C72 = C68))))), (79, undef)]) ⟨rfl, rfl, trivial⟩
          replace H := H.ch (t := 78) (b := false) rfl h75
          refine s_skip H (wantN H rfl rfl rfl) rfl (lt_ rfl) fun a H => c_nil <| effQ.go [] H rfl rfl <| StT.more [12, 13] [14] (by kernel_rfl) (by kernel_rfl) (by kernel_rfl) (.cons ?_ (.cons ?_ .nil)) (.cons ?_ .nil)
          ·exact .skip rfl rfl rfl rfl rfl rfl h75 rfl
          ·exact .skip rfl rfl rfl rfl rfl rfl h75 rfl
          ·refine ⟨_, rfl, fun a H => ?_⟩
           replace H := H.weaken (L' := [(78, (.bool (decide (C71 = C66) && (decide (C72 = C68))))), (82, undef)]) ⟨rfl, rfl, trivial⟩
           replace H := H.ch (t := 78) (b := false) rfl h75
           refine s_skip H (wantN H rfl rfl rfl) rfl (lt_ rfl) fun a H => c_nil <| effQ.go [] H rfl rfl <| StT.more [] [15] (by kernel_rfl) (by kernel_rfl) (by kernel_rfl) .nil (.cons ?_ .nil)
           ·refine ⟨_, rfl, fun a H => ?_⟩
            replace H := H.weaken (L' := [(78, (.bool (decide (C71 = C66) && (decide (C72 = C68))))), (80, undef), (83, undef)]) ⟨rfl, rfl, rfl, trivial⟩
            replace H := H.ch (t := 78) (b := false) rfl h75
            refine s_skip H (wantN H rfl rfl rfl) rfl (lt_ rfl) fun a H => c_nil <| effQ.go [(16, (.bool false)), (17, (.bool false))] H rfl rfl <| StT.last [16, 17] (by kernel_rfl) (by kernel_rfl) (.cons ?_ (.cons ?_ .nil)) ?_
            ·refine Ans.mk rfl rfl fun a H => ?_
             replace H := H.ch (t := 78) (b := false) rfl h75
             refine s_pickF H rfl rfl rfl (lt_ rfl) fun a H => ?_
             exact Ans.fin H rfl
            ·refine Ans.mk rfl rfl fun a H => s_assign H rfl rfl (lt_ rfl) fun a H => ?_
             exact Ans.fin H rfl
            ·intro a H
             replace H := H.weaken (L' := [(0, (.bool false))]) ⟨rfl, trivial⟩
             exact h62 _ _ _ h (H.weaken ⟨rfl, trivial⟩)
         ·refine ⟨_, rfl, fun a H => ?_⟩
          replace h := h.2
          replace H := H.weaken (L' := [(78, (.bool (decide (C71 = C66) && (decide (C72 = C68))))), (82, undef)]) ⟨rfl, rfl, trivial⟩
          replace H := H.ch (t := 78) (b := false) rfl h75
          refine s_skip H (wantN H rfl rfl rfl) rfl (lt_ rfl) fun a H => c_nil <| effQ.go [] H rfl rfl <| StT.more [10] [11] (by kernel_rfl) (by kernel_rfl) (by kernel_rfl) (.cons ?_ .nil) (.cons ?_ .nil)
          ·exact .skip rfl rfl rfl rfl rfl rfl h75 rfl
          ·refine ⟨_, rfl, fun a H => ?_⟩
           replace H := H.weaken (L' := [(78, (.bool (decide (C71 = C66) && (decide (C72 = C68))))), (79, undef)]) ⟨rfl, rfl, trivial⟩
           replace H := H.ch (t := 78) (b := false) rfl h75
           refine s_skip H (wantN H rfl rfl rfl) rfl (lt_ rfl) fun a H => c_nil <| effQ.go [] H rfl rfl <| StT.more [] [15] (by kernel_rfl) (by kernel_rfl) (by kernel_rfl) .nil (.cons ?_ .nil)
           ·refine ⟨_, rfl, fun a H => ?_⟩
            replace H := H.weaken (L' := [(78, (.bool (decide (C71 = C66) && (decide (C72 = C68))))), (80, undef), (83, undef)]) ⟨rfl, rfl, rfl, trivial⟩
            replace H := H.ch (t := 78) (b := false) rfl h75
            refine s_skip H (wantN H rfl rfl rfl) rfl (lt_ rfl) fun a H => c_nil <| effQ.go [(16, (.bool false)), (17, (.bool false))] H rfl rfl <| StT.last [16, 17] (by kernel_rfl) (by kernel_rfl) (.cons ?_ (.cons ?_ .nil)) ?_
            ·refine Ans.mk rfl rfl fun a H => ?_
             replace H := H.ch (t := 78) (b := false) rfl h75
             refine s_pickF H rfl rfl rfl (lt_ rfl) fun a H => ?_
             exact Ans.fin H rfl
            ·refine Ans.mk rfl rfl fun a H => s_assign H rfl rfl (lt_ rfl) fun a H => ?_
             exact Ans.fin H rfl
            ·intro a H
             replace H := H.weaken (L' := [(0, (.bool false))]) ⟨rfl, trivial⟩
             exact h62 _ _ _ h (H.weaken ⟨rfl, trivial⟩)
      ·replace h := h.2 h65
       refine effQ.go [(2, (.bool (decide (F64 = 0)))), (3, (.bool (decide (F64 = 0)))), (4, undef), (6, undef)] H rfl rfl <| StT.more [2, 3, 4, 6] [5] (by kernel_rfl) (by kernel_rfl) (by kernel_rfl) (.cons ?_ (.cons ?_ (.cons ?_ (.cons ?_ .nil)))) (.cons ?_ .nil)
       ·refine Ans.mk rfl rfl fun a H => s_bin H rfl rfl rfl r_eql (lt_ rfl) fun a H => ?_
        exact Ans.fin H rfl
       ·refine Ans.mk rfl rfl fun a H => s_move H rfl rfl (lt_ rfl) fun a H => ?_
        exact Ans.fin H rfl
       ·exact .skip rfl rfl rfl rfl rfl rfl h65 rfl
       ·exact .skip rfl rfl rfl rfl rfl rfl h65 rfl
       ·refine ⟨_, rfl, fun a H => ?_⟩
        replace H := H.weaken (L' := [(72, (.bool (decide (F64 = 0)))), (73, undef)]) ⟨rfl, rfl, trivial⟩
        replace H := H.ch (t := 72) (b := false) rfl h65
        refine s_skip H (wantN H rfl rfl rfl) rfl (lt_ rfl) fun a H => c_nil <| effQ.go [(7, undef), (8, (.bool false)), (9, (.bool false)), (10, undef), (12, undef), (13, undef)] H rfl rfl <| StT.more [6, 7, 8, 9, 10, 12, 13] [11, 14] (by kernel_rfl) (by kernel_rfl) (by kernel_rfl) (.cons ?_ (.cons ?_ (.cons ?_ (.cons ?_ (.cons ?_ (.cons ?_ (.cons ?_ .nil))))))) (.cons ?_ (.cons ?_ .nil))
        ·exact .skip rfl rfl rfl rfl rfl rfl h65 rfl
        ·exact .skip rfl rfl rfl rfl rfl rfl h65 rfl
        ·refine Ans.mk rfl rfl fun a H => ?_
         replace H := H.ch (t := 72) (b := false) rfl h65
         refine s_pickF H rfl rfl rfl (lt_ rfl) fun a H => ?_
         exact Ans.fin H rfl
        ·refine Ans.mk rfl rfl fun a H => s_move H rfl rfl (lt_ rfl) fun a H => ?_
         exact Ans.fin H rfl
        ·exact .skip rfl rfl rfl rfl rfl rfl rfl rfl
        ·exact .skip rfl rfl rfl rfl rfl rfl rfl rfl
        ·exact .skip rfl rfl rfl rfl rfl rfl rfl rfl
        ·refine ⟨_, rfl, fun a H => ?_⟩
         replace h := h.1
         replace H := H.weaken (L' := [(78, (.bool false)), (79, undef)]) ⟨rfl, rfl, trivial⟩
         refine s_skip H (wantN H rfl rfl rfl) rfl (lt_ rfl) fun a H => c_nil <| effQ.go [] H rfl rfl <| StT.more [12, 13] [14] (by kernel_rfl) (by kernel_rfl) (by kernel_rfl) (.cons ?_ (.cons ?_ .nil)) (.cons ?_ .nil)
         ·exact .skip rfl rfl rfl rfl rfl rfl rfl rfl
         ·exact .skip rfl rfl rfl rfl rfl rfl rfl rfl
         ·refine ⟨_, rfl, fun a H => ?_⟩
          replace H := H.weaken (L' := [(78, (.bool false)), (82, undef)]) ⟨rfl, rfl, trivial⟩
          refine s_skip H (wantN H rfl rfl rfl) rfl (lt_ rfl) fun a H => c_nil <| effQ.go [] H rfl rfl <| StT.more [] [15] (by kernel_rfl) (by kernel_rfl) (by kernel_rfl) .nil (.cons ?_ .nil)
          ·refine ⟨_, rfl, fun a H => ?_⟩
           replace H := H.weaken (L' := [(78, (.bool false)), (80, undef), (83, undef)]) ⟨rfl, rfl, rfl, trivial⟩
           refine s_skip H (wantN H rfl rfl rfl) rfl (lt_ rfl) fun a H => c_nil <| effQ.go [(16, (.bool false)), (17, (.bool false))] H rfl rfl <| StT.last [16, 17] (by kernel_rfl) (by kernel_rfl) (.cons ?_ (.cons ?_ .nil)) ?_
           ·refine Ans.mk rfl rfl fun a H => s_pickF H rfl rfl rfl (lt_ rfl) fun a H => ?_
            exact Ans.fin H rfl
           ·refine Ans.mk rfl rfl fun a H => s_assign H rfl rfl (lt_ rfl) fun a H => ?_
            exact Ans.fin H rfl
           ·intro a H
            replace H := H.weaken (L' := [(0, (.bool false))]) ⟨rfl, trivial⟩
            exact h62 _ _ _ h (H.weaken ⟨rfl, trivial⟩)
        ·refine ⟨_, rfl, fun a H => ?_⟩
         replace h := h.2
         replace H := H.weaken (L' := [(78, (.bool false)), (82, undef)]) ⟨rfl, rfl, trivial⟩
         refine s_skip H (wantN H rfl rfl rfl) rfl (lt_ rfl) fun a H => c_nil <| effQ.go [] H rfl rfl <| StT.more [10] [11] (by kernel_rfl) (by kernel_rfl) (by kernel_rfl) (.cons ?_ .nil) (.cons ?_ .nil)
         ·exact .skip rfl rfl rfl rfl rfl rfl rfl rfl
         ·refine ⟨_, rfl, fun a H => ?_⟩
          replace H := H.weaken (L' := [(78, (.bool false)), (79, undef)]) ⟨rfl, rfl, trivial⟩
          refine s_skip H (wantN H rfl rfl rfl) rfl (lt_ rfl) fun a H => c_nil <| effQ.go [] H rfl rfl <| StT.more [] [15] (by kernel_rfl) (by kernel_rfl) (by kernel_rfl) .nil (.cons ?_ .nil)
          ·refine ⟨_, rfl, fun a H => ?_⟩
           replace H := H.weaken (L' := [(78, (.bool false)), (80, undef), (83, undef)]) ⟨rfl, rfl, rfl, trivial⟩
           refine s_skip H (wantN H rfl rfl rfl) rfl (lt_ rfl) fun a H => c_nil <| effQ.go [(16, (.bool false)), (17, (.bool false))] H rfl rfl <| StT.last [16, 17] (by kernel_rfl) (by kernel_rfl) (.cons ?_ (.cons ?_ .nil)) ?_
           ·refine Ans.mk rfl rfl fun a H => s_pickF H rfl rfl rfl (lt_ rfl) fun a H => ?_
            exact Ans.fin H rfl
           ·refine Ans.mk rfl rfl fun a H => s_assign H rfl rfl (lt_ rfl) fun a H => ?_
            exact Ans.fin H rfl
           ·intro a H
            replace H := H.weaken (L' := [(0, (.bool false))]) ⟨rfl, trivial⟩
            exact h62 _ _ _ h (H.weaken ⟨rfl, trivial⟩)
   clear h150
   replace H := H.weaken (L' := [(1, (.pointer N4)), (3, (.pointer (some (blk b13)))), (4, (.pointer (some (blk b18)))), (5, (.bool A33)), (6, (.i A34)), (7, (.bool A41)), (8, (.i A42))]) ⟨rfl, rfl, rfl, rfl, rfl, rfl, rfl, trivial⟩
   rcases Bool.eq_false_or_eq_true (!A33) with h126 | h126
   ·replace h := h.1 h126
    refine c_any (V := [(0, (.bool A33)), (1, (.bool (!A33))), (2, (.bool (!A33))), (3, undef), (4, undef), (5, (.bool true)), (6, (.bool true)), (7, undef), (8, undef), (9, (.bool true)), (10, (.bool true)), (11, undef), (12, undef), (13, (.bool true)), (14, (.bool true)), (15, undef)]) (⟨[[], [0], [1], [2], [2, 3], [2, 4], [2, 5], [6], [6, 7], [6, 8], [6, 9], [10], [10, 11], [10, 12], [10, 13], [14], [14, 15], [14, 16], [14, 17], [16, 18], [19], [19, 20], [19], [19, 21, 22], [19, 23]], [some 39, some 40, some 41, some 42, some 43, some 44, some 45, some 46, some 47, some 48, some 49, some 50, some 51, some 52, some 53, some 54, some 55, some 56, some 57, some 58, some 59, some 60, some 61, some 62, some 63], [16, 21], [0, 0, 0, 0, 0, 0, 0, 0, 0, 0, 0, 0, 0, 0, 0, 0, 0, 1, 1, 1, 1, 1, 1, 2, 2], [0, 0, 0, 0, 0, 0, 0, 0, 0, 0, 0, 0, 0, 0, 0, 0, 1, 1, 1, 1, 1, 2, 2, 2, 2]⟩ : Rg) [(1, (.pointer N4)), (3, (.pointer (some (blk b13)))), (4, (.pointer (some (blk b18)))), (5, (.bool A33)), (6, (.i A34)), (7, (.bool A41)), (8, (.i A42))] mixed (by kernel_rfl) H ?_
    refine Stg.eff [0, 1, 2, 3, 4, 5, 6, 7, 8, 9, 10, 11, 12, 13, 14, 15] (by kernel_rfl) rfl (.cons ?_ (.cons ?_ (.cons ?_ (.cons ?_ (.cons ?_ (.cons ?_ (.cons ?_ (.cons ?_ (.cons ?_ (.cons ?_ (.cons ?_ (.cons ?_ (.cons ?_ (.cons ?_ (.cons ?_ (.cons ?_ .nil)))))))))))))))) ?_
    ·refine Ans.mk rfl rfl fun a H => s_move H rfl rfl (lt_ rfl) fun a H => ?_
     exact Ans.fin H rfl
    ·refine Ans.mk rfl rfl fun a H => s_un H rfl rfl r_not (lt_ rfl) fun a H => ?_
     exact Ans.fin H rfl
    ·refine Ans.mk rfl rfl fun a H => s_move H rfl rfl (lt_ rfl) fun a H => ?_
     exact Ans.fin H rfl
    ·exact .skip rfl rfl rfl rfl rfl rfl h126 rfl
    ·exact .skip rfl rfl rfl rfl rfl rfl h126 rfl
    ·refine Ans.mk rfl rfl fun a H => ?_
     replace H := H.ch (t := 41) (b := true) rfl h126
     refine s_pickT H rfl rfl rfl (lt_ rfl) fun a H => ?_
     exact Ans.fin H rfl
    ·refine Ans.mk rfl rfl fun a H => s_move H rfl rfl (lt_ rfl) fun a H => ?_
     exact Ans.fin H rfl
    ·exact .skip rfl rfl rfl rfl rfl rfl rfl rfl
    ·exact .skip rfl rfl rfl rfl rfl rfl rfl rfl
    ·refine Ans.mk rfl rfl fun a H => s_pickT H rfl rfl rfl (lt_ rfl) fun a H => ?_
     exact Ans.fin H rfl
    ·refine Ans.mk rfl rfl fun a H => s_move H rfl rfl (lt_ rfl) fun a H => ?_
     exact Ans.fin H rfl
    ·exact .skip rfl rfl rfl rfl rfl rfl rfl rfl
    ·exact .skip rfl rfl rfl rfl rfl rfl rfl rfl
    ·refine Ans.mk rfl rfl fun a H => s_pickT H rfl rfl rfl (lt_ rfl) fun a H => ?_
     exact Ans.fin H rfl
    ·refine Ans.mk rfl rfl fun a H => s_move H rfl rfl (lt_ rfl) fun a H => ?_
     exact Ans.fin H rfl
    ·exact .skip rfl rfl rfl rfl rfl rfl rfl rfl
    ·intro a H
     replace H := H.weaken (L' := [(53, (.bool true)), (54, undef)]) ⟨rfl, rfl, trivial⟩
     refine s_skip H (wantN H rfl rfl rfl) rfl (lt_ rfl) fun a H => c_nil <| effQ.go [(17, undef), (18, (.bool true)), (19, (.bool true)), (20, undef), (22, undef)] H rfl rfl <| Stg.eff [17, 18, 19, 20, 22] (by kernel_rfl) rfl (.cons ?_ (.cons ?_ (.cons ?_ (.cons ?_ (.cons ?_ .nil))))) ?_
     ·exact .skip rfl rfl rfl rfl rfl rfl rfl rfl
     ·refine Ans.mk rfl rfl fun a H => s_pickT H rfl rfl rfl (lt_ rfl) fun a H => ?_
      exact Ans.fin H rfl
     ·refine Ans.mk rfl rfl fun a H => s_move H rfl rfl (lt_ rfl) fun a H => ?_
      exact Ans.fin H rfl
     ·exact .skip rfl rfl rfl rfl rfl rfl rfl rfl
     ·exact .skip rfl rfl rfl rfl rfl rfl rfl rfl
     ·intro a H
      replace H := H.weaken (L' := [(58, (.bool true)), (59, undef)]) ⟨rfl, rfl, trivial⟩
      refine s_skip H (wantN H rfl rfl rfl) rfl (lt_ rfl) fun a H => c_nil <| effQ.go [(23, undef), (24, (.bool true))] H rfl rfl <| Stg.fin [22, 23, 24] (by kernel_rfl) (.cons ?_ (.cons ?_ (.cons ?_ .nil))) ?_
      ·exact .skip rfl rfl rfl rfl rfl rfl rfl rfl
      ·exact .skip rfl rfl rfl rfl rfl rfl rfl rfl
      ·refine Ans.mk rfl rfl fun a H => s_pickT H rfl rfl rfl (lt_ rfl) fun a H => ?_
       exact Ans.fin H rfl
      ·intro a H
       replace H := H.weaken (L' := [(1, (.pointer N4)), (4, (.pointer (some (blk b18)))), (63, (.bool true))]) ⟨rfl, rfl, rfl, trivial⟩
       exact h125 _ _ _ h (H.weaken ⟨rfl, rfl, rfl, trivial⟩)
   ·replace h := h.2 h126
    rcases Bool.eq_false_or_eq_true (!A41) with h127 | h127
    ·replace h := h.1 h127
     refine c_any (V := [(0, (.bool A33)), (1, (.bool (!A33))), (2, (.bool (!A33))), (3, (.bool A41)), (4, (.bool (!A41))), (5, (.bool (!A41))), (6, (.bool (!A41))), (7, undef), (8, undef), (9, (.bool true)), (10, (.bool true)), (11, undef), (12, undef), (13, (.bool true)), (14, (.bool true)), (15, undef)]) (⟨[[], [0], [1], [2], [2, 3], [2, 4], [2, 5], [6], [6, 7], [6, 8], [6, 9], [10], [10, 11], [10, 12], [10, 13], [14], [14, 15], [14, 16], [14, 17], [16, 18], [19], [19, 20], [19], [19, 21, 22], [19, 23]], [some 39, some 40, some 41, some 42, some 43, some 44, some 45, some 46, some 47, some 48, some 49, some 50, some 51, some 52, some 53, some 54, some 55, some 56, some 57, some 58, some 59, some 60, some 61, some 62, some 63], [16, 21], [0, 0, 0, 0, 0, 0, 0, 0, 0, 0, 0, 0, 0, 0, 0, 0, 0, 1, 1, 1, 1, 1, 1, 2, 2], [0, 0, 0, 0, 0, 0, 0, 0, 0, 0, 0, 0, 0, 0, 0, 0, 1, 1, 1, 1, 1, 2, 2, 2, 2]⟩ : Rg) [(1, (.pointer N4)), (3, (.pointer (some (blk b13)))), (4, (.pointer (some (blk b18)))), (5, (.bool A33)), (6, (.i A34)), (7, (.bool A41)), (8, (.i A42))] mixed (by kernel_rfl) H ?_
     refine Stg.eff [0, 1, 2, 3, 4, 5, 6, 7, 8, 9, 10, 11, 12, 13, 14, 15] (by kernel_rfl) rfl (.cons ?_ (.cons ?_ (.cons ?_ (.cons ?_ (.cons ?_ (.cons ?_ (.cons ?_ (.cons ?_ (.cons ?_ (.cons ?_ (.cons ?_ (.cons ?_ (.cons ?_ (.cons ?_ (.cons ?_ (.cons ?_ .nil)))))))))))))))) ?_
     ·refine Ans.mk rfl rfl fun a H => s_move H rfl rfl (lt_ rfl) fun a H => ?_
      exact Ans.fin H rfl
     ·refine Ans.mk rfl rfl fun a H => s_un H rfl rfl r_not (lt_ rfl) fun a H => ?_
      exact Ans.fin H rfl
     ·refine Ans.mk rfl rfl fun a H => s_move H rfl rfl (lt_ rfl) fun a H => ?_
      exact Ans.fin H rfl
     ·refine Ans.mk rfl rfl fun a H => ?_
      replace H := H.ch (t := 41) (b := false) rfl h126
      refine s_move H (wantG H rfl rfl) rfl (lt_ rfl) fun a H => ?_
      exact Ans.fin H rfl
     ·refine Ans.mk rfl rfl fun a H => ?_
      replace H := H.ch (t := 41) (b := false) rfl h126
      refine s_un H (wantG H rfl rfl) rfl r_not (lt_ rfl) fun a H => ?_
      exact Ans.fin H rfl
     ·refine Ans.mk rfl rfl fun a H => ?_
      replace H := H.ch (t := 41) (b := false) rfl h126
      refine s_pickF H rfl rfl rfl (lt_ rfl) fun a H => ?_
      exact Ans.fin H rfl
     ·refine Ans.mk rfl rfl fun a H => s_move H rfl rfl (lt_ rfl) fun a H => ?_
      exact Ans.fin H rfl
     ·exact .skip rfl rfl rfl rfl rfl rfl h127 rfl
     ·exact .skip rfl rfl rfl rfl rfl rfl h127 rfl
     ·refine Ans.mk rfl rfl fun a H => ?_
      replace H := H.ch (t := 45) (b := true) rfl h127
      refine s_pickT H rfl rfl rfl (lt_ rfl) fun a H => ?_
      exact Ans.fin H rfl
     ·refine Ans.mk rfl rfl fun a H => s_move H rfl rfl (lt_ rfl) fun a H => ?_
      exact Ans.fin H rfl
     ·exact .skip rfl rfl rfl rfl rfl rfl rfl rfl
     ·exact .skip rfl rfl rfl rfl rfl rfl rfl rfl
     ·refine Ans.mk rfl rfl fun a H => s_pickT H rfl rfl rfl (lt_ rfl) fun a H => ?_
      exact Ans.fin H rfl
     ·refine Ans.mk rfl rfl fun a H => s_move H rfl rfl (lt_ rfl) fun a H => ?_
      exact Ans.fin H rfl
     ·exact .skip rfl rfl rfl rfl rfl rfl rfl rfl
     ·intro a H
      replace H := H.weaken (L' := [(53, (.bool true)), (54, undef)]) ⟨rfl, rfl, trivial⟩
      refine s_skip H (wantN H rfl rfl rfl) rfl (lt_ rfl) fun a H => c_nil <| effQ.go [(17, undef), (18, (.bool true)), (19, (.bool true)), (20, undef), (22, undef)] H rfl rfl <| Stg.eff [17, 18, 19, 20, 22] (by kernel_rfl) rfl (.cons ?_ (.cons ?_ (.cons ?_ (.cons ?_ (.cons ?_ .nil))))) ?_
      ·exact .skip rfl rfl rfl rfl rfl rfl rfl rfl
      ·refine Ans.mk rfl rfl fun a H => s_pickT H rfl rfl rfl (lt_ rfl) fun a H => ?_
       exact Ans.fin H rfl
      ·refine Ans.mk rfl rfl fun a H => s_move H rfl rfl (lt_ rfl) fun a H => ?_
       exact Ans.fin H rfl
      ·exact .skip rfl rfl rfl rfl rfl rfl rfl rfl
      ·exact .skip rfl rfl rfl rfl rfl rfl rfl rfl
      ·intro a H
       replace H := H.weaken (L' := [(58, (.bool true)), (59, undef)]) ⟨rfl, rfl, trivial⟩
       refine s_skip H (wantN H rfl rfl rfl) rfl (lt_ rfl) fun a H => c_nil <| effQ.go [(23, undef), (24, (.bool true))] H rfl rfl <| Stg.fin [22, 23, 24] (by kernel_rfl) (.cons ?_ (.cons ?_ (.cons ?_ .nil))) ?_
       ·exact .skip rfl rfl rfl rfl rfl rfl rfl rfl
       ·exact .skip rfl rfl rfl rfl rfl rfl rfl rfl
       ·refine Ans.mk rfl rfl fun a H => s_pickT H rfl rfl rfl (lt_ rfl) fun a H => ?_
        exact Ans.fin H rfl
       ·intro a H
        replace H := H.weaken (L' := [(1, (.pointer N4)), (4, (.pointer (some (blk b18)))), (63, (.bool true))]) ⟨rfl, rfl, rfl, trivial⟩
        exact h125 _ _ _ h (H.weaken ⟨rfl, rfl, rfl, trivial⟩)
    ·replace h := h.2 h127
     rcases Bool.eq_false_or_eq_true (decide (A34 ≠ 0)) with h128 | h128
     ·replace h := h.1 h128
      refine c_any (V := [(0, (.bool A33)), (1, (.bool (!A33))), (2, (.bool (!A33))), (3, (.bool A41)), (4, (.bool (!A41))), (5, (.bool (!A41))), (6, (.bool (!A41))), (7, (.i A34)), (8, (.bool (decide (A34 ≠ 0)))), (9, (.bool (decide (A34 ≠ 0)))), (10, (.bool (decide (A34 ≠ 0)))), (11, undef), (12, undef), (13, (.bool true)), (14, (.bool true)), (15, undef)]) (⟨[[], [0], [1], [2], [2, 3], [2, 4], [2, 5], [6], [6, 7], [6, 8], [6, 9], [10], [10, 11], [10, 12], [10, 13], [14], [14, 15], [14, 16], [14, 17], [16, 18], [19], [19, 20], [19], [19, 21, 22], [19, 23]], [some 39, some 40, some 41, some 42, some 43, some 44, some 45, some 46, some 47, some 48, some 49, some 50, some 51, some 52, some 53, some 54, some 55, some 56, some 57, some 58, some 59, some 60, some 61, some 62, some 63], [16, 21], [0, 0, 0, 0, 0, 0, 0, 0, 0, 0, 0, 0, 0, 0, 0, 0, 0, 1, 1, 1, 1, 1, 1, 2, 2], [0, 0, 0, 0, 0, 0, 0, 0, 0, 0, 0, 0, 0, 0, 0, 0, 1, 1, 1, 1, 1, 2, 2, 2, 2]⟩ : Rg) [(1, (.pointer N4)), (3, (.pointer (some (blk b13)))), (4, (.pointer (some (blk b18)))), (5, (.bool A33)), (6, (.i A34)), (7, (.bool A41)), (8, (.i A42))] mixed (by kernel_rfl) H ?_
      refine Stg.eff [0, 1, 2, 3, 4, 5, 6, 7, 8, 9, 10, 11, 12, 13, 14, 15] (by kernel_rfl) rfl (.cons ?_ (.cons ?_ (.cons ?_ (.cons ?_ (.cons ?_ (.cons ?_ (.cons ?_ (.cons ?_ (.cons ?_ (.cons ?_ (.cons ?_ (.cons ?_ (.cons ?_ (.cons ?_ (.cons ?_ (.cons ?_ .nil)))))))))))))))) ?_
      ·refine Ans.mk rfl rfl fun a H => s_move H rfl rfl (lt_ rfl) fun a H => ?_
       exact Ans.fin H rfl
      ·refine Ans.mk rfl rfl fun a H => s_un H rfl rfl r_not (lt_ rfl) fun a H => ?_
       exact Ans.fin H rfl
      ·refine Ans.mk rfl rfl fun a H => s_move H rfl rfl (lt_ rfl) fun a H => ?_
       exact Ans.fin H rfl
      ·refine Ans.mk rfl rfl fun a H => ?_
       replace H := H.ch (t := 41) (b := false) rfl h126
       refine s_move H (wantG H rfl rfl) rfl (lt_ rfl) fun a H => ?_
       exact Ans.fin H rfl
      ·refine Ans.mk rfl rfl fun a H => ?_
       replace H := H.ch (t := 41) (b := false) rfl h126
       refine s_un H (wantG H rfl rfl) rfl r_not (lt_ rfl) fun a H => ?_
       exact Ans.fin H rfl
      ·refine Ans.mk rfl rfl fun a H => ?_
       replace H := H.ch (t := 41) (b := false) rfl h126
       refine s_pickF H rfl rfl rfl (lt_ rfl) fun a H => ?_
       exact Ans.fin H rfl
      ·refine Ans.mk rfl rfl fun a H => s_move H rfl rfl (lt_ rfl) fun a H => ?_
       exact Ans.fin H rfl
      ·refine Ans.mk rfl rfl fun a H => ?_
       replace H := H.ch (t := 45) (b := false) rfl h127
       refine s_move H (wantG H rfl rfl) rfl (lt_ rfl) fun a H => ?_
       exact Ans.fin H rfl
      ·refine Ans.mk rfl rfl fun a H => ?_
       replace H := H.ch (t := 45) (b := false) rfl h127
       refine s_bin H (wantG H rfl rfl) rfl rfl r_neq (lt_ rfl) fun a H => ?_
       exact Ans.fin H rfl
      ·refine Ans.mk rfl rfl fun a H => ?_
       replace H := H.ch (t := 45) (b := false) rfl h127
       refine s_pickF H rfl rfl rfl (lt_ rfl) fun a H => ?_
       exact Ans.fin H rfl
      ·refine Ans.mk rfl rfl fun a H => s_move H rfl rfl (lt_ rfl) fun a H => ?_
       exact Ans.fin H rfl
      ·exact .skip rfl rfl rfl rfl rfl rfl h128 rfl
      ·exact .skip rfl rfl rfl rfl rfl rfl h128 rfl
      ·refine Ans.mk rfl rfl fun a H => ?_
       replace H := H.ch (t := 49) (b := true) rfl h128
       refine s_pickT H rfl rfl rfl (lt_ rfl) fun a H => ?_
       exact Ans.fin H rfl
      ·refine Ans.mk rfl rfl fun a H => s_move H rfl rfl (lt_ rfl) fun a H => ?_
       exact Ans.fin H rfl
      ·exact .skip rfl rfl rfl rfl rfl rfl rfl rfl
      ·intro a H
       replace H := H.weaken (L' := [(53, (.bool true)), (54, undef)]) ⟨rfl, rfl, trivial⟩
       refine s_skip H (wantN H rfl rfl rfl) rfl (lt_ rfl) fun a H => c_nil <| effQ.go [(17, undef), (18, (.bool true)), (19, (.bool true)), (20, undef), (22, undef)] H rfl rfl <| Stg.eff [17, 18, 19, 20, 22] (by kernel_rfl) rfl (.cons ?_ (.cons ?_ (.cons ?_ (.cons ?_ (.cons ?_ .nil))))) ?_
       ·exact .skip rfl rfl rfl rfl rfl rfl rfl rfl
       ·refine Ans.mk rfl rfl fun a H => s_pickT H rfl rfl rfl (lt_ rfl) fun a H => ?_
        exact Ans.fin H rfl
       ·refine Ans.mk rfl rfl fun a H => s_move H rfl rfl (lt_ rfl) fun a H => ?_
        exact Ans.fin H rfl
       ·exact .skip rfl rfl rfl rfl rfl rfl rfl rfl
       ·exact .skip rfl rfl rfl rfl rfl rfl rfl rfl
       ·intro a H
        replace H := H.weaken (L' := [(58, (.bool true)), (59, undef)]) ⟨rfl, rfl, trivial⟩
        refine s_skip H (wantN H rfl rfl rfl) rfl (lt_ rfl) fun a H => c_nil <| effQ.go [(23, undef), (24, (.bool true))] H rfl rfl <| Stg.fin [22, 23, 24] (by kernel_rfl) (.cons ?_ (.cons ?_ (.cons ?_ .nil))) ?_
        ·exact .skip rfl rfl rfl rfl rfl rfl rfl rfl
        ·exact .skip rfl rfl rfl rfl rfl rfl rfl rfl
        ·refine Ans.mk rfl rfl fun a H => s_pickT H rfl rfl rfl (lt_ rfl) fun a H => ?_
         exact Ans.fin H rfl
        ·intro a H
         replace H := H.weaken (L' := [(1, (.pointer N4)), (4, (.pointer (some (blk b18)))), (63, (.bool true))]) ⟨rfl, rfl, rfl, trivial⟩
         exact h125 _ _ _ h (H.weaken ⟨rfl, rfl, rfl, trivial⟩)
     ·replace h := h.2 h128
      rcases Bool.eq_false_or_eq_true (decide (A42 ≠ 0)) with h129 | h129
      ·replace h := h.1 h129
       refine c_any (V := [(0, (.bool A33)), (1, (.bool (!A33))), (2, (.bool (!A33))), (3, (.bool A41)), (4, (.bool (!A41))), (5, (.bool (!A41))), (6, (.bool (!A41))), (7, (.i A34)), (8, (.bool (decide (A34 ≠ 0)))), (9, (.bool (decide (A34 ≠ 0)))), (10, (.bool (decide (A34 ≠ 0)))), (11, (.i A42)), (12, (.bool (decide (A42 ≠ 0)))), (13, (.bool (decide (A42 ≠ 0)))), (14, (.bool (decide (A42 ≠ 0)))), (15, undef)]) (⟨[[], [0], [1], [2], [2, 3], [2, 4], [2, 5], [6], [6, 7], [6, 8], [6, 9], [10], [10, 11], [10, 12], [10, 13], [14], [14, 15], [14, 16], [14, 17], [16, 18], [19], [19, 20], [19], [19, 21, 22], [19, 23]], [some 39, some 40, some 41, some 42, some 43, some 44, some 45, some 46, some 47, some 48, some 49, some 50, some 51, some 52, some 53, some 54, some 55, some 56, some 57, some 58, some 59, some 60, some 61, some 62, some 63], [16, 21], [0, 0, 0, 0, 0, 0, 0, 0, 0, 0, 0, 0, 0, 0, 0, 0, 0, 1, 1, 1, 1, 1, 1, 2, 2], [0, 0, 0, 0, 0, 0, 0, 0, 0, 0, 0, 0, 0, 0, 0, 0, 1, 1, 1, 1, 1, 2, 2, 2, 2]⟩ : Rg) [(1, (.pointer N4)), (3, (.pointer (some (blk b13)))), (4, (.pointer (some (blk b18)))), (5, (.bool A33)), (6, (.i A34)), (7, (.bool A41)), (8, (.i A42))] mixed (by kernel_rfl) H ?_
       refine Stg.eff [0, 1, 2, 3, 4, 5, 6, 7, 8, 9, 10, 11, 12, 13, 14, 15] (by kernel_rfl) rfl (.cons ?_ (.cons ?_ (.cons ?_ (.cons ?_ (.cons ?_ (.cons ?_ (.cons ?_ (.cons ?_ (.cons ?_ (.cons ?_ (.cons ?_ (.cons ?_ (.cons ?_ (.cons ?_ (.cons ?_ (.cons ?_ .nil)))))))))))))))) ?_
       ·refine Ans.mk rfl rfl fun a H => s_move H rfl rfl (lt_ rfl) fun a H => ?_
        exact Ans.fin H rfl
       ·refine Ans.mk rfl rfl fun a H => s_un H rfl rfl r_not (lt_ rfl) fun a H => ?_
        exact Ans.fin H rfl
       ·refine Ans.mk rfl rfl fun a H => s_move H rfl rfl (lt_ rfl) fun a H => ?_
        exact Ans.fin H rfl
       ·refine Ans.mk rfl rfl fun a H => ?_
        replace H := H.ch (t := 41) (b := false) rfl h126
        refine s_move H (wantG H rfl rfl) rfl (lt_ rfl) fun a H => ?_
        exact Ans.fin H rfl
       ·refine Ans.mk rfl rfl fun a H => ?_
        replace H := H.ch (t := 41) (b := false) rfl h126
        refine s_un H (wantG H rfl rfl) rfl r_not (lt_ rfl) fun a H => ?_
        exact Ans.fin H rfl
       ·refine Ans.mk rfl rfl fun a H => ?_
        replace H := H.ch (t := 41) (b := false) rfl h126
        refine s_pickF H rfl rfl rfl (lt_ rfl) fun a H => ?_
        exact Ans.fin H rfl
       ·refine Ans.mk rfl rfl fun a H => s_move H rfl rfl (lt_ rfl) fun a H => ?_
        exact Ans.fin H rfl
       ·refine Ans.mk rfl rfl fun a H => ?_
        replace H := H.ch (t := 45) (b := false) rfl h127
        refine s_move H (wantG H rfl rfl) rfl (lt_ rfl) fun a H => ?_
        exact Ans.fin H rfl
       ·refine Ans.mk rfl rfl fun a H => ?_
        replace H := H.ch (t := 45) (b := false) rfl h127
        refine s_bin H (wantG H rfl rfl) rfl rfl r_neq (lt_ rfl) fun a H => ?_
        exact Ans.fin H rfl
       ·refine Ans.mk rfl rfl fun a H => ?_
        replace H := H.ch (t := 45) (b := false) rfl h127
        refine s_pickF H rfl rfl rfl (lt_ rfl) fun a H => ?_
        exact Ans.fin H rfl
       ·refine Ans.mk rfl rfl fun a H => s_move H rfl rfl (lt_ rfl) fun a H => ?_
        exact Ans.fin H rfl
       ·refine Ans.mk rfl rfl fun a H => ?_
        replace H := H.ch (t := 49) (b := false) rfl h128
        refine s_move H (wantG H rfl rfl) rfl (lt_ rfl) fun a H => ?_
        exact Ans.fin H rfl
       ·refine Ans.mk rfl rfl fun a H => ?_
        replace H := H.ch (t := 49) (b := false) rfl h128
        refine s_bin H (wantG H rfl rfl) rfl rfl r_neq (lt_ rfl) fun a H => ?_
        exact Ans.fin H rfl
       ·refine Ans.mk rfl rfl fun a H => ?_
        replace H := H.ch (t := 49) (b := false) rfl h128
        refine s_pickF H rfl rfl rfl (lt_ rfl) fun a H => ?_
        exact Ans.fin H rfl
       ·refine Ans.mk rfl rfl fun a H => s_move H rfl rfl (lt_ rfl) fun a H => ?_
        exact Ans.fin H rfl
       ·exact .skip rfl rfl rfl rfl rfl rfl h129 rfl
       ·intro a H
        replace H := H.weaken (L' := [(53, (.bool (decide (A42 ≠ 0)))), (54, undef)]) ⟨rfl, rfl, trivial⟩
        replace H := H.ch (t := 53) (b := true) rfl h129
        refine s_skip H (wantN H rfl rfl rfl) rfl (lt_ rfl) fun a H => c_nil <| effQ.go [(17, undef), (18, (.bool true)), (19, (.bool true)), (20, undef), (22, undef)] H rfl rfl <| Stg.eff [17, 18, 19, 20, 22] (by kernel_rfl) rfl (.cons ?_ (.cons ?_ (.cons ?_ (.cons ?_ (.cons ?_ .nil))))) ?_
        ·exact .skip rfl rfl rfl rfl rfl rfl h129 rfl
        ·refine Ans.mk rfl rfl fun a H => ?_
         replace H := H.ch (t := 53) (b := true) rfl h129
         refine s_pickT H rfl rfl rfl (lt_ rfl) fun a H => ?_
         exact Ans.fin H rfl
        ·refine Ans.mk rfl rfl fun a H => s_move H rfl rfl (lt_ rfl) fun a H => ?_
         exact Ans.fin H rfl
        ·exact .skip rfl rfl rfl rfl rfl rfl rfl rfl
        ·exact .skip rfl rfl rfl rfl rfl rfl rfl rfl
        ·intro a H
         replace H := H.weaken (L' := [(58, (.bool true)), (59, undef)]) ⟨rfl, rfl, trivial⟩
         refine s_skip H (wantN H rfl rfl rfl) rfl (lt_ rfl) fun a H => c_nil <| effQ.go [(23, undef), (24, (.bool true))] H rfl rfl <| Stg.fin [22, 23, 24] (by kernel_rfl) (.cons ?_ (.cons ?_ (.cons ?_ .nil))) ?_
         ·exact .skip rfl rfl rfl rfl rfl rfl rfl rfl
         ·exact .skip rfl rfl rfl rfl rfl rfl rfl rfl
         ·refine Ans.mk rfl rfl fun a H => s_pickT H rfl rfl rfl (lt_ rfl) fun a H => ?_
          exact Ans.fin H rfl
         ·intro a H
          replace H := H.weaken (L' := [(1, (.pointer N4)), (4, (.pointer (some (blk b18)))), (63, (.bool true))]) ⟨rfl, rfl, rfl, trivial⟩
          exact h125 _ _ _ h (H.weaken ⟨rfl, rfl, rfl, trivial⟩)
      ·replace h := h.2 h129
       refine c_any (V := [(0, (.bool A33)), (1, (.bool (!A33))), (2, (.bool (!A33))), (3, (.bool A41)), (4, (.bool (!A41))), (5, (.bool (!A41))), (6, (.bool (!A41))), (7, (.i A34)), (8, (.bool (decide (A34 ≠ 0)))), (9, (.bool (decide (A34 ≠ 0)))), (10, (.bool (decide (A34 ≠ 0)))), (11, (.i A42)), (12, (.bool (decide (A42 ≠ 0)))), (13, (.bool (decide (A42 ≠ 0)))), (14, (.bool (decide (A42 ≠ 0)))), (15, (.pointer N4))]) (⟨[[], [0], [1], [2], [2, 3], [2, 4], [2, 5], [6], [6, 7], [6, 8], [6, 9], [10], [10, 11], [10, 12], [10, 13], [14], [14, 15], [14, 16], [14, 17], [16, 18], [19], [19, 20], [19], [19, 21, 22], [19, 23]], [some 39, some 40, some 41, some 42, some 43, some 44, some 45, some 46, some 47, some 48, some 49, some 50, some 51, some 52, some 53, some 54, some 55, some 56, some 57, some 58, some 59, some 60, some 61, some 62, some 63], [16, 21], [0, 0, 0, 0, 0, 0, 0, 0, 0, 0, 0, 0, 0, 0, 0, 0, 0, 1, 1, 1, 1, 1, 1, 2, 2], [0, 0, 0, 0, 0, 0, 0, 0, 0, 0, 0, 0, 0, 0, 0, 0, 1, 1, 1, 1, 1, 2, 2, 2, 2]⟩ : Rg) [(1, (.pointer N4)), (3, (.pointer (some (blk b13)))), (4, (.pointer (some (blk b18)))), (5, (.bool A33)), (6, (.i A34)), (7, (.bool A41)), (8, (.i A42))] mixed (by kernel_rfl) H ?_
       refine Stg.eff [0, 1, 2, 3, 4, 5, 6, 7, 8, 9, 10, 11, 12, 13, 14, 15] (by kernel_rfl) rfl (.cons ?_ (.cons ?_ (.cons ?_ (.cons ?_ (.cons ?_ (.cons ?_ (.cons ?_ (.cons ?_ (.cons ?_ (.cons ?_ (.cons ?_ (.cons ?_ (.cons ?_ (.cons ?_ (.cons ?_ (.cons ?_ .nil)))))))))))))))) ?_
       ·refine Ans.mk rfl rfl fun a H => s_move H rfl rfl (lt_ rfl) fun a H => ?_
        exact Ans.fin H rfl
       ·refine Ans.mk rfl rfl fun a H => s_un H rfl rfl r_not (lt_ rfl) fun a H => ?_
        exact Ans.fin H rfl
       ·refine Ans.mk rfl rfl fun a H => s_move H rfl rfl (lt_ rfl) fun a H => ?_
        exact Ans.fin H rfl
       ·refine Ans.mk rfl rfl fun a H => ?_
        replace H := H.ch (t := 41) (b := false) rfl h126
        refine s_move H (wantG H rfl rfl) rfl (lt_ rfl) fun a H => ?_
        exact Ans.fin H rfl
       ·refine Ans.mk rfl rfl fun a H => ?_
        replace H := H.ch (t := 41) (b := false) rfl h126
        refine s_un H (wantG H rfl rfl) rfl r_not (lt_ rfl) fun a H => ?_
        exact Ans.fin H rfl
       ·refine Ans.mk rfl rfl fun a H => ?_
        replace H := H.ch (t := 41) (b := false) rfl h126
        refine s_pickF H rfl rfl rfl (lt_ rfl) fun a H => ?_
        exact Ans.fin H rfl
       ·refine Ans.mk rfl rfl fun a H => s_move H rfl rfl (lt_ rfl) fun a H => ?_
        exact Ans.fin H rfl
       ·refine Ans.mk rfl rfl fun a H => ?_
        replace H := H.ch (t := 45) (b := false) rfl h127
        refine s_move H (wantG H rfl rfl) rfl (lt_ rfl) fun a H => ?_
        exact Ans.fin H rfl
       ·refine Ans.mk rfl rfl fun a H => ?_
        replace H := H.ch (t := 45) (b := false) rfl h127
        refine s_bin H (wantG H rfl rfl) rfl rfl r_neq (lt_ rfl) fun a H => ?_
        exact Ans.fin H rfl
       ·refine Ans.mk rfl rfl fun a H => ?_
        replace H := H.ch (t := 45) (b := false) rfl h127
        refine s_pickF H rfl rfl rfl (lt_ rfl) fun a H => ?_
        exact Ans.fin H rfl
       ·refine Ans.mk rfl rfl fun a H => s_move H rfl rfl (lt_ rfl) fun a H => ?_
        exact Ans.fin H rfl
       ·refine Ans.mk rfl rfl fun a H => ?_
        replace H := H.ch (t := 49) (b := false) rfl h128
        refine s_move H (wantG H rfl rfl) rfl (lt_ rfl) fun a H => ?_
        exact Ans.fin H rfl
       ·refine Ans.mk rfl rfl fun a H => ?_
        replace H := H.ch (t := 49) (b := false) rfl h128
        refine s_bin H (wantG H rfl rfl) rfl rfl r_neq (lt_ rfl) fun a H => ?_
        exact Ans.fin H rfl
       ·refine Ans.mk rfl rfl fun a H => ?_
        replace H := H.ch (t := 49) (b := false) rfl h128
        refine s_pickF H rfl rfl rfl (lt_ rfl) fun a H => ?_
        exact Ans.fin H rfl
       ·refine Ans.mk rfl rfl fun a H => s_move H rfl rfl (lt_ rfl) fun a H => ?_
        exact Ans.fin H rfl
       ·refine Ans.mk rfl rfl fun a H => ?_
        replace H := H.ch (t := 53) (b := false) rfl h129
        refine s_move H (wantG H rfl rfl) rfl (lt_ rfl) fun a H => ?_
        exact Ans.fin H rfl
       ·intro a H
        replace H := H.weaken (L' := [(53, (.bool (decide (A42 ≠ 0)))), (54, (.pointer N4))]) ⟨rfl, rfl, trivial⟩
        replace H := H.ch (t := 53) (b := false) rfl h129
        refine s_call H (wantG H rfl rfl) body_21 (H.args (vs := [(.pointer N4), (.string (ByteArray.mk #[107]))]) rfl) (lt_ rfl) h ?_ (fun c w' h H => e_panic (P := PP) (fn := Tryz.f10) H h)
        clear H h a
        rintro _ w130 a ⟨F131, rfl, h⟩ H
        refine c_nil ?_
        rcases Bool.eq_false_or_eq_true (decide (F131 ≠ 1)) with h132 | h132
        ·replace h := h.1 h132
         refine effQ.go [(17, (.bool (decide (F131 ≠ 1)))), (18, (.bool (decide (F131 ≠ 1)))), (19, (.bool (decide (F131 ≠ 1)))), (20, undef), (22, undef)] H rfl rfl <| Stg.eff [17, 18, 19, 20, 22] (by kernel_rfl) rfl (.cons ?_ (.cons ?_ (.cons ?_ (.cons ?_ (.cons ?_ .nil))))) ?_
         ·refine Ans.mk rfl rfl fun a H => ?_
          replace H := H.ch (t := 53) (b := false) rfl h129
          refine s_bin H (wantG H rfl rfl) rfl rfl r_neq (lt_ rfl) fun a H => ?_
          exact Ans.fin H rfl
         ·refine Ans.mk rfl rfl fun a H => ?_
          replace H := H.ch (t := 53) (b := false) rfl h129
          refine s_pickF H rfl rfl rfl (lt_ rfl) fun a H => ?_
          exact Ans.fin H rfl
         ·refine Ans.mk rfl rfl fun a H => s_move H rfl rfl (lt_ rfl) fun a H => ?_
          exact Ans.fin H rfl
         ·exact .skip rfl rfl rfl rfl rfl rfl h132 rfl
         ·exact .skip rfl rfl rfl rfl rfl rfl h132 rfl
         ·intro a H
          replace H := H.weaken (L' := [(58, (.bool (decide (F131 ≠ 1)))), (59, undef)]) ⟨rfl, rfl, trivial⟩
          replace H := H.ch (t := 58) (b := true) rfl h132
          refine s_skip H (wantN H rfl rfl rfl) rfl (lt_ rfl) fun a H => c_nil <| effQ.go [(23, undef), (24, (.bool true))] H rfl rfl <| Stg.fin [22, 23, 24] (by kernel_rfl) (.cons ?_ (.cons ?_ (.cons ?_ .nil))) ?_
          ·exact .skip rfl rfl rfl rfl rfl rfl h132 rfl
          ·exact .skip rfl rfl rfl rfl rfl rfl h132 rfl
          ·refine Ans.mk rfl rfl fun a H => ?_
           replace H := H.ch (t := 58) (b := true) rfl h132
           refine s_pickT H rfl rfl rfl (lt_ rfl) fun a H => ?_
           exact Ans.fin H rfl
          ·intro a H
           replace H := H.weaken (L' := [(1, (.pointer N4)), (4, (.pointer (some (blk b18)))), (63, (.bool true))]) ⟨rfl, rfl, rfl, trivial⟩
           exact h125 _ _ _ h (H.weaken ⟨rfl, rfl, rfl, trivial⟩)
        ·replace h := h.2 h132
         obtain ⟨C133, hc134, C135, hc136, h⟩ := h
         refine effQ.go [(17, (.bool (decide (F131 ≠ 1)))), (18, (.bool (decide (F131 ≠ 1)))), (19, (.bool (decide (F131 ≠ 1)))), (20, (.pointer N4)), (22, (.agg #[(.i C133), (.i C135)]))] H rfl rfl <| Stg.eff [17, 18, 19, 20, 22] (by kernel_rfl) rfl (.cons ?_ (.cons ?_ (.cons ?_ (.cons ?_ (.cons ?_ .nil))))) ?_
         ·refine Ans.mk rfl rfl fun a H => ?_
          replace H := H.ch (t := 53) (b := false) rfl h129
          refine s_bin H (wantG H rfl rfl) rfl rfl r_neq (lt_ rfl) fun a H => ?_
          exact Ans.fin H rfl
         ·refine Ans.mk rfl rfl fun a H => ?_
          replace H := H.ch (t := 53) (b := false) rfl h129
          refine s_pickF H rfl rfl rfl (lt_ rfl) fun a H => ?_
          exact Ans.fin H rfl
         ·refine Ans.mk rfl rfl fun a H => s_move H rfl rfl (lt_ rfl) fun a H => ?_
          exact Ans.fin H rfl
         ·refine Ans.mk rfl rfl fun a H => ?_
          replace H := H.ch (t := 58) (b := false) rfl h132
          refine s_move H (wantG H rfl rfl) rfl (lt_ rfl) fun a H => ?_
          exact Ans.fin H rfl
         ·refine Ans.mk rfl rfl fun a H => ?_
          replace H := H.ch (t := 58) (b := false) rfl h132
          refine s_loadN (l := [(.i C133), (.i C135)]) H (wantG H rfl rfl) rfl agg_33 rfl ⟨hc134, hc136, trivial⟩ (lt_ rfl) fun a H => ?_
          exact Ans.fin H rfl
         ·intro a H
          replace H := H.weaken (L' := [(58, (.bool (decide (F131 ≠ 1)))), (59, (.pointer N4))]) ⟨rfl, rfl, trivial⟩
          replace H := H.ch (t := 58) (b := false) rfl h132
          refine s_call H (wantG H rfl rfl) body_17 (H.args (vs := [(.pointer N4), (.string (ByteArray.mk #[107]))]) rfl) (lt_ rfl) h ?_ (fun c w' h H => e_panic (P := PP) (fn := Tryz.f10) H h)
          clear H h a
          rintro _ w137 a ⟨C138, C139, rfl, h⟩ H
          refine c_nil ?_
          obtain ⟨hc140, hc141, h⟩ := h
          refine effQ.go [(23, (.bool (!(decide (C138 = C133) && (decide (C139 = C135)))))), (24, (.bool (!(decide (C138 = C133) && (decide (C139 = C135))))))] H rfl rfl <| Stg.fin [22, 23, 24] (by kernel_rfl) (.cons ?_ (.cons ?_ (.cons ?_ .nil))) ?_
          ·refine Ans.mk rfl rfl fun a H => ?_
           replace H := H.ch (t := 58) (b := false) rfl h132
           refine s_loadN (l := [(.i C133), (.i C135)]) H (wantG H rfl rfl) rfl agg_33 rfl ⟨hc140, hc141, trivial⟩ (lt_ rfl) fun a H => ?_
           exact Ans.fin H rfl
          ·refine Ans.mk rfl rfl fun a H => ?_
           replace H := H.ch (t := 58) (b := false) rfl h132
           refine s_bin H (wantG H rfl rfl) rfl rfl (r_nest eqg_33 (eqst_33 0) rfl) (lt_ rfl) fun a H => ?_
           exact Ans.fin H rfl
          ·refine Ans.mk rfl rfl fun a H => ?_
           replace H := H.ch (t := 58) (b := false) rfl h132
           refine s_pickF H rfl rfl rfl (lt_ rfl) fun a H => ?_
           exact Ans.fin H rfl
          ·intro a H
           replace H := H.weaken (L' := [(1, (.pointer N4)), (4, (.pointer (some (blk b18)))), (63, (.bool (!(decide (C138 = C133) && (decide (C139 = C135))))))]) ⟨rfl, rfl, rfl, trivial⟩
           exact h125 _ _ _ h (H.weaken ⟨rfl, rfl, rfl, trivial⟩)

theorem sim_table_copied (C1 C2 : Int) (F3 H4 : Bool) (D5 : Slc) (w : World) (Q : Ending → World → Prop) (h : vc_table_copied C1 C2 F3 H4 D5 w Q) : Calls PP F_table_copied #[(.agg #[(.i C1), (.i C2), (.bool F3), (.bool H4), D5.v])] w Q := by
 unfold vc_table_copied at h
 refine enter (n := 8) Tryz.func11 rfl rfl (Nat.le_of_ble_eq_true rfl) fun a H => c_seq fun K6 hK6 => c_reg ?_
 replace h := h.get
 obtain ⟨b7, w8, n9, h⟩ := h
 refine s_box H rfl rfl (lt_ rfl) ?_
 rw [← n9.at_]
 clear H a
 intro a H
 refine n9.go ?_
 replace h := h.get
 obtain ⟨b10, w11, n12, h⟩ := h
 refine s_alloc H rfl zero_36 (lt_ rfl) ?_
 rw [← n12.at_]
 clear H a
 intro a H
 refine n12.go <| c_nil <| hK6 _ _ <| c_seq fun K13 hK13 => c_reg <| s_fld H rfl rfl fld_36_3 (lt_ rfl) fun a H => s_load (v := D5.v) H rfl rfl one_34 (n12.old (n9.cell (i := 4) rfl)) (lt_ rfl) fun a H => s_call H rfl body_36 (H.args (vs := [D5.v]) rfl) (lt_ rfl) h ?_ (fun c w' h H => e_panic (P := PP) (fn := Tryz.f11) H h)
 clear H h a
 rintro _ w14 a ⟨C15, rfl, h⟩ H
 refine s_fld H rfl rfl fld_36_3 (lt_ rfl) fun a H => ?_
 obtain ⟨h17, h18, h⟩ := h
 refine s_sto (p := (blk b7).add 4) (v := C15.v) H rfl rfl rfl rfl one_34 rfl h17 h18 ?_
 clear H
 intro H
 generalize hww16 : World.setCell w14 ((blk b7).add 4) C15.v = w16 at h ⊢
 have w16S : SetAt w14 ((blk b7).add 4) C15.v w16 := ⟨hww16.symm⟩
 clear hww16 h17 h18
 refine c_nil <| hK13 _ _ <| c_seq fun K19 hK19 => c_reg ?_
 obtain ⟨C20, hc21, C22, hc23, F24, hc25, H26, hc27, D28, hc29, h⟩ := h
 refine s_loadN (l := [(.i C20), (.i C22), (.bool F24), (.bool H26), D28.v]) H rfl rfl agg_36 rfl ⟨hc21, hc23, hc25, hc27, hc29, trivial⟩ (lt_ rfl) fun a H => s_stoN (l := [(.i C20), (.i C22), (.bool F24), (.bool H26), D28.v]) H rfl rfl rfl rfl agg_36 rfl rfl h ?_
 clear h H
 intro w30 h H
 refine c_nil <| hK19 _ _ <| c_ret ?_
 obtain ⟨C31, hc32, C33, hc34, F35, hc36, H37, hc38, D39, hc40, h⟩ := h
 exact e_ret1 H rfl ⟨_, rfl, run_loadN (l := [(.i C31), (.i C33), (.bool F35), (.bool H37), D39.v]) agg_36 rfl ⟨hc32, hc34, hc36, hc38, hc40, trivial⟩⟩ h

theorem sim_sherdref15_copied (C1 C2 : Int) (F3 H4 : Bool) (D5 : Slc) (w : World) (Q : Ending → World → Prop) (h : vc_sherdref15_copied C1 C2 F3 H4 D5 w Q) : Calls PP F_sherdref15_copied #[(.agg #[(.i C1), (.i C2), (.bool F3), (.bool H4), D5.v])] w Q := by
 unfold vc_sherdref15_copied at h
 refine enter (n := 10) Tryz.func12 rfl rfl (Nat.le_of_ble_eq_true rfl) fun a H => c_seq fun K6 hK6 => c_reg ?_
 replace h := h.get
 obtain ⟨b7, w8, n9, h⟩ := h
 refine s_box H rfl rfl (lt_ rfl) ?_
 rw [← n9.at_]
 clear H a
 intro a H
 refine n9.go ?_
 replace h := h.get
 obtain ⟨b10, w11, n12, h⟩ := h
 refine s_alloc H rfl zero_36 (lt_ rfl) ?_
 rw [← n12.at_]
 clear H a
 intro a H
 refine n12.go <| c_nil <| hK6 _ _ <| c_seq fun K13 hK13 => c_reg <| s_assign H rfl rfl (lt_ rfl) fun a H => c_nil <| hK13 _ _ <| c_seq fun K14 hK14 => c_reg <| s_move H rfl rfl (lt_ rfl) fun a H => s_fld H rfl rfl fld_36_3 (lt_ rfl) fun a H => s_load (v := D5.v) H rfl rfl one_34 (n12.old (n9.cell (i := 4) rfl)) (lt_ rfl) fun a H => ?_
 obtain ⟨s15, w16, h17, h⟩ := h
 refine s_blt H rfl (H.args (vs := [Slc.nil.v, D5.v]) rfl) (lt_ rfl) (fun cs => b_app (z := s15) h17) ?_
 clear H a h17
 intro a H
 refine s_fld H rfl rfl fld_36_3 (lt_ rfl) fun a H => ?_
 obtain ⟨h19, h20, h⟩ := h
 refine s_sto (p := (blk b7).add 4) (v := s15.v) H rfl rfl rfl rfl one_34 rfl h19 h20 ?_
 clear H
 intro H
 generalize hww18 : World.setCell w16 ((blk b7).add 4) s15.v = w18 at h ⊢
 have w18S : SetAt w16 ((blk b7).add 4) s15.v w18 := ⟨hww18.symm⟩
 clear hww18 h19 h20
 refine c_nil <| hK14 _ _ <| c_seq fun K21 hK21 => c_reg ?_
 obtain ⟨C22, hc23, C24, hc25, F26, hc27, H28, hc29, D30, hc31, h⟩ := h
 refine s_loadN (l := [(.i C22), (.i C24), (.bool F26), (.bool H28), D30.v]) H rfl rfl agg_36 rfl ⟨hc23, hc25, hc27, hc29, hc31, trivial⟩ (lt_ rfl) fun a H => s_stoN (l := [(.i C22), (.i C24), (.bool F26), (.bool H28), D30.v]) H rfl rfl rfl rfl agg_36 rfl rfl h ?_
 clear h H
 intro w32 h H
 refine c_nil <| hK21 _ _ <| c_ret ?_
 obtain ⟨C33, hc34, C35, hc36, F37, hc38, H39, hc40, D41, hc42, h⟩ := h
 exact e_ret1 H rfl ⟨_, rfl, run_loadN (l := [(.i C33), (.i C35), (.bool F37), (.bool H39), D41.v]) agg_36 rfl ⟨hc34, hc36, hc38, hc40, hc42, trivial⟩⟩ h

theorem sim_sherdlaw15_does (t1 r2 : Option Addr) (K3 T4 K5 : Int) (K6 : ByteArray) (C7 C8 : Int) (F9 H10 : Bool) (D11 : Slc) (K12 : ByteArray) (C13 C14 N15 : Int) (w : World) (Q : Ending → World → Prop) (h : vc_sherdlaw15_does t1 r2 K3 T4 K5 K6 C7 C8 F9 H10 D11 K12 C13 C14 N15 w Q) : Calls PP F_sherdlaw15_does #[(.pointer t1), (.pointer r2), (.agg #[(.i K3), (.i T4), (.i K5), (.string K6), (.i C7), (.i C8), (.bool F9), (.bool H10), D11.v, (.string K12), (.i C13), (.i C14), (.i N15)])] w Q := by
 unfold vc_sherdlaw15_does at h
 refine enter (n := 92) Tryz.func13 rfl rfl (Nat.le_of_ble_eq_true rfl) fun a H => c_seq fun K16 hK16 => c_reg ?_
 replace h := h.get
 obtain ⟨b17, w18, n19, h⟩ := h
 refine s_box H rfl rfl (lt_ rfl) ?_
 rw [← n19.at_]
 clear H a
 intro a H
 refine n19.go <| s_assign H rfl rfl (lt_ rfl) fun a H => c_nil <| hK16 _ _ <| c_seq fun K20 hK20 => c_reg <| s_fld H rfl rfl fld_40_2 (lt_ rfl) fun a H => s_loadN (l := [(.i K5), (.string K6), (.i C7), (.i C8), (.bool F9), (.bool H10), D11.v]) H rfl rfl agg_38 rfl ⟨(n19.cell (i := 2) rfl), (n19.cell (i := 3) rfl), (n19.cell (i := 4) rfl), (n19.cell (i := 5) rfl), (n19.cell (i := 6) rfl), (n19.cell (i := 7) rfl), (n19.cell (i := 8) rfl), trivial⟩ (lt_ rfl) fun a H => ?_
 refine s_call H rfl body_37 (H.args (vs := [(.agg #[(.i K5), (.string K6), (.i C7), (.i C8), (.bool F9), (.bool H10), D11.v])]) rfl) (lt_ rfl) h ?_ (fun c w' h H => e_panic (P := PP) (fn := Tryz.f13) H h)
 clear H h a
 rintro _ w21 a ⟨K22, K23, C24, C25, F26, H27, D28, rfl, h⟩ H
 replace h := h.get
 obtain ⟨b29, w30, n31, h⟩ := h
 refine s_alloc H rfl zero_38 (lt_ rfl) ?_
 rw [← n31.at_]
 clear H a
 intro a H
 refine n31.go <| s_stoN (l := [(.i K22), (.string K23), (.i C24), (.i C25), (.bool F26), (.bool H27), D28.v]) H rfl rfl rfl rfl agg_38 rfl rfl h ?_
 clear h H
 intro w32 h H
 refine c_nil <| hK20 _ _ <| c_seq fun K33 hK33 => c_seq fun K34 hK34 => c_reg <| s_fld H rfl rfl fld_40_0 (lt_ rfl) fun a H => ?_
 obtain ⟨l35, hc36, h⟩ := h
 refine s_load (v := (.i l35)) H rfl rfl one_3 hc36 (lt_ rfl) fun a H => s_bin H rfl rfl rfl r_eql (lt_ rfl) fun a H => c_nil <| hK34 _ _ <| c_cond H rfl (fun h37 => ?_) (fun h37 => ?_)
 ·replace h := h.1 h37
  refine c_seq fun K38 hK38 => c_reg <| s_move H rfl rfl (lt_ rfl) fun a H => s_fld H rfl rfl fld_40_2 (lt_ rfl) fun a H => ?_
  obtain ⟨K39, hc40, K41, hc42, C43, hc44, C45, hc46, F47, hc48, H49, hc50, D51, hc52, h⟩ := h
  refine s_loadN (l := [(.i K39), (.string K41), (.i C43), (.i C45), (.bool F47), (.bool H49), D51.v]) H rfl rfl agg_38 rfl ⟨hc40, hc42, hc44, hc46, hc48, hc50, hc52, trivial⟩ (lt_ rfl) fun a H => s_call H rfl body_38 (H.args (vs := [(.pointer r2), (.agg #[(.i K39), (.string K41), (.i C43), (.i C45), (.bool F47), (.bool H49), D51.v])]) rfl) (lt_ rfl) h ?_ (fun c w' h H => e_panic (P := PP) (fn := Tryz.f13) H h)
  clear H h a
  rintro _ w53 a ⟨W54, W55, rfl, h⟩ H
  refine s_move H rfl rfl (lt_ rfl) fun a H => s_ext H rfl rfl rfl (lt_ rfl) fun a H => s_ext H rfl rfl rfl (lt_ rfl) fun a H => s_assign H rfl rfl (lt_ rfl) fun a H => s_assign H rfl rfl (lt_ rfl) fun a H => c_nil <| hK38 _ _ <| c_seq fun K56 hK56 => c_reg <| s_move H rfl rfl (lt_ rfl) fun a H => ?_
  obtain ⟨K57, hc58, K59, hc60, C61, hc62, C63, hc64, F65, hc66, H67, hc68, D69, hc70, h⟩ := h
  refine s_loadN (l := [(.i K57), (.string K59), (.i C61), (.i C63), (.bool F65), (.bool H67), D69.v]) H rfl rfl agg_38 rfl ⟨hc58, hc60, hc62, hc64, hc66, hc68, hc70, trivial⟩ (lt_ rfl) fun a H => s_call H rfl body_39 (H.args (vs := [(.pointer t1), (.agg #[(.i K57), (.string K59), (.i C61), (.i C63), (.bool F65), (.bool H67), D69.v])]) rfl) (lt_ rfl) h ?_ (fun c w' h H => e_panic (P := PP) (fn := Tryz.f13) H h)
  clear H h a
  rintro _ w71 a ⟨W72, W73, rfl, h⟩ H
  refine s_move H rfl rfl (lt_ rfl) fun a H => s_ext H rfl rfl rfl (lt_ rfl) fun a H => s_ext H rfl rfl rfl (lt_ rfl) fun a H => s_assign H rfl rfl (lt_ rfl) fun a H => s_assign H rfl rfl (lt_ rfl) fun a H => c_nil <| hK56 _ _ <| c_seq fun K74 hK74 => c_reg <| s_move H rfl rfl (lt_ rfl) fun a H => s_move H rfl rfl (lt_ rfl) fun a H => s_bin H rfl rfl rfl (r_eqB bool_4) (lt_ rfl) fun a H => s_move H rfl rfl (lt_ rfl) fun a H => ?_
  refine g_join (n := 92) [(44, (.bool ((decide (W54 = W72)) && (decide (W73 = W55))))), (5, (.pointer (some (blk b17)))), (7, (.pointer (some (blk b29))))] (.succ (.succ (.succ (.succ (.zero _))))) ?_ ?_
  ·intro h76
   try clear h
   rcases Bool.eq_false_or_eq_true (decide (W54 = W72)) with h75 | h75
   ·replace H := H.ch (t := 40) (b := true) rfl h75
    refine s_move H (wantG H rfl rfl) rfl (lt_ rfl) fun a H => s_move H (wantG H rfl rfl) rfl (lt_ rfl) fun a H => s_bin H (wantG H rfl rfl) rfl rfl r_eql (lt_ rfl) fun a H => s_pickT H rfl rfl rfl (lt_ rfl) fun a H => ?_
    exact h76 _ (H.weaken ⟨by rw [h75]; rfl, rfl, rfl, trivial⟩)
   ·replace H := H.ch (t := 40) (b := false) rfl h75
    iterate 3 refine s_skip H (wantN H rfl rfl rfl) rfl (lt_ rfl) fun a H => ?_
    refine s_pickF H rfl rfl rfl (lt_ rfl) fun a H => ?_
    exact h76 _ (H.weaken ⟨by rw [h75]; rfl, rfl, rfl, trivial⟩)
  ·clear H a
   intro a H
   refine s_move H rfl rfl (lt_ rfl) fun a H => ?_
   obtain ⟨R79, h, h116⟩ := h
   refine g_joinW (n := 92) R79 (fun x80 => [(50, (.bool x80))]) (.succ (.succ (.succ (.succ (.succ (.zero _)))))) ?_ ?_
   ·intro h78
    clear h116
    rcases Bool.eq_false_or_eq_true ((decide (W54 = W72)) && (decide (W73 = W55))) with h77 | h77
    ·replace H := H.ch (t := 45) (b := true) rfl h77
     replace h := h.1 h77
     obtain ⟨K82, hc83, K84, hc85, C86, hc87, C88, hc89, F90, hc91, H92, hc93, D94, hc95, h⟩ := h
     refine s_loadN (l := [(.i K82), (.string K84), (.i C86), (.i C88), (.bool F90), (.bool H92), D94.v]) H (wantG H rfl rfl) rfl agg_38 rfl ⟨hc83, hc85, hc87, hc89, hc91, hc93, hc95, trivial⟩ (lt_ rfl) fun a H => s_fld H (wantG H rfl rfl) rfl fld_40_2 (lt_ rfl) fun a H => ?_
     obtain ⟨K96, hc97, K98, hc99, C100, hc101, C102, hc103, F104, hc105, H106, hc107, D108, hc109, h⟩ := h
     refine s_loadN (l := [(.i K96), (.string K98), (.i C100), (.i C102), (.bool F104), (.bool H106), D108.v]) H (wantG H rfl rfl) rfl agg_38 rfl ⟨hc97, hc99, hc101, hc103, hc105, hc107, hc109, trivial⟩ (lt_ rfl) fun a H => ?_
     refine s_call H (wantG H rfl rfl) body_40 (H.args (vs := [(.agg #[(.i K82), (.string K84), (.i C86), (.i C88), (.bool F90), (.bool H92), D94.v]), (.agg #[(.i K96), (.string K98), (.i C100), (.i C102), (.bool F104), (.bool H106), D108.v])]) rfl) (lt_ rfl) h ?_ (fun c w' h H => e_panic (P := PP) (fn := Tryz.f13) H h)
     clear H h a
     rintro _ w110 a ⟨u111, rfl, h⟩ H
     refine s_pickT H rfl rfl rfl (lt_ rfl) fun a H => ?_
     exact h78 _ _ _ h (H.weaken ⟨rfl, trivial⟩)
    ·replace H := H.ch (t := 45) (b := false) rfl h77
     replace h := h.2 h77
     iterate 4 refine s_skip H (wantN H rfl rfl rfl) rfl (lt_ rfl) fun a H => ?_
     refine s_pickF H rfl rfl rfl (lt_ rfl) fun a H => ?_
     exact h78 _ _ _ h (H.weaken ⟨rfl, trivial⟩)
   ·clear H a h
    intro a x80 w81 h H
    replace h := h116 x80 w81 h
    clear h116
    refine s_assign H rfl rfl (lt_ rfl) fun a H => c_nil <| hK74 _ _ <| c_ret ?_
    exact e_ret1 H rfl rfl h
 ·replace h := h.2 h37
  refine c_skip <| hK33 _ _ <| c_seq fun K125 hK125 => c_reg <| s_move H rfl rfl (lt_ rfl) fun a H => s_fld H rfl rfl fld_40_2 (lt_ rfl) fun a H => ?_
  obtain ⟨K126, hc127, K128, hc129, C130, hc131, C132, hc133, F134, hc135, H136, hc137, D138, hc139, h⟩ := h
  refine s_loadN (l := [(.i K126), (.string K128), (.i C130), (.i C132), (.bool F134), (.bool H136), D138.v]) H rfl rfl agg_38 rfl ⟨hc127, hc129, hc131, hc133, hc135, hc137, hc139, trivial⟩ (lt_ rfl) fun a H => s_call H rfl body_41 (H.args (vs := [(.pointer r2), (.agg #[(.i K126), (.string K128), (.i C130), (.i C132), (.bool F134), (.bool H136), D138.v])]) rfl) (lt_ rfl) h ?_ (fun c w' h H => e_panic (P := PP) (fn := Tryz.f13) H h)
  clear H h a
  rintro _ w140 a ⟨A141, A142, rfl, h⟩ H
  refine s_move H rfl rfl (lt_ rfl) fun a H => s_ext H rfl rfl rfl (lt_ rfl) fun a H => s_ext H rfl rfl rfl (lt_ rfl) fun a H => s_assign H rfl rfl (lt_ rfl) fun a H => s_assign H rfl rfl (lt_ rfl) fun a H => c_nil <| hK125 _ _ <| c_seq fun K143 hK143 => c_reg <| s_move H rfl rfl (lt_ rfl) fun a H => ?_
  obtain ⟨K144, hc145, K146, hc147, C148, hc149, C150, hc151, F152, hc153, H154, hc155, D156, hc157, h⟩ := h
  refine s_loadN (l := [(.i K144), (.string K146), (.i C148), (.i C150), (.bool F152), (.bool H154), D156.v]) H rfl rfl agg_38 rfl ⟨hc145, hc147, hc149, hc151, hc153, hc155, hc157, trivial⟩ (lt_ rfl) fun a H => s_call H rfl body_35 (H.args (vs := [(.pointer t1), (.agg #[(.i K144), (.string K146), (.i C148), (.i C150), (.bool F152), (.bool H154), D156.v])]) rfl) (lt_ rfl) h ?_ (fun c w' h H => e_panic (P := PP) (fn := Tryz.f13) H h)
  clear H h a
  rintro _ w158 a ⟨A159, A160, rfl, h⟩ H
  refine s_move H rfl rfl (lt_ rfl) fun a H => s_ext H rfl rfl rfl (lt_ rfl) fun a H => s_ext H rfl rfl rfl (lt_ rfl) fun a H => s_assign H rfl rfl (lt_ rfl) fun a H => s_assign H rfl rfl (lt_ rfl) fun a H => c_nil <| hK143 _ _ <| c_seq fun K161 hK161 => c_reg <| s_move H rfl rfl (lt_ rfl) fun a H => s_move H rfl rfl (lt_ rfl) fun a H => s_bin H rfl rfl rfl (r_eqB bool_4) (lt_ rfl) fun a H => s_move H rfl rfl (lt_ rfl) fun a H => ?_
  refine g_join (n := 92) [(71, (.bool ((decide (A141 = A159)) && (decide (A160 = A142))))), (5, (.pointer (some (blk b17)))), (7, (.pointer (some (blk b29))))] (.succ (.succ (.succ (.succ (.zero _))))) ?_ ?_
  ·intro h163
   try clear h
   rcases Bool.eq_false_or_eq_true (decide (A141 = A159)) with h162 | h162
   ·replace H := H.ch (t := 67) (b := true) rfl h162
    refine s_move H (wantG H rfl rfl) rfl (lt_ rfl) fun a H => s_move H (wantG H rfl rfl) rfl (lt_ rfl) fun a H => s_bin H (wantG H rfl rfl) rfl rfl r_eql (lt_ rfl) fun a H => s_pickT H rfl rfl rfl (lt_ rfl) fun a H => ?_
    exact h163 _ (H.weaken ⟨by rw [h162]; rfl, rfl, rfl, trivial⟩)
   ·replace H := H.ch (t := 67) (b := false) rfl h162
    iterate 3 refine s_skip H (wantN H rfl rfl rfl) rfl (lt_ rfl) fun a H => ?_
    refine s_pickF H rfl rfl rfl (lt_ rfl) fun a H => ?_
    exact h163 _ (H.weaken ⟨by rw [h162]; rfl, rfl, rfl, trivial⟩)
  ·clear H a
   intro a H
   refine s_move H rfl rfl (lt_ rfl) fun a H => ?_
   obtain ⟨R166, h, h228⟩ := h
   refine g_joinW (n := 92) R166 (fun x167 => [(77, (.bool x167)), (7, (.pointer (some (blk b29))))]) (.succ (.succ (.succ (.succ (.succ (.zero _)))))) ?_ ?_
   ·intro h165
    clear h228
    rcases Bool.eq_false_or_eq_true ((decide (A141 = A159)) && (decide (A160 = A142))) with h164 | h164
    ·replace H := H.ch (t := 72) (b := true) rfl h164
     replace h := h.1 h164
     obtain ⟨K169, hc170, K171, hc172, C173, hc174, C175, hc176, F177, hc178, H179, hc180, D181, hc182, h⟩ := h
     refine s_loadN (l := [(.i K169), (.string K171), (.i C173), (.i C175), (.bool F177), (.bool H179), D181.v]) H (wantG H rfl rfl) rfl agg_38 rfl ⟨hc170, hc172, hc174, hc176, hc178, hc180, hc182, trivial⟩ (lt_ rfl) fun a H => s_fld H (wantG H rfl rfl) rfl fld_40_2 (lt_ rfl) fun a H => ?_
     obtain ⟨K183, hc184, K185, hc186, C187, hc188, C189, hc190, F191, hc192, H193, hc194, D195, hc196, h⟩ := h
     refine s_loadN (l := [(.i K183), (.string K185), (.i C187), (.i C189), (.bool F191), (.bool H193), D195.v]) H (wantG H rfl rfl) rfl agg_38 rfl ⟨hc184, hc186, hc188, hc190, hc192, hc194, hc196, trivial⟩ (lt_ rfl) fun a H => ?_
     refine s_call H (wantG H rfl rfl) body_40 (H.args (vs := [(.agg #[(.i K169), (.string K171), (.i C173), (.i C175), (.bool F177), (.bool H179), D181.v]), (.agg #[(.i K183), (.string K185), (.i C187), (.i C189), (.bool F191), (.bool H193), D195.v])]) rfl) (lt_ rfl) h ?_ (fun c w' h H => e_panic (P := PP) (fn := Tryz.f13) H h)
     clear H h a
     rintro _ w197 a ⟨u198, rfl, h⟩ H
     refine s_pickT H rfl rfl rfl (lt_ rfl) fun a H => ?_
     exact h165 _ _ _ h (H.weaken ⟨rfl, rfl, trivial⟩)
    ·replace H := H.ch (t := 72) (b := false) rfl h164
     replace h := h.2 h164
     iterate 4 refine s_skip H (wantN H rfl rfl rfl) rfl (lt_ rfl) fun a H => ?_
     refine s_pickF H rfl rfl rfl (lt_ rfl) fun a H => ?_
     exact h165 _ _ _ h (H.weaken ⟨rfl, rfl, trivial⟩)
   ·clear H a h
    intro a x167 w168 h H
    replace h := h228 x167 w168 h
    clear h228
    refine s_assign H rfl rfl (lt_ rfl) fun a H => c_nil <| hK161 _ _ <| c_seq fun K203 hK203 => c_seq fun K204 hK204 => c_reg <| s_fld H rfl rfl fld_38_2 (lt_ rfl) fun a H => s_fld H rfl rfl fld_36_3 (lt_ rfl) fun a H => ?_
    obtain ⟨l205, hc206, h⟩ := h
    refine s_load (v := l205.v) H rfl rfl one_34 hc206 (lt_ rfl) fun a H => s_blt H rfl (H.args (vs := [l205.v]) rfl) (lt_ rfl) (fun cs => b_lenS (z := l205) sl_34) fun a H => s_move H rfl rfl (lt_ rfl) fun a H => c_nil <| hK204 _ _ <| c_block ?_
    obtain ⟨I209, m210, h226, h227⟩ := h
    refine c_loop (σ := Int) (fun z w => I209 z w) (fun z w => m210 z w) (fun z => [(7, (.pointer (some (blk b29)))), (16, (.bool x167)), (81, (.i (l205.l : Int))), (82, (.i z))]) 0 h226 (H.weaken ⟨rfl, rfl, rfl, rfl, trivial⟩) ?_
    clear H h226
    rintro s207 a w208 h H
    replace h := h227 s207 w208 h
    clear h227
    replace H : Has 92 [] a [(7, (.pointer (some (blk b29)))), (16, (.bool x167)), (81, (.i (l205.l : Int))), (82, (.i s207))] := H
    refine c_seq fun K211 hK211 => c_reg <| s_bin H rfl rfl rfl r_lss (lt_ rfl) fun a H => c_nil <| hK211 _ _ <| c_seq fun K212 hK212 => c_cond H rfl (fun h213 => ?_) (fun h213 => ?_)
    ·replace h := h.1 h213
     refine c_skip <| hK212 _ _ <| c_seq fun K214 hK214 => c_block <| c_seq fun K215 hK215 => c_reg <| s_move H rfl rfl (lt_ rfl) fun a H => s_assign H rfl rfl (lt_ rfl) fun a H => c_nil <| hK215 _ _ <| c_reg <| s_fld H rfl rfl fld_38_2 (lt_ rfl) fun a H => s_fld H rfl rfl fld_36_3 (lt_ rfl) fun a H => ?_
     obtain ⟨l216, hc217, h⟩ := h
     refine s_load (v := l216.v) H rfl rfl one_34 hc217 (lt_ rfl) fun a H => s_move H rfl rfl (lt_ rfl) fun a H => ?_
     obtain ⟨a218, h219, h220, h221, h⟩ := h
     refine s_idxS (s := l216) H rfl rfl rfl slc_34 h219 h220 h221 (lt_ rfl) fun a H => ?_
     obtain ⟨h223, h224, h⟩ := h
     refine s_sto (p := a218.add (Int.toNat (s207) * 1)) (v := (.int .u8 238)) H rfl rfl rfl rfl one_5 rfl h223 h224 ?_
     clear H
     intro H
     generalize hww222 : World.setCell w208 (a218.add (Int.toNat (s207) * 1)) (.int .u8 238) = w222 at h ⊢
     have w222S : SetAt w208 (a218.add (Int.toNat (s207) * 1)) (.int .u8 238) w222 := ⟨hww222.symm⟩
     clear hww222 h223 h224
     refine c_nil <| hK214 _ _ <| c_reg <| s_bin H rfl rfl rfl r_add (lt_ rfl) fun a H => s_move H rfl rfl (lt_ rfl) fun a H => c_nil <| Exists.intro (wr .i64 (s207 + 1)) ⟨h.1, h.2, H.weaken ⟨rfl, rfl, rfl, rfl, trivial⟩⟩
    ·replace h := h.2 h213
     refine c_exit ?_
     first | (simp only [Exit.then, Exit.inBlock, ↓reduceIte]; fail_if_success simp only [Nat.reduceEqDiff]) | simp only [Exit.then, Exit.inBlock, ↓reduceIte, Nat.reduceEqDiff]
     refine hK203 _ _ <| c_seq fun K225 hK225 => c_reg <| s_move H rfl rfl (lt_ rfl) fun a H => s_assign H rfl rfl (lt_ rfl) fun a H => c_nil <| hK225 _ _ <| c_ret ?_
     exact e_ret1 H rfl rfl h

theorem sim_table_Table_Get (t1 : Option Addr) (k2 : ByteArray) (C3 C4 : Int) (w : World) (Q : Ending → World → Prop) (h : vc_table_Table_Get t1 k2 C3 C4 w Q) : Calls PP F_table_Table_Get #[(.pointer t1), (.string k2), (.agg #[(.i C3), (.i C4)])] w Q := by
 unfold vc_table_Table_Get at h
 refine enter (n := 27) Tryz.func14 rfl rfl (Nat.le_of_ble_eq_true rfl) fun a H => c_seq fun K5 hK5 => c_reg ?_
 replace h := h.get
 obtain ⟨b6, w7, n8, h⟩ := h
 refine s_box H rfl rfl (lt_ rfl) ?_
 rw [← n8.at_]
 clear H a
 intro a H
 refine n8.go ?_
 replace h := h.get
 obtain ⟨b9, w10, n11, h⟩ := h
 refine s_alloc H rfl zero_36 (lt_ rfl) ?_
 rw [← n11.at_]
 clear H a
 intro a H
 refine n11.go <| s_assign H rfl rfl (lt_ rfl) fun a H => c_nil <| hK5 _ _ <| c_seq fun K12 hK12 => c_seq fun K13 hK13 => c_reg <| s_move H rfl rfl (lt_ rfl) fun a H => s_bin H rfl rfl rfl (r_eqP0 ptr_23) (lt_ rfl) fun a H => c_nil <| hK13 _ _ <| c_cond H rfl (fun h14 => ?_) (fun h14 => ?_)
 ·replace h := h.1 h14
  refine c_seq fun K15 hK15 => c_reg <| s_build H rfl (by rw [H.parts (vs := []) rfl]; exact bd_36 w10) (lt_ rfl) fun a H => s_stoN (l := [(.i 0), (.i 0), (.bool false), (.bool false), Slc.nil.v]) H rfl rfl rfl rfl agg_36 rfl rfl h ?_
  clear h H
  intro w16 h H
  refine s_assign H rfl rfl (lt_ rfl) fun a H => c_nil <| hK15 _ _ <| c_ret ?_
  obtain ⟨C17, hc18, C19, hc20, F21, hc22, H23, hc24, D25, hc26, h⟩ := h
  exact e_ret2 H rfl ⟨_, rfl, run_loadN (l := [(.i C17), (.i C19), (.bool F21), (.bool H23), D25.v]) agg_36 rfl ⟨hc18, hc20, hc22, hc24, hc26, trivial⟩⟩ rfl h
 ·replace h := h.2 h14
  refine c_skip <| hK12 _ _ <| c_seq fun K27 hK27 => ?_
  obtain ⟨a28, h29, h⟩ := h
  subst h29
  replace H := H.weaken (L' := [(0, (.pointer (some a28))), (1, (.string k2)), (5, (.pointer (some (blk b6)))), (6, (.pointer (some (blk b9))))]) ⟨rfl, rfl, rfl, rfl, trivial⟩
  obtain ⟨l32, C35, C37, h⟩ := h
  obtain ⟨R30, h97, h34, h39, h91, h92, h93, h94, h95⟩ := h
  refine c_anyF (V := [(0, (.pointer (some a28))), (1, (.pointer (some a28))), (2, (.pointer (some (a28.add 1)))), (3, (.map l32)), (4, (.string k2)), (6, (.agg #[(.i C35), (.i C37)]))]) 4 (⟨⟨[[], [0], [1], [2], [], [3, 4], [], [5, 6], [7], [8], [8], [], [0, 1, 2, 3, 4, 5, 6, 7, 8, 9, 11], [0, 1, 2, 3, 4, 5, 6, 7, 8, 9, 10, 11, 12]], [some 14, some 15, some 16, some 17, some 18, some 19, some 20, some 21, some 13, some 22, some 23, some 8, none, some 9], [5, 7, 11, 12], [], []⟩, [[], [], [], [], [], [], [], [5], [5, 7], [5, 7], [5, 7], [], [5, 7, 11], [5, 7, 11, 12]], [[5, 7, 12], [5, 7, 12], [5, 7, 12], [5, 7, 12], [5, 7, 12], [7, 12], [7, 12], [12], [12], [12], [], [12], [], []]⟩ : Rh) [(0, (.pointer (some a28))), (1, (.string k2)), (5, (.pointer (some (blk b6)))), (6, (.pointer (some (blk b9))))] mixed (by kernel_rfl) H fun F98 h96 => ?_
  clear H a
  have st_5_7_11_12 : ∀ (m40 : Option Nat) (C43 : Int) (C44 : Int) (F45 : Bool) (H46 : Bool) (D47 : Slc) (o48 : Bool) (b51 : Nat) (w31 : World), R30 (some m40) (some (C43, C44, F45, H46, D47, o48)) (some b51) (some ()) w31 → F98 0 [5, 7, 11, 12] [(0, (.pointer (some a28))), (1, (.pointer (some a28))), (2, (.pointer (some (a28.add 1)))), (3, (.map l32)), (4, (.string k2)), (5, (.map m40)), (6, (.agg #[(.i C35), (.i C37)])), (7, (.tuple #[(.agg #[(.i C43), (.i C44), (.bool F45), (.bool H46), D47.v]), (.bool o48)])), (8, (.tuple #[(.agg #[(.i C43), (.i C44), (.bool F45), (.bool H46), D47.v]), (.bool o48)])), (9, (.agg #[(.i C43), (.i C44), (.bool F45), (.bool H46), D47.v])), (10, (.bool o48)), (11, (.pointer (some (blk b51)))), (12, undef), (13, (.bool o48))] w31 := by
   intro m40 C43 C44 F45 H46 D47 o48 b51 w31 hr
   rw [h96]
   refine StT.last [10, 13] (by kernel_rfl) (by kernel_rfl) (.cons ?_ (.cons ?_ .nil)) ?_
   ·refine Ans.mk rfl rfl fun a H => ?_
    replace H := H.weaken (L' := [(13, (.tuple #[(.agg #[(.i C43), (.i C44), (.bool F45), (.bool H46), D47.v]), (.bool o48)]))]) ⟨rfl, trivial⟩
    refine s_ext H rfl rfl rfl (lt_ rfl) fun a H => c_nil ⟨rfl, rfl, H.weaken (L' := [(23, (.bool o48))]) ⟨rfl, trivial⟩⟩
   ·refine Ans.mk rfl rfl fun a H => ?_
    replace H := H.weaken (L' := [(23, (.bool o48))]) ⟨rfl, trivial⟩
    refine s_assign H rfl rfl (lt_ rfl) fun a H => c_nil ⟨rfl, rfl, H.weaken (L' := [(9, (.bool o48))]) ⟨rfl, trivial⟩⟩
   ·intro a H
    have h := h95 m40 C43 C44 F45 H46 D47 o48 b51 w31 hr
    replace H := H.weaken (L' := [(6, (.pointer (some (blk b9)))), (8, (.pointer (some (blk b51)))), (9, (.bool o48))]) ⟨rfl, rfl, rfl, trivial⟩
    refine hK27 _ _ <| c_seq fun K59 hK59 => c_reg ?_
    obtain ⟨C60, hc61, C62, hc63, F64, hc65, H66, hc67, D68, hc69, h⟩ := h
    refine s_loadN (l := [(.i C60), (.i C62), (.bool F64), (.bool H66), D68.v]) H rfl rfl agg_36 rfl ⟨hc61, hc63, hc65, hc67, hc69, trivial⟩ (lt_ rfl) fun a H => s_call H rfl body_11 (H.args (vs := [(.agg #[(.i C60), (.i C62), (.bool F64), (.bool H66), D68.v])]) rfl) (lt_ rfl) h ?_ (fun c w' h H => e_panic (P := PP) (fn := Tryz.f14) H h)
    clear H h a
    rintro _ w70 a ⟨C71, C72, F73, H74, D75, rfl, h⟩ H
    refine s_move H rfl rfl (lt_ rfl) fun a H => s_stoN (l := [(.i C71), (.i C72), (.bool F73), (.bool H74), D75.v]) H rfl rfl rfl rfl agg_36 rfl rfl h ?_
    clear h H
    intro w76 h H
    refine s_assign H rfl rfl (lt_ rfl) fun a H => c_nil <| hK59 _ _ <| c_ret ?_
    obtain ⟨C77, hc78, C79, hc80, F81, hc82, H83, hc84, D85, hc86, h⟩ := h
    exact e_ret2 H rfl ⟨_, rfl, run_loadN (l := [(.i C77), (.i C79), (.bool F81), (.bool H83), D85.v]) agg_36 rfl ⟨hc78, hc80, hc82, hc84, hc86, trivial⟩⟩ rfl h
  have st_5_7_11 : ∀ (m40 : Option Nat) (C43 : Int) (C44 : Int) (F45 : Bool) (H46 : Bool) (D47 : Slc) (o48 : Bool) (b51 : Nat) (w31 : World), R30 (some m40) (some (C43, C44, F45, H46, D47, o48)) (some b51) none w31 → F98 1 [5, 7, 11] [(0, (.pointer (some a28))), (1, (.pointer (some a28))), (2, (.pointer (some (a28.add 1)))), (3, (.map l32)), (4, (.string k2)), (5, (.map m40)), (6, (.agg #[(.i C35), (.i C37)])), (7, (.tuple #[(.agg #[(.i C43), (.i C44), (.bool F45), (.bool H46), D47.v]), (.bool o48)])), (8, (.tuple #[(.agg #[(.i C43), (.i C44), (.bool F45), (.bool H46), D47.v]), (.bool o48)])), (9, (.agg #[(.i C43), (.i C44), (.bool F45), (.bool H46), D47.v])), (10, (.bool o48)), (11, (.pointer (some (blk b51))))] w31 := by
   intro m40 C43 C44 F45 H46 D47 o48 b51 w31 hr
   rw [h96]
   refine StT.more [8, 9, 10] [12] (by kernel_rfl) (by kernel_rfl) (by kernel_rfl) (.cons ?_ (.cons ?_ (.cons ?_ .nil))) (.cons ?_ .nil)
   ·refine Ans.mk rfl rfl fun a H => ?_
    replace H := H.weaken (L' := [(21, (.tuple #[(.agg #[(.i C43), (.i C44), (.bool F45), (.bool H46), D47.v]), (.bool o48)]))]) ⟨rfl, trivial⟩
    refine s_move H rfl rfl (lt_ rfl) fun a H => c_nil ⟨rfl, rfl, H.weaken (L' := [(13, (.tuple #[(.agg #[(.i C43), (.i C44), (.bool F45), (.bool H46), D47.v]), (.bool o48)]))]) ⟨rfl, trivial⟩⟩
   ·refine Ans.mk rfl rfl fun a H => ?_
    replace H := H.weaken (L' := [(13, (.tuple #[(.agg #[(.i C43), (.i C44), (.bool F45), (.bool H46), D47.v]), (.bool o48)]))]) ⟨rfl, trivial⟩
    refine s_ext H rfl rfl rfl (lt_ rfl) fun a H => c_nil ⟨rfl, rfl, H.weaken (L' := [(22, (.agg #[(.i C43), (.i C44), (.bool F45), (.bool H46), D47.v]))]) ⟨rfl, trivial⟩⟩
   ·refine Ans.mk rfl rfl fun a H => ?_
    replace H := H.weaken (L' := [(13, (.tuple #[(.agg #[(.i C43), (.i C44), (.bool F45), (.bool H46), D47.v]), (.bool o48)]))]) ⟨rfl, trivial⟩
    refine s_ext H rfl rfl rfl (lt_ rfl) fun a H => c_nil ⟨rfl, rfl, H.weaken (L' := [(23, (.bool o48))]) ⟨rfl, trivial⟩⟩
   ·refine ⟨_, rfl, fun a H => ?_⟩
    replace H := H.weaken (L' := [(8, (.pointer (some (blk b51)))), (22, (.agg #[(.i C43), (.i C44), (.bool F45), (.bool H46), D47.v]))]) ⟨rfl, rfl, trivial⟩
    have h := h94 m40 C43 C44 F45 H46 D47 o48 b51 w31 hr
    refine s_stoN (l := [(.i C43), (.i C44), (.bool F45), (.bool H46), D47.v]) H rfl rfl rfl rfl agg_36 rfl rfl h ?_
    clear h H
    intro w54 h H
    refine c_nil ?_
    refine effQ.ok (v := undef) (H.weaken (L' := []) trivial) ⟨[(0, (.pointer (some a28))), (1, (.pointer (some a28))), (2, (.pointer (some (a28.add 1)))), (3, (.map l32)), (4, (.string k2)), (5, (.map m40)), (6, (.agg #[(.i C35), (.i C37)])), (7, (.tuple #[(.agg #[(.i C43), (.i C44), (.bool F45), (.bool H46), D47.v]), (.bool o48)])), (8, (.tuple #[(.agg #[(.i C43), (.i C44), (.bool F45), (.bool H46), D47.v]), (.bool o48)])), (9, (.agg #[(.i C43), (.i C44), (.bool F45), (.bool H46), D47.v])), (10, (.bool o48)), (11, (.pointer (some (blk b51)))), (12, undef), (13, (.bool o48))], ⟨rfl, rfl, rfl, rfl, rfl, rfl, rfl, rfl, rfl, rfl, rfl, rfl, rfl, trivial⟩, ?_⟩
    have hx := st_5_7_11_12 m40 C43 C44 F45 H46 D47 o48 b51 w54 h
    rw [h96] at hx
    exact hx
  have st_5_7 : ∀ (m40 : Option Nat) (C43 : Int) (C44 : Int) (F45 : Bool) (H46 : Bool) (D47 : Slc) (o48 : Bool) (w31 : World), R30 (some m40) (some (C43, C44, F45, H46, D47, o48)) none none w31 → F98 2 [5, 7] [(0, (.pointer (some a28))), (1, (.pointer (some a28))), (2, (.pointer (some (a28.add 1)))), (3, (.map l32)), (4, (.string k2)), (5, (.map m40)), (6, (.agg #[(.i C35), (.i C37)])), (7, (.tuple #[(.agg #[(.i C43), (.i C44), (.bool F45), (.bool H46), D47.v]), (.bool o48)])), (8, (.tuple #[(.agg #[(.i C43), (.i C44), (.bool F45), (.bool H46), D47.v]), (.bool o48)])), (9, (.agg #[(.i C43), (.i C44), (.bool F45), (.bool H46), D47.v])), (10, (.bool o48))] w31 := by
   intro m40 C43 C44 F45 H46 D47 o48 w31 hr
   rw [h96]
   refine StT.more [8, 9, 10] [11] (by kernel_rfl) (by kernel_rfl) (by kernel_rfl) (.cons ?_ (.cons ?_ (.cons ?_ .nil))) (.cons ?_ .nil)
   ·refine Ans.mk rfl rfl fun a H => ?_
    replace H := H.weaken (L' := [(21, (.tuple #[(.agg #[(.i C43), (.i C44), (.bool F45), (.bool H46), D47.v]), (.bool o48)]))]) ⟨rfl, trivial⟩
    refine s_move H rfl rfl (lt_ rfl) fun a H => c_nil ⟨rfl, rfl, H.weaken (L' := [(13, (.tuple #[(.agg #[(.i C43), (.i C44), (.bool F45), (.bool H46), D47.v]), (.bool o48)]))]) ⟨rfl, trivial⟩⟩
   ·refine Ans.mk rfl rfl fun a H => ?_
    replace H := H.weaken (L' := [(13, (.tuple #[(.agg #[(.i C43), (.i C44), (.bool F45), (.bool H46), D47.v]), (.bool o48)]))]) ⟨rfl, trivial⟩
    refine s_ext H rfl rfl rfl (lt_ rfl) fun a H => c_nil ⟨rfl, rfl, H.weaken (L' := [(22, (.agg #[(.i C43), (.i C44), (.bool F45), (.bool H46), D47.v]))]) ⟨rfl, trivial⟩⟩
   ·refine Ans.mk rfl rfl fun a H => ?_
    replace H := H.weaken (L' := [(13, (.tuple #[(.agg #[(.i C43), (.i C44), (.bool F45), (.bool H46), D47.v]), (.bool o48)]))]) ⟨rfl, trivial⟩
    refine s_ext H rfl rfl rfl (lt_ rfl) fun a H => c_nil ⟨rfl, rfl, H.weaken (L' := [(23, (.bool o48))]) ⟨rfl, trivial⟩⟩
   ·refine ⟨_, rfl, fun a H => ?_⟩
    replace H := H.weaken (L' := []) trivial
    have h := h93 (some m40) (some (C43, C44, F45, H46, D47, o48)) w31 hr
    replace h := h.get
    obtain ⟨b51, w52, n53, h⟩ := h
    refine s_alloc H rfl zero_36 (lt_ rfl) ?_
    rw [← n53.at_]
    clear H a
    intro a H
    refine n53.go <| c_nil ?_
    refine effQ.ok (v := (.pointer (some (blk b51)))) (H.weaken (L' := [(8, (.pointer (some (blk b51))))]) ⟨rfl, trivial⟩) ⟨[(0, (.pointer (some a28))), (1, (.pointer (some a28))), (2, (.pointer (some (a28.add 1)))), (3, (.map l32)), (4, (.string k2)), (5, (.map m40)), (6, (.agg #[(.i C35), (.i C37)])), (7, (.tuple #[(.agg #[(.i C43), (.i C44), (.bool F45), (.bool H46), D47.v]), (.bool o48)])), (8, (.tuple #[(.agg #[(.i C43), (.i C44), (.bool F45), (.bool H46), D47.v]), (.bool o48)])), (9, (.agg #[(.i C43), (.i C44), (.bool F45), (.bool H46), D47.v])), (10, (.bool o48)), (11, (.pointer (some (blk b51))))], ⟨rfl, rfl, rfl, rfl, rfl, rfl, rfl, rfl, rfl, rfl, rfl, rfl, trivial⟩, ?_⟩
    have hx := st_5_7_11 m40 C43 C44 F45 H46 D47 o48 b51 w52 h
    rw [h96] at hx
    exact hx
  have st_5_11 : ∀ (m40 : Option Nat) (b51 : Nat) (w31 : World), R30 (some m40) none (some b51) none w31 → F98 2 [5, 11] [(0, (.pointer (some a28))), (1, (.pointer (some a28))), (2, (.pointer (some (a28.add 1)))), (3, (.map l32)), (4, (.string k2)), (5, (.map m40)), (6, (.agg #[(.i C35), (.i C37)])), (11, (.pointer (some (blk b51))))] w31 := by
   intro m40 b51 w31 hr
   rw [h96]
   refine StT.more [6] [7] (by kernel_rfl) (by kernel_rfl) (by kernel_rfl) (.cons ?_ .nil) (.cons ?_ .nil)
   ·refine Ans.mk rfl rfl fun a H => ?_
    replace H := H.weaken (L' := [(5, (.pointer (some (blk b6))))]) ⟨rfl, trivial⟩
    obtain ⟨hc36, hc38⟩ := h39 (some m40) (some b51) w31 hr
    refine s_loadN (l := [(.i C35), (.i C37)]) H rfl rfl agg_33 rfl ⟨hc36, hc38, trivial⟩ (lt_ rfl) fun a H => c_nil ⟨rfl, rfl, H.weaken (L' := [(20, (.agg #[(.i C35), (.i C37)]))]) ⟨rfl, trivial⟩⟩
   ·refine ⟨_, rfl, fun a H => ?_⟩
    replace H := H.weaken (L' := [(19, (.map m40)), (20, (.agg #[(.i C35), (.i C37)]))]) ⟨rfl, rfl, trivial⟩
    have h := h92 m40 (some b51) w31 hr
    obtain ⟨_, h50, C43, C44, F45, H46, D47, o48, rfl, h⟩ := h
    refine s_lkp H rfl rfl rfl h50 (lt_ rfl) ?_
    clear H a h50
    intro a H
    refine c_nil ?_
    refine effQ.ok (v := (.tuple #[(.agg #[(.i C43), (.i C44), (.bool F45), (.bool H46), D47.v]), (.bool o48)])) (H.weaken (L' := [(21, (.tuple #[(.agg #[(.i C43), (.i C44), (.bool F45), (.bool H46), D47.v]), (.bool o48)]))]) ⟨rfl, trivial⟩) ⟨[(0, (.pointer (some a28))), (1, (.pointer (some a28))), (2, (.pointer (some (a28.add 1)))), (3, (.map l32)), (4, (.string k2)), (5, (.map m40)), (6, (.agg #[(.i C35), (.i C37)])), (7, (.tuple #[(.agg #[(.i C43), (.i C44), (.bool F45), (.bool H46), D47.v]), (.bool o48)])), (8, (.tuple #[(.agg #[(.i C43), (.i C44), (.bool F45), (.bool H46), D47.v]), (.bool o48)])), (9, (.agg #[(.i C43), (.i C44), (.bool F45), (.bool H46), D47.v])), (10, (.bool o48)), (11, (.pointer (some (blk b51))))], ⟨rfl, rfl, rfl, rfl, rfl, rfl, rfl, rfl, rfl, trivial⟩, ?_⟩
    have hx := st_5_7_11 m40 C43 C44 F45 H46 D47 o48 b51 w31 h
    rw [h96] at hx
    exact hx
  have st_5 : ∀ (m40 : Option Nat) (w31 : World), R30 (some m40) none none none w31 → F98 3 [5] [(0, (.pointer (some a28))), (1, (.pointer (some a28))), (2, (.pointer (some (a28.add 1)))), (3, (.map l32)), (4, (.string k2)), (5, (.map m40)), (6, (.agg #[(.i C35), (.i C37)]))] w31 := by
   intro m40 w31 hr
   rw [h96]
   refine StT.more [6] [7, 11] (by kernel_rfl) (by kernel_rfl) (by kernel_rfl) (.cons ?_ .nil) (.cons ?_ (.cons ?_ .nil))
   ·refine Ans.mk rfl rfl fun a H => ?_
    replace H := H.weaken (L' := [(5, (.pointer (some (blk b6))))]) ⟨rfl, trivial⟩
    obtain ⟨hc36, hc38⟩ := h39 (some m40) none w31 hr
    refine s_loadN (l := [(.i C35), (.i C37)]) H rfl rfl agg_33 rfl ⟨hc36, hc38, trivial⟩ (lt_ rfl) fun a H => c_nil ⟨rfl, rfl, H.weaken (L' := [(20, (.agg #[(.i C35), (.i C37)]))]) ⟨rfl, trivial⟩⟩
   ·refine ⟨_, rfl, fun a H => ?_⟩
    replace H := H.weaken (L' := [(19, (.map m40)), (20, (.agg #[(.i C35), (.i C37)]))]) ⟨rfl, rfl, trivial⟩
    have h := h92 m40 none w31 hr
    obtain ⟨_, h50, C43, C44, F45, H46, D47, o48, rfl, h⟩ := h
    refine s_lkp H rfl rfl rfl h50 (lt_ rfl) ?_
    clear H a h50
    intro a H
    refine c_nil ?_
    refine effQ.ok (v := (.tuple #[(.agg #[(.i C43), (.i C44), (.bool F45), (.bool H46), D47.v]), (.bool o48)])) (H.weaken (L' := [(21, (.tuple #[(.agg #[(.i C43), (.i C44), (.bool F45), (.bool H46), D47.v]), (.bool o48)]))]) ⟨rfl, trivial⟩) ⟨[(0, (.pointer (some a28))), (1, (.pointer (some a28))), (2, (.pointer (some (a28.add 1)))), (3, (.map l32)), (4, (.string k2)), (5, (.map m40)), (6, (.agg #[(.i C35), (.i C37)])), (7, (.tuple #[(.agg #[(.i C43), (.i C44), (.bool F45), (.bool H46), D47.v]), (.bool o48)])), (8, (.tuple #[(.agg #[(.i C43), (.i C44), (.bool F45), (.bool H46), D47.v]), (.bool o48)])), (9, (.agg #[(.i C43), (.i C44), (.bool F45), (.bool H46), D47.v])), (10, (.bool o48))], ⟨rfl, rfl, rfl, rfl, rfl, rfl, rfl, rfl, trivial⟩, ?_⟩
    have hx := st_5_7 m40 C43 C44 F45 H46 D47 o48 w31 h
    rw [h96] at hx
    exact hx
   ·refine ⟨_, rfl, fun a H => ?_⟩
    replace H := H.weaken (L' := []) trivial
    have h := h93 (some m40) none w31 hr
    replace h := h.get
    obtain ⟨b51, w52, n53, h⟩ := h
    refine s_alloc H rfl zero_36 (lt_ rfl) ?_
    rw [← n53.at_]
    clear H a
    intro a H
    refine n53.go <| c_nil <| effQ.ok (v := (.pointer (some (blk b51)))) (H.weaken (L' := [(8, (.pointer (some (blk b51))))]) ⟨rfl, trivial⟩) ⟨[(0, (.pointer (some a28))), (1, (.pointer (some a28))), (2, (.pointer (some (a28.add 1)))), (3, (.map l32)), (4, (.string k2)), (5, (.map m40)), (6, (.agg #[(.i C35), (.i C37)])), (11, (.pointer (some (blk b51))))], ⟨rfl, rfl, rfl, rfl, rfl, rfl, rfl, rfl, trivial⟩, ?_⟩
    have hx := st_5_11 m40 b51 w52 h
    rw [h96] at hx
    exact hx
  have st_11 : ∀ (b51 : Nat) (w31 : World), R30 none none (some b51) none w31 → F98 3 [11] [(0, (.pointer (some a28))), (1, (.pointer (some a28))), (2, (.pointer (some (a28.add 1)))), (3, (.map l32)), (4, (.string k2)), (6, (.agg #[(.i C35), (.i C37)])), (11, (.pointer (some (blk b51))))] w31 := by
   intro b51 w31 hr
   rw [h96]
   refine StT.more [0, 1, 2, 3, 4, 6] [5] (by kernel_rfl) (by kernel_rfl) (by kernel_rfl) (.cons ?_ (.cons ?_ (.cons ?_ (.cons ?_ (.cons ?_ (.cons ?_ .nil)))))) (.cons ?_ .nil)
   ·refine Ans.mk rfl rfl fun a H => ?_
    replace H := H.weaken (L' := [(0, (.pointer (some a28)))]) ⟨rfl, trivial⟩
    refine s_move H rfl rfl (lt_ rfl) fun a H => c_nil ⟨rfl, rfl, H.weaken (L' := [(14, (.pointer (some a28)))]) ⟨rfl, trivial⟩⟩
   ·refine Ans.mk rfl rfl fun a H => ?_
    replace H := H.weaken (L' := [(14, (.pointer (some a28)))]) ⟨rfl, trivial⟩
    refine s_nil H rfl rfl (lt_ rfl) fun a H => c_nil ⟨rfl, rfl, H.weaken (L' := [(15, (.pointer (some a28)))]) ⟨rfl, trivial⟩⟩
   ·refine Ans.mk rfl rfl fun a H => ?_
    replace H := H.weaken (L' := [(15, (.pointer (some a28)))]) ⟨rfl, trivial⟩
    refine s_fld H rfl rfl fld_52_1 (lt_ rfl) fun a H => c_nil ⟨rfl, rfl, H.weaken (L' := [(16, (.pointer (some (a28.add 1))))]) ⟨rfl, trivial⟩⟩
   ·refine Ans.mk rfl rfl fun a H => ?_
    replace H := H.weaken (L' := [(16, (.pointer (some (a28.add 1))))]) ⟨rfl, trivial⟩
    obtain hc33 := h34 (some b51) w31 hr
    refine s_load (v := (.map l32)) H rfl rfl one_50 hc33 (lt_ rfl) fun a H => c_nil ⟨rfl, rfl, H.weaken (L' := [(17, (.map l32))]) ⟨rfl, trivial⟩⟩
   ·refine Ans.mk rfl rfl fun a H => ?_
    replace H := H.weaken (L' := [(1, (.string k2))]) ⟨rfl, trivial⟩
    refine s_move H rfl rfl (lt_ rfl) fun a H => c_nil ⟨rfl, rfl, H.weaken (L' := [(18, (.string k2))]) ⟨rfl, trivial⟩⟩
   ·refine Ans.mk rfl rfl fun a H => ?_
    replace H := H.weaken (L' := [(5, (.pointer (some (blk b6))))]) ⟨rfl, trivial⟩
    obtain ⟨hc36, hc38⟩ := h39 none (some b51) w31 hr
    refine s_loadN (l := [(.i C35), (.i C37)]) H rfl rfl agg_33 rfl ⟨hc36, hc38, trivial⟩ (lt_ rfl) fun a H => c_nil ⟨rfl, rfl, H.weaken (L' := [(20, (.agg #[(.i C35), (.i C37)]))]) ⟨rfl, trivial⟩⟩
   ·refine ⟨_, rfl, fun a H => ?_⟩
    replace H := H.weaken (L' := [(17, (.map l32)), (18, (.string k2))]) ⟨rfl, rfl, trivial⟩
    have h := h91 (some b51) w31 hr
    obtain ⟨_, h42, m40, rfl, h⟩ := h
    refine s_lkp H rfl rfl rfl h42 (lt_ rfl) ?_
    clear H a h42
    intro a H
    refine c_nil <| effQ.ok (v := (.map m40)) (H.weaken (L' := [(19, (.map m40))]) ⟨rfl, trivial⟩) ⟨[(0, (.pointer (some a28))), (1, (.pointer (some a28))), (2, (.pointer (some (a28.add 1)))), (3, (.map l32)), (4, (.string k2)), (5, (.map m40)), (6, (.agg #[(.i C35), (.i C37)])), (11, (.pointer (some (blk b51))))], ⟨rfl, rfl, rfl, rfl, rfl, rfl, rfl, rfl, trivial⟩, ?_⟩
    have hx := st_5_11 m40 b51 w31 h
    rw [h96] at hx
    exact hx
  have st_ : ∀ (w31 : World), R30 none none none none w31 → F98 4 [] [(0, (.pointer (some a28))), (1, (.pointer (some a28))), (2, (.pointer (some (a28.add 1)))), (3, (.map l32)), (4, (.string k2)), (6, (.agg #[(.i C35), (.i C37)]))] w31 := by
   intro w31 hr
   rw [h96]
   refine StT.more [0, 1, 2, 3, 4, 6] [5, 11] (by kernel_rfl) (by kernel_rfl) (by kernel_rfl) (.cons ?_ (.cons ?_ (.cons ?_ (.cons ?_ (.cons ?_ (.cons ?_ .nil)))))) (.cons ?_ (.cons ?_ .nil))
   ·refine Ans.mk rfl rfl fun a H => ?_
    replace H := H.weaken (L' := [(0, (.pointer (some a28)))]) ⟨rfl, trivial⟩
    refine s_move H rfl rfl (lt_ rfl) fun a H => c_nil ⟨rfl, rfl, H.weaken (L' := [(14, (.pointer (some a28)))]) ⟨rfl, trivial⟩⟩
   ·refine Ans.mk rfl rfl fun a H => ?_
    replace H := H.weaken (L' := [(14, (.pointer (some a28)))]) ⟨rfl, trivial⟩
    refine s_nil H rfl rfl (lt_ rfl) fun a H => c_nil ⟨rfl, rfl, H.weaken (L' := [(15, (.pointer (some a28)))]) ⟨rfl, trivial⟩⟩
   ·refine Ans.mk rfl rfl fun a H => ?_
    replace H := H.weaken (L' := [(15, (.pointer (some a28)))]) ⟨rfl, trivial⟩
    refine s_fld H rfl rfl fld_52_1 (lt_ rfl) fun a H => c_nil ⟨rfl, rfl, H.weaken (L' := [(16, (.pointer (some (a28.add 1))))]) ⟨rfl, trivial⟩⟩
   ·refine Ans.mk rfl rfl fun a H => ?_
    replace H := H.weaken (L' := [(16, (.pointer (some (a28.add 1))))]) ⟨rfl, trivial⟩
    obtain hc33 := h34 none w31 hr
    refine s_load (v := (.map l32)) H rfl rfl one_50 hc33 (lt_ rfl) fun a H => c_nil ⟨rfl, rfl, H.weaken (L' := [(17, (.map l32))]) ⟨rfl, trivial⟩⟩
   ·refine Ans.mk rfl rfl fun a H => ?_
    replace H := H.weaken (L' := [(1, (.string k2))]) ⟨rfl, trivial⟩
    refine s_move H rfl rfl (lt_ rfl) fun a H => c_nil ⟨rfl, rfl, H.weaken (L' := [(18, (.string k2))]) ⟨rfl, trivial⟩⟩
   ·refine Ans.mk rfl rfl fun a H => ?_
    replace H := H.weaken (L' := [(5, (.pointer (some (blk b6))))]) ⟨rfl, trivial⟩
    obtain ⟨hc36, hc38⟩ := h39 none none w31 hr
    refine s_loadN (l := [(.i C35), (.i C37)]) H rfl rfl agg_33 rfl ⟨hc36, hc38, trivial⟩ (lt_ rfl) fun a H => c_nil ⟨rfl, rfl, H.weaken (L' := [(20, (.agg #[(.i C35), (.i C37)]))]) ⟨rfl, trivial⟩⟩
   ·refine ⟨_, rfl, fun a H => ?_⟩
    replace H := H.weaken (L' := [(17, (.map l32)), (18, (.string k2))]) ⟨rfl, rfl, trivial⟩
    have h := h91 none w31 hr
    obtain ⟨_, h42, m40, rfl, h⟩ := h
    refine s_lkp H rfl rfl rfl h42 (lt_ rfl) ?_
    clear H a h42
    intro a H
    refine c_nil <| effQ.ok (v := (.map m40)) (H.weaken (L' := [(19, (.map m40))]) ⟨rfl, trivial⟩) ⟨[(0, (.pointer (some a28))), (1, (.pointer (some a28))), (2, (.pointer (some (a28.add 1)))), (3, (.map l32)), (4, (.string k2)), (5, (.map m40)), (6, (.agg #[(.i C35), (.i C37)]))], ⟨rfl, rfl, rfl, rfl, rfl, rfl, rfl, trivial⟩, ?_⟩
    have hx := st_5 m40 w31 h
    rw [h96] at hx
    exact hx
   ·refine ⟨_, rfl, fun a H => ?_⟩
    replace H := H.weaken (L' := []) trivial
    have h := h93 none none w31 hr
    replace h := h.get
    obtain ⟨b51, w52, n53, h⟩ := h
    refine s_alloc H rfl zero_36 (lt_ rfl) ?_
    rw [← n53.at_]
    clear H a
    intro a H
    refine n53.go <| c_nil <| effQ.ok (v := (.pointer (some (blk b51)))) (H.weaken (L' := [(8, (.pointer (some (blk b51))))]) ⟨rfl, trivial⟩) ⟨[(0, (.pointer (some a28))), (1, (.pointer (some a28))), (2, (.pointer (some (a28.add 1)))), (3, (.map l32)), (4, (.string k2)), (6, (.agg #[(.i C35), (.i C37)])), (11, (.pointer (some (blk b51))))], ⟨rfl, rfl, rfl, rfl, rfl, rfl, rfl, trivial⟩, ?_⟩
    have hx := st_11 b51 w52 h
    rw [h96] at hx
    exact hx
  exact st_ _ h97

theorem sim_sherdref15_Table_Get (t1 : Option Addr) (k2 : ByteArray) (C3 C4 : Int) (w : World) (Q : Ending → World → Prop) (h : vc_sherdref15_Table_Get t1 k2 C3 C4 w Q) : Calls PP F_sherdref15_Table_Get #[(.pointer t1), (.string k2), (.agg #[(.i C3), (.i C4)])] w Q := by
 unfold vc_sherdref15_Table_Get at h
 refine enter (n := 30) Tryz.func15 rfl rfl (Nat.le_of_ble_eq_true rfl) fun a H => c_seq fun K5 hK5 => c_reg ?_
 replace h := h.get
 obtain ⟨b6, w7, n8, h⟩ := h
 refine s_box H rfl rfl (lt_ rfl) ?_
 rw [← n8.at_]
 clear H a
 intro a H
 refine n8.go ?_
 replace h := h.get
 obtain ⟨b9, w10, n11, h⟩ := h
 refine s_alloc H rfl zero_36 (lt_ rfl) ?_
 rw [← n11.at_]
 clear H a
 intro a H
 refine n11.go <| s_assign H rfl rfl (lt_ rfl) fun a H => c_nil <| hK5 _ _ <| c_seq fun K12 hK12 => c_seq fun K13 hK13 => c_reg <| s_move H rfl rfl (lt_ rfl) fun a H => s_bin H rfl rfl rfl (r_eqP0 ptr_25) (lt_ rfl) fun a H => s_move H rfl rfl (lt_ rfl) fun a H => ?_
 obtain ⟨R16, h, h89⟩ := h
 refine g_joinW (n := 30) R16 (fun x17 => [(16, (.bool x17)), (0, (.pointer t1)), (1, (.string k2)), (5, (.pointer (some (blk b6)))), (6, (.pointer (some (blk b9))))]) (.succ (.succ (.succ (.succ (.succ (.succ (.zero _))))))) ?_ ?_
 ·intro h15
  clear h89
  rcases Bool.eq_false_or_eq_true t1.isNone with h14 | h14
  ·replace H := H.ch (t := 10) (b := true) rfl h14
   replace h := h.2 h14
   iterate 5 refine s_skip H (wantN H rfl rfl rfl) rfl (lt_ rfl) fun a H => ?_
   refine s_pickT H rfl rfl rfl (lt_ rfl) fun a H => ?_
   exact h15 _ _ _ h (H.weaken ⟨rfl, rfl, rfl, rfl, rfl, trivial⟩)
  ·replace H := H.ch (t := 10) (b := false) rfl h14
   replace h := h.1 h14
   refine s_move H (wantG H rfl rfl) rfl (lt_ rfl) fun a H => s_move H (wantG H rfl rfl) rfl (lt_ rfl) fun a H => s_loadN (l := [(.i C3), (.i C4)]) H (wantG H rfl rfl) rfl agg_33 rfl ⟨(n11.old (n8.cell (i := 0) rfl)), (n11.old (n8.cell (i := 1) rfl)), trivial⟩ (lt_ rfl) fun a H => s_call H (wantG H rfl rfl) body_42 (H.args (vs := [(.pointer t1), (.string k2), (.agg #[(.i C3), (.i C4)])]) rfl) (lt_ rfl) h ?_ (fun c w' h H => e_panic (P := PP) (fn := Tryz.f15) H h)
   clear H h a
   rintro _ w19 a ⟨p20, rfl, h⟩ H
   refine s_bin H (wantG H rfl rfl) rfl rfl r_lss (lt_ rfl) fun a H => s_pickF H rfl rfl rfl (lt_ rfl) fun a H => ?_
   exact h15 _ _ _ h (H.weaken ⟨rfl, rfl, rfl, rfl, rfl, trivial⟩)
 ·clear H a h
  intro a x17 w18 h H
  replace h := h89 x17 w18 h
  clear h89
  refine c_nil <| hK13 _ _ <| c_cond H rfl (fun h25 => ?_) (fun h25 => ?_)
  ·replace h := h.1 h25
   refine c_seq fun K26 hK26 => c_reg <| s_build H rfl (by rw [H.parts (vs := []) rfl]; exact bd_36 w18) (lt_ rfl) fun a H => s_stoN (l := [(.i 0), (.i 0), (.bool false), (.bool false), Slc.nil.v]) H rfl rfl rfl rfl agg_36 rfl rfl h ?_
   clear h H
   intro w27 h H
   refine s_assign H rfl rfl (lt_ rfl) fun a H => c_nil <| hK26 _ _ <| c_ret ?_
   obtain ⟨C28, hc29, C30, hc31, F32, hc33, H34, hc35, D36, hc37, h⟩ := h
   exact e_ret2 H rfl ⟨_, rfl, run_loadN (l := [(.i C28), (.i C30), (.bool F32), (.bool H34), D36.v]) agg_36 rfl ⟨hc29, hc31, hc33, hc35, hc37, trivial⟩⟩ rfl h
  ·replace h := h.2 h25
   refine c_skip <| hK12 _ _ <| c_seq fun K38 hK38 => ?_
   replace H := H.weaken (L' := [(0, (.pointer t1)), (1, (.string k2)), (5, (.pointer (some (blk b6)))), (6, (.pointer (some (blk b9))))]) ⟨rfl, rfl, rfl, rfl, trivial⟩
   obtain ⟨a39, h40, h⟩ := h
   revert H
   subst h40
   intro H
   obtain ⟨l41, hc42, C43, hc44, C45, hc46, h⟩ := h
   refine c_any (V := [(0, (.pointer (some a39))), (1, (.pointer (some a39))), (2, (.pointer (some (a39.add 1)))), (3, l41.v), (4, (.pointer (some a39))), (5, (.string k2)), (6, (.agg #[(.i C43), (.i C45)]))]) (⟨[[], [0], [1], [2], [], [], [], [4, 5, 6], [3, 7], [8], [9], [7, 10], [0, 1, 2, 3, 4, 5, 6, 7, 8, 9, 10, 11], [0, 1, 2, 3, 4, 5, 6, 7, 8, 9, 10, 11, 12]], [some 18, some 19, some 20, some 21, some 22, some 23, some 24, some 25, some 26, some 27, some 28, some 29, none, some 7], [7, 11, 12], [0, 0, 0, 0, 0, 0, 0, 0, 1, 1, 1, 1, 2, 3], [1, 1, 1, 1, 0, 0, 0, 1, 1, 1, 1, 2, 3, 3]⟩ : Rg) [(0, (.pointer (some a39))), (1, (.string k2)), (5, (.pointer (some (blk b6)))), (6, (.pointer (some (blk b9))))] mixed (by kernel_rfl) H ?_
   refine Stg.eff [0, 1, 2, 3, 4, 5, 6] (by kernel_rfl) rfl (.cons ?_ (.cons ?_ (.cons ?_ (.cons ?_ (.cons ?_ (.cons ?_ (.cons ?_ .nil))))))) ?_
   ·refine Ans.mk rfl rfl fun a H => s_move H rfl rfl (lt_ rfl) fun a H => ?_
    exact Ans.fin H rfl
   ·refine Ans.mk rfl rfl fun a H => s_nil H rfl rfl (lt_ rfl) fun a H => ?_
    exact Ans.fin H rfl
   ·refine Ans.mk rfl rfl fun a H => s_fld H rfl rfl fld_49_1 (lt_ rfl) fun a H => ?_
    exact Ans.fin H rfl
   ·refine Ans.mk rfl rfl fun a H => s_load (v := l41.v) H rfl rfl one_47 hc42 (lt_ rfl) fun a H => ?_
    exact Ans.fin H rfl
   ·refine Ans.mk rfl rfl fun a H => s_move H rfl rfl (lt_ rfl) fun a H => ?_
    exact Ans.fin H rfl
   ·refine Ans.mk rfl rfl fun a H => s_move H rfl rfl (lt_ rfl) fun a H => ?_
    exact Ans.fin H rfl
   ·refine Ans.mk rfl rfl fun a H => s_loadN (l := [(.i C43), (.i C45)]) H rfl rfl agg_33 rfl ⟨hc44, hc46, trivial⟩ (lt_ rfl) fun a H => ?_
    exact Ans.fin H rfl
   ·intro a H
    replace H := H.weaken (L' := [(22, (.pointer (some a39))), (23, (.string k2)), (24, (.agg #[(.i C43), (.i C45)]))]) ⟨rfl, rfl, rfl, trivial⟩
    refine s_call H rfl body_42 (H.args (vs := [(.pointer (some a39)), (.string k2), (.agg #[(.i C43), (.i C45)])]) rfl) (lt_ rfl) h ?_ (fun c w' h H => e_panic (P := PP) (fn := Tryz.f15) H h)
    clear H h a
    rintro _ w47 a ⟨p48, rfl, h⟩ H
    refine c_nil ?_
    obtain ⟨hc49, a50, h51, h52, h53, C54, hc55, C56, hc57, F58, hc59, H60, hc61, D62, hc63, h⟩ := h
    refine effQ.go [(8, (.pointer (some (a50.add (Int.toNat (p48) * 6))))), (9, (.pointer (some ((a50.add (Int.toNat (p48) * 6)).add 1)))), (10, (.agg #[(.i C54), (.i C56), (.bool F58), (.bool H60), D62.v]))] H rfl rfl <| Stg.eff [0, 1, 2, 3, 8, 9, 10] (by kernel_rfl) rfl (.cons ?_ (.cons ?_ (.cons ?_ (.cons ?_ (.cons ?_ (.cons ?_ (.cons ?_ .nil))))))) ?_
    ·refine Ans.mk rfl rfl fun a H => s_move H rfl rfl (lt_ rfl) fun a H => ?_
     exact Ans.fin H rfl
    ·refine Ans.mk rfl rfl fun a H => s_nil H rfl rfl (lt_ rfl) fun a H => ?_
     exact Ans.fin H rfl
    ·refine Ans.mk rfl rfl fun a H => s_fld H rfl rfl fld_49_1 (lt_ rfl) fun a H => ?_
     exact Ans.fin H rfl
    ·refine Ans.mk rfl rfl fun a H => s_load (v := l41.v) H rfl rfl one_47 hc49 (lt_ rfl) fun a H => ?_
     exact Ans.fin H rfl
    ·refine Ans.mk rfl rfl fun a H => s_idxS (s := l41) H rfl rfl rfl slc_47 h51 h52 h53 (lt_ rfl) fun a H => ?_
     exact Ans.fin H rfl
    ·refine Ans.mk rfl rfl fun a H => s_fld H rfl rfl fld_57_1 (lt_ rfl) fun a H => ?_
     exact Ans.fin H rfl
    ·refine Ans.mk rfl rfl fun a H => s_loadN (l := [(.i C54), (.i C56), (.bool F58), (.bool H60), D62.v]) H rfl rfl agg_36 rfl ⟨hc55, hc57, hc59, hc61, hc63, trivial⟩ (lt_ rfl) fun a H => ?_
     exact Ans.fin H rfl
    ·intro a H
     replace H := H.weaken (L' := [(28, (.agg #[(.i C54), (.i C56), (.bool F58), (.bool H60), D62.v]))]) ⟨rfl, trivial⟩
     refine s_call H rfl body_12 (H.args (vs := [(.agg #[(.i C54), (.i C56), (.bool F58), (.bool H60), D62.v])]) rfl) (lt_ rfl) h ?_ (fun c w' h H => e_panic (P := PP) (fn := Tryz.f15) H h)
     clear H h a
     rintro _ w64 a ⟨C65, C66, F67, H68, D69, rfl, h⟩ H
     refine c_nil <| effQ.go [] H rfl rfl <| Stg.eff [] (by kernel_rfl) rfl .nil ?_
     ·intro a H
      replace H := H.weaken (L' := [(6, (.pointer (some (blk b9)))), (29, (.agg #[(.i C65), (.i C66), (.bool F67), (.bool H68), D69.v]))]) ⟨rfl, rfl, trivial⟩
      refine s_stoN (l := [(.i C65), (.i C66), (.bool F67), (.bool H68), D69.v]) H rfl rfl rfl rfl agg_36 rfl rfl h ?_
      clear h H
      intro w70 h H
      refine c_nil <| effQ.go0 [(13, (.bool true))] H rfl rfl <| Stg.fin [13] (by kernel_rfl) (.cons ?_ .nil) ?_
      ·refine Ans.mk rfl rfl fun a H => s_assign H rfl rfl (lt_ rfl) fun a H => ?_
       exact Ans.fin H rfl
      ·intro a H
       replace H := H.weaken (L' := [(6, (.pointer (some (blk b9)))), (7, (.bool true))]) ⟨rfl, rfl, trivial⟩
       refine hK38 _ _ <| c_ret ?_
       obtain ⟨C71, hc72, C73, hc74, F75, hc76, H77, hc78, D79, hc80, h⟩ := h
       exact e_ret2 H rfl ⟨_, rfl, run_loadN (l := [(.i C71), (.i C73), (.bool F75), (.bool H77), D79.v]) agg_36 rfl ⟨hc72, hc74, hc76, hc78, hc80, trivial⟩⟩ rfl h

theorem sim_sherdlaw15_sameEntry (C1 C2 : Int) (F3 H4 : Bool) (D5 : Slc) (C6 C7 : Int) (F8 H9 : Bool) (D10 : Slc) (w : World) (Q : Ending → World → Prop) (h : vc_sherdlaw15_sameEntry C1 C2 F3 H4 D5 C6 C7 F8 H9 D10 w Q) : Calls PP F_sherdlaw15_sameEntry #[(.agg #[(.i C1), (.i C2), (.bool F3), (.bool H4), D5.v]), (.agg #[(.i C6), (.i C7), (.bool F8), (.bool H9), D10.v])] w Q := by
 unfold vc_sherdlaw15_sameEntry at h
 refine enter (n := 33) Tryz.func16 rfl rfl (Nat.le_of_ble_eq_true rfl) fun a H => c_seq fun K11 hK11 => c_reg ?_
 replace h := h.get
 obtain ⟨b12, w13, n14, h⟩ := h
 refine s_box H rfl rfl (lt_ rfl) ?_
 rw [← n14.at_]
 clear H a
 intro a H
 refine n14.go ?_
 replace h := h.get
 obtain ⟨b15, w16, n17, h⟩ := h
 refine s_box H rfl rfl (lt_ rfl) ?_
 rw [← n17.at_]
 clear H a
 intro a H
 refine n17.go <| s_assign H rfl rfl (lt_ rfl) fun a H => c_nil <| hK11 _ _ <| c_seq fun K18 hK18 => c_reg <| s_fld H rfl rfl fld_36_0 (lt_ rfl) fun a H => s_loadN (l := [(.i C1), (.i C2)]) H rfl rfl agg_33 rfl ⟨(n17.old (n14.cell (i := 0) rfl)), (n17.old (n14.cell (i := 1) rfl)), trivial⟩ (lt_ rfl) fun a H => s_fld H rfl rfl fld_36_0 (lt_ rfl) fun a H => ?_
 refine s_loadN (l := [(.i C6), (.i C7)]) H rfl rfl agg_33 rfl ⟨(n17.cell (i := 0) rfl), (n17.cell (i := 1) rfl), trivial⟩ (lt_ rfl) fun a H => s_bin H rfl rfl rfl (r_eqst eqg_33 (eqst_33 0) rfl) (lt_ rfl) fun a H => s_move H rfl rfl (lt_ rfl) fun a H => g_join (n := 33) [(16, (.bool ((decide (C1 = C6) && (decide (C2 = C7))) && (decide (F3 = F8))))), (2, (.pointer (some (blk b12)))), (3, (.pointer (some (blk b15))))] (.succ (.succ (.succ (.succ (.succ (.succ (.zero _))))))) ?_ ?_
 ·intro h20
  try clear h
  rcases Bool.eq_false_or_eq_true (decide (C1 = C6) && (decide (C2 = C7))) with h19 | h19
  ·replace H := H.ch (t := 10) (b := true) rfl h19
   refine s_fld H (wantG H rfl rfl) rfl fld_36_1 (lt_ rfl) fun a H => s_load (v := (.bool F3)) H (wantG H rfl rfl) rfl one_4 (n17.old (n14.cell (i := 2) rfl)) (lt_ rfl) fun a H => s_fld H (wantG H rfl rfl) rfl fld_36_1 (lt_ rfl) fun a H => s_load (v := (.bool F8)) H (wantG H rfl rfl) rfl one_4 (n17.cell (i := 2) rfl) (lt_ rfl) fun a H => s_bin H (wantG H rfl rfl) rfl rfl (r_eqB bool_4) (lt_ rfl) fun a H => s_pickT H rfl rfl rfl (lt_ rfl) fun a H => ?_
   exact h20 _ (H.weaken ⟨by rw [h19]; rfl, rfl, rfl, trivial⟩)
  ·replace H := H.ch (t := 10) (b := false) rfl h19
   iterate 5 refine s_skip H (wantN H rfl rfl rfl) rfl (lt_ rfl) fun a H => ?_
   refine s_pickF H rfl rfl rfl (lt_ rfl) fun a H => ?_
   exact h20 _ (H.weaken ⟨by rw [h19]; rfl, rfl, rfl, trivial⟩)
 ·clear H a
  intro a H
  refine s_move H rfl rfl (lt_ rfl) fun a H => g_join (n := 33) [(23, (.bool (((decide (C1 = C6) && (decide (C2 = C7))) && (decide (F3 = F8))) && (decide (H4 = H9))))), (2, (.pointer (some (blk b12)))), (3, (.pointer (some (blk b15))))] (.succ (.succ (.succ (.succ (.succ (.succ (.zero _))))))) ?_ ?_
  ·intro h22
   try clear h
   rcases Bool.eq_false_or_eq_true ((decide (C1 = C6) && (decide (C2 = C7))) && (decide (F3 = F8))) with h21 | h21
   ·replace H := H.ch (t := 17) (b := true) rfl h21
    refine s_fld H (wantG H rfl rfl) rfl fld_36_2 (lt_ rfl) fun a H => s_load (v := (.bool H4)) H (wantG H rfl rfl) rfl one_4 (n17.old (n14.cell (i := 3) rfl)) (lt_ rfl) fun a H => s_fld H (wantG H rfl rfl) rfl fld_36_2 (lt_ rfl) fun a H => s_load (v := (.bool H9)) H (wantG H rfl rfl) rfl one_4 (n17.cell (i := 3) rfl) (lt_ rfl) fun a H => s_bin H (wantG H rfl rfl) rfl rfl (r_eqB bool_4) (lt_ rfl) fun a H => s_pickT H rfl rfl rfl (lt_ rfl) fun a H => ?_
    exact h22 _ (H.weaken ⟨by rw [h21]; rfl, rfl, rfl, trivial⟩)
   ·replace H := H.ch (t := 17) (b := false) rfl h21
    iterate 5 refine s_skip H (wantN H rfl rfl rfl) rfl (lt_ rfl) fun a H => ?_
    refine s_pickF H rfl rfl rfl (lt_ rfl) fun a H => ?_
    exact h22 _ (H.weaken ⟨by rw [h21]; rfl, rfl, rfl, trivial⟩)
  ·clear H a
   intro a H
   refine s_move H rfl rfl (lt_ rfl) fun a H => ?_
   obtain ⟨x29, h30, h31, h⟩ := h
   refine g_join (n := 33) [(32, (.bool x29))] (.succ (.succ (.succ (.succ (.succ (.succ (.succ (.succ (.zero _))))))))) ?_ ?_
   ·intro h24
    try clear h
    rcases Bool.eq_false_or_eq_true (((decide (C1 = C6) && (decide (C2 = C7))) && (decide (F3 = F8))) && (decide (H4 = H9))) with h23 | h23
    ·replace H := H.ch (t := 24) (b := true) rfl h23
     replace h := h30 h23
     refine s_fld H (wantG H rfl rfl) rfl fld_36_3 (lt_ rfl) fun a H => s_load (v := D5.v) H (wantG H rfl rfl) rfl one_34 (n17.old (n14.cell (i := 4) rfl)) (lt_ rfl) fun a H => ?_
     obtain ⟨s25, h26, h⟩ := h
     refine s_cv H (wantG H rfl rfl) rfl h26 (lt_ rfl) ?_
     clear H a h26
     intro a H
     refine s_fld H (wantG H rfl rfl) rfl fld_36_3 (lt_ rfl) fun a H => s_load (v := D10.v) H (wantG H rfl rfl) rfl one_34 (n17.cell (i := 4) rfl) (lt_ rfl) fun a H => ?_
     obtain ⟨s27, h28, h⟩ := h
     refine s_cv H (wantG H rfl rfl) rfl h28 (lt_ rfl) ?_
     clear H a h28
     intro a H
     refine s_bin H (wantG H rfl rfl) rfl rfl r_eqlS (lt_ rfl) fun a H => s_pickT H rfl rfl rfl (lt_ rfl) fun a H => ?_
     subst h
     exact h24 _ (H.weaken ⟨rfl, trivial⟩)
    ·replace H := H.ch (t := 24) (b := false) rfl h23
     iterate 7 refine s_skip H (wantN H rfl rfl rfl) rfl (lt_ rfl) fun a H => ?_
     refine s_pickF H rfl rfl rfl (lt_ rfl) fun a H => ?_
     replace h := h31 h23
     subst h
     exact h24 _ (H.weaken ⟨rfl, trivial⟩)
   ·clear H a
    clear h30 h31
    intro a H
    refine s_assign H rfl rfl (lt_ rfl) fun a H => c_nil <| hK18 _ _ <| c_ret ?_
    exact e_ret1 H rfl rfl h
end Go.Proofs.YtgnceldnfefnmaaGreat
