/-
  The conditions give the machine's calls; printed by vcgen.py.
-/
import Derived.Test.YtgnceldnfefnmaaRecVc
namespace Go.Proofs.Ytgnceldnfefnmaa
open Go Go.Vc
set_option maxRecDepth 100000
set_option maxHeartbeats 4000000
theorem sim_sherdlaw15_taken (w : World) (Q : Ending → World → Prop) (h : vc_sherdlaw15_taken w Q) : Calls PP F_sherdlaw15_taken #[] w Q := by
 unfold vc_sherdlaw15_taken at h
 refine enter (n := 86) Try.func16 rfl rfl (Nat.le_of_ble_eq_true rfl) fun a H => c_seq fun K1 hK1 => c_reg <| s_assign H rfl rfl (lt_ rfl) fun a H => c_nil <| hK1 _ _ <| c_seq fun K2 hK2 => c_reg <| s_call H rfl body_8 (H.args (vs := [(.i 0)]) rfl) (lt_ rfl) h ?_ (fun c w' h H => e_panic (P := PP) (fn := Try.f16) H h)
 clear H h a
 rintro _ w3 a ⟨N4, N5, rfl, h⟩ H
 refine s_move H rfl rfl (lt_ rfl) fun a H => s_ext H rfl rfl rfl (lt_ rfl) fun a H => s_ext H rfl rfl rfl (lt_ rfl) fun a H => s_assign H rfl rfl (lt_ rfl) fun a H => s_assign H rfl rfl (lt_ rfl) fun a H => c_nil <| hK2 _ _ <| c_seq fun K6 hK6 => c_seq fun K7 hK7 => c_reg <| s_move H rfl rfl (lt_ rfl) fun a H => s_bin H rfl rfl rfl r_neq (lt_ rfl) fun a H => s_move H rfl rfl (lt_ rfl) fun a H => ?_
 refine g_join (n := 86) [(18, (.bool ((decide (N5 ≠ 0)) || N4.isNone))), (1, (.pointer N4))] (.succ (.succ (.succ (.zero _)))) ?_ ?_
 ·intro h9
  try clear h
  rcases Bool.eq_false_or_eq_true (decide (N5 ≠ 0)) with h8 | h8
  ·replace H := H.ch (t := 15) (b := true) rfl h8
   refine s_skip H (wantN H rfl rfl rfl) rfl (lt_ rfl) fun a H => s_skip H (wantN H rfl rfl rfl) rfl (lt_ rfl) fun a H => s_pickT H rfl rfl rfl (lt_ rfl) fun a H => ?_
   exact h9 _ (H.weaken ⟨by rw [h8]; rfl, rfl, trivial⟩)
  ·replace H := H.ch (t := 15) (b := false) rfl h8
   refine s_move H (wantG H rfl rfl) rfl (lt_ rfl) fun a H => s_bin H (wantG H rfl rfl) rfl rfl (r_eqP0 ptr_24) (lt_ rfl) fun a H => s_pickF H rfl rfl rfl (lt_ rfl) fun a H => ?_
   exact h9 _ (H.weaken ⟨by rw [h8]; rfl, rfl, trivial⟩)
 ·clear H a
  intro a H
  refine c_nil <| hK7 _ _ <| c_cond H rfl (fun h10 => ?_) (fun h10 => ?_)
  ·replace h := h.1 h10
   refine c_seq fun K11 hK11 => c_reg <| s_assign H rfl rfl (lt_ rfl) fun a H => c_nil <| hK11 _ _ <| c_ret ?_
   exact e_ret1 H rfl rfl h
  ·replace h := h.2 h10
   refine c_skip <| hK6 _ _ <| c_seq fun K12 hK12 => c_reg <| s_build H rfl (by rw [H.parts (vs := [(0, (.i 1)), (1, (.i 1))]) rfl]; exact bd_29_ii640_ii641 w3 1 1) (lt_ rfl) fun a H => ?_
   replace h := h.get
   obtain ⟨b13, w14, n15, h⟩ := h
   refine s_alloc H rfl zero_29 (lt_ rfl) ?_
   rw [← n15.at_]
   clear H a
   intro a H
   refine n15.go <| s_stoN (l := [(.i 1), (.i 1)]) H rfl rfl rfl rfl agg_29 rfl rfl h ?_
   clear h H
   intro w16 h H
   refine c_nil <| hK12 _ _ <| c_seq fun K17 hK17 => c_reg <| s_build H rfl (by rw [H.parts (vs := [(0, (.i 2)), (1, (.i 1))]) rfl]; exact bd_29_ii640_ii641 w16 2 1) (lt_ rfl) fun a H => ?_
   replace h := h.get
   obtain ⟨b18, w19, n20, h⟩ := h
   refine s_alloc H rfl zero_29 (lt_ rfl) ?_
   rw [← n20.at_]
   clear H a
   intro a H
   refine n20.go <| s_stoN (l := [(.i 2), (.i 1)]) H rfl rfl rfl rfl agg_29 rfl rfl h ?_
   clear h H
   intro w21 h H
   refine c_nil <| hK17 _ _ <| c_seq fun K22 hK22 => c_reg <| s_move H rfl rfl (lt_ rfl) fun a H => ?_
   obtain ⟨C23, hc24, C25, hc26, h⟩ := h
   refine s_loadN (l := [(.i C23), (.i C25)]) H rfl rfl agg_29 rfl ⟨hc24, hc26, trivial⟩ (lt_ rfl) fun a H => ?_
   replace h := h.get
   obtain ⟨b27, w28, n29, h⟩ := h
   refine s_bslc H rfl (by rw [H.parts (vs := [(0, (.int .u8 120))]) rfl]; exact bs_35_1_iu80 w21 120) (lt_ rfl) ?_
   rw [← n29.at_]
   clear H a
   intro a H
   refine n29.go ?_
   obtain ⟨w31, h30, h⟩ := h
   refine s_cv H rfl rfl h30 (lt_ rfl) ?_
   clear H a h30
   intro a H
   refine s_build H rfl (by rw [H.parts (vs := [(0, (.agg #[(.i C23), (.i C25)])), (3, (Slc.v (Slc.mk (some (blk b27)) 1 1)))]) rfl]; exact bd_37_ii64ii640_s3 w31 C23 C25 (Slc.mk (some (blk b27)) 1 1)) (lt_ rfl) fun a H => ?_
   refine s_build H rfl (by rw [H.parts (vs := [(0, (.i 1)), (1, (.string (ByteArray.mk #[107]))), (2, (.agg #[(.i C23), (.i C25), (.bool false), (.bool false), (Slc.v (Slc.mk (some (blk b27)) 1 1))]))]) rfl]; exact bd_39_ii640_s1_ii64ii64bbs2 w31 1 (ByteArray.mk #[107]) C23 C25 false false (Slc.mk (some (blk b27)) 1 1)) (lt_ rfl) fun a H => ?_
   refine s_call H rfl body_9 (H.args (vs := [(.pointer N4), (.agg #[(.i 1), (.string (ByteArray.mk #[107])), (.i C23), (.i C25), (.bool false), (.bool false), (Slc.v (Slc.mk (some (blk b27)) 1 1))])]) rfl) (lt_ rfl) h ?_ (fun c w' h H => e_panic (P := PP) (fn := Try.f16) H h)
   clear H h a
   rintro _ w32 a ⟨A33, A34, rfl, h⟩ H
   refine s_move H rfl rfl (lt_ rfl) fun a H => s_ext H rfl rfl rfl (lt_ rfl) fun a H => s_ext H rfl rfl rfl (lt_ rfl) fun a H => s_assign H rfl rfl (lt_ rfl) fun a H => s_assign H rfl rfl (lt_ rfl) fun a H => c_nil <| hK22 _ _ <| c_seq fun K35 hK35 => c_reg <| s_move H rfl rfl (lt_ rfl) fun a H => ?_
   obtain ⟨C36, hc37, C38, hc39, h⟩ := h
   refine s_loadN (l := [(.i C36), (.i C38)]) H rfl rfl agg_29 rfl ⟨hc37, hc39, trivial⟩ (lt_ rfl) fun a H => s_build H rfl (by rw [H.parts (vs := [(0, (.agg #[(.i C36), (.i C38)]))]) rfl]; exact bd_37_ii64ii640 w32 C36 C38) (lt_ rfl) fun a H => ?_
   refine s_build H rfl (by rw [H.parts (vs := [(0, (.i 2)), (1, (.string (ByteArray.mk #[107]))), (2, (.agg #[(.i C36), (.i C38), (.bool false), (.bool false), Slc.nil.v]))]) rfl]; exact bd_39_ii640_s1_ii64ii64bbs2 w32 2 (ByteArray.mk #[107]) C36 C38 false false Slc.nil) (lt_ rfl) fun a H => ?_
   refine s_call H rfl body_9 (H.args (vs := [(.pointer N4), (.agg #[(.i 2), (.string (ByteArray.mk #[107])), (.i C36), (.i C38), (.bool false), (.bool false), Slc.nil.v])]) rfl) (lt_ rfl) h ?_ (fun c w' h H => e_panic (P := PP) (fn := Try.f16) H h)
   clear H h a
   rintro _ w40 a ⟨A41, A42, rfl, h⟩ H
   refine s_move H rfl rfl (lt_ rfl) fun a H => s_ext H rfl rfl rfl (lt_ rfl) fun a H => s_ext H rfl rfl rfl (lt_ rfl) fun a H => s_assign H rfl rfl (lt_ rfl) fun a H => s_assign H rfl rfl (lt_ rfl) fun a H => c_nil <| hK35 _ _ <| c_seq fun K43 hK43 => c_seq fun K44 hK44 => ?_
   obtain ⟨R46, h, h150⟩ := h
   have h125 : ∀ (a : Act) (s45 : Bool) (w47 : World), R46 s45 w47 → Has 86 [] a [(1, (.pointer N4)), (4, (.pointer (some (blk b18)))), (63, (.bool s45))] → K44 a w47 := by
    clear h
    intro a s45 w47 h H
    replace h := h150 s45 w47 h
    refine hK44 _ _ <| c_cond H rfl (fun h48 => ?_) (fun h48 => ?_)
    ·replace h := h.1 h48
     refine c_seq fun K49 hK49 => c_reg <| s_assign H rfl rfl (lt_ rfl) fun a H => c_nil <| hK49 _ _ <| c_ret ?_
     exact e_ret1 H rfl rfl h
    ·replace h := h.2 h48
     refine c_skip <| hK43 _ _ <| c_seq fun K50 hK50 => c_reg <| s_move H rfl rfl (lt_ rfl) fun a H => ?_
     obtain ⟨C51, hc52, C53, hc54, h⟩ := h
     refine s_loadN (l := [(.i C51), (.i C53)]) H rfl rfl agg_29 rfl ⟨hc52, hc54, trivial⟩ (lt_ rfl) fun a H => s_build H rfl (by rw [H.parts (vs := [(0, (.agg #[(.i C51), (.i C53)]))]) rfl]; exact bd_37_ii64ii640 w47 C51 C53) (lt_ rfl) fun a H => ?_
     refine s_build H rfl (by rw [H.parts (vs := [(0, (.i 2)), (1, (.string (ByteArray.mk #[107]))), (2, (.agg #[(.i C51), (.i C53), (.bool false), (.bool false), Slc.nil.v]))]) rfl]; exact bd_39_ii640_s1_ii64ii64bbs2 w47 2 (ByteArray.mk #[107]) C51 C53 false false Slc.nil) (lt_ rfl) fun a H => ?_
     refine s_call H rfl body_9 (H.args (vs := [(.pointer N4), (.agg #[(.i 2), (.string (ByteArray.mk #[107])), (.i C51), (.i C53), (.bool false), (.bool false), Slc.nil.v])]) rfl) (lt_ rfl) h ?_ (fun c w' h H => e_panic (P := PP) (fn := Try.f16) H h)
     clear H h a
     rintro _ w55 a ⟨A56, A57, rfl, h⟩ H
     refine c_nil <| hK50 _ _ <| c_seq fun K58 hK58 => ?_
     obtain ⟨R60, h, h120⟩ := h
     have h62 : ∀ (a : Act) (s59 : Bool) (w61 : World), R60 s59 w61 → Has 86 [] a [(0, (.bool s59))] → K58 a w61 := by
      clear h
      intro a s59 w61 h H
      replace h := h120 s59 w61 h
      refine hK58 _ _ <| c_ret ?_
      exact e_ret1 H rfl rfl h
     clear h120
     replace H := H.weaken (L' := [(1, (.pointer N4)), (4, (.pointer (some (blk b18))))]) ⟨rfl, rfl, trivial⟩
     refine c_anyT0 (V := [(0, (.pointer N4))]) 5 (⟨⟨[[], [0], [1], [1, 2], [3], [3, 4], [3], [3, 5, 6], [3, 7], [5, 8], [9], [9, 10], [9], [9, 12], [9, 13], [9, 11, 14], [9, 15], [0, 1, 2, 3, 4, 5, 6, 7, 8, 9, 10, 11, 12, 13, 14, 15, 16]], [some 69, some 70, some 71, some 72, some 73, some 74, some 75, some 76, some 77, some 78, some 79, some 80, some 81, some 82, some 83, some 84, some 85, some 0], [1, 5, 11, 14, 15], [], []⟩, [[], [], [1], [1], [1], [1], [1], [1, 5], [1, 5], [1, 5], [1, 5], [1, 5], [1, 5], [1, 5], [1, 5], [1, 5, 11, 14], [1, 5, 11, 14, 15], [1, 5, 11, 14, 15]], [[1, 5, 11, 14, 15], [5, 11, 14, 15], [5, 11, 14, 15], [5, 11, 14, 15], [5, 11, 14, 15], [11, 14, 15], [11, 14, 15], [11, 14, 15], [11, 14, 15], [11, 14, 15], [11, 15], [15], [14, 15], [14, 15], [15], [], [], []]⟩ : Rh) [(1, (.pointer N4)), (4, (.pointer (some (blk b18))))] mixed (by kernel_rfl) H ?_
     refine StT.more [0] [1] (by kernel_rfl) (by kernel_rfl) (by kernel_rfl) (.cons ?_ .nil) (.cons ?_ .nil)
     ·refine Ans.mk rfl rfl fun a H => s_move H rfl rfl (lt_ rfl) fun a H => ?_
      exact Ans.fin H rfl
     ·refine ⟨_, rfl, fun a H => ?_⟩
      replace H := H.weaken (L' := [(69, (.pointer N4))]) ⟨rfl, trivial⟩
      refine s_call H rfl body_38 (H.args (vs := [(.pointer N4), (.string (ByteArray.mk #[107]))]) rfl) (lt_ rfl) h ?_ (fun c w' h H => e_panic (P := PP) (fn := Try.f16) H h)
      clear H h a
      rintro _ w63 a ⟨F64, rfl, h⟩ H
      refine c_nil ?_
      rcases Bool.eq_false_or_eq_true (decide (F64 = 0)) with h65 | h65
      ·replace h := h.1 h65
       obtain ⟨C66, hc67, C68, hc69, h⟩ := h
       refine effQ.go [(2, (.bool (decide (F64 = 0)))), (3, (.bool (decide (F64 = 0)))), (4, (.pointer N4)), (6, (.agg #[(.i C66), (.i C68)]))] H rfl rfl <| StT.more [2, 3, 4, 6] [5] (by kernel_rfl) (by kernel_rfl) (by kernel_rfl) (.cons ?_ (.cons ?_ (.cons ?_ (.cons ?_ .nil)))) (.cons ?_ .nil)
       ·refine Ans.mk rfl rfl fun a H => s_bin H rfl rfl rfl r_eql (lt_ rfl) fun a H => ?_
        exact Ans.fin H rfl
       ·refine Ans.mk rfl rfl fun a H => s_move H rfl rfl (lt_ rfl) fun a H => ?_
        exact Ans.fin H rfl
       ·refine Ans.mk rfl rfl fun a H => ?_
        replace H := H.ch (t := 72) (b := true) rfl h65
        refine s_move H (wantG H rfl rfl) rfl (lt_ rfl) fun a H => ?_
        exact Ans.fin H rfl
       ·refine Ans.mk rfl rfl fun a H => ?_
        replace H := H.ch (t := 72) (b := true) rfl h65
        refine s_loadN (l := [(.i C66), (.i C68)]) H (wantG H rfl rfl) rfl agg_29 rfl ⟨hc67, hc69, trivial⟩ (lt_ rfl) fun a H => ?_
        exact Ans.fin H rfl
       ·refine ⟨_, rfl, fun a H => ?_⟩
        replace H := H.weaken (L' := [(72, (.bool (decide (F64 = 0)))), (73, (.pointer N4))]) ⟨rfl, rfl, trivial⟩
        replace H := H.ch (t := 72) (b := true) rfl h65
        refine s_call H (wantG H rfl rfl) body_14 (H.args (vs := [(.pointer N4), (.string (ByteArray.mk #[107]))]) rfl) (lt_ rfl) h ?_ (fun c w' h H => e_panic (P := PP) (fn := Try.f16) H h)
        clear H h a
        rintro _ w70 a ⟨C71, C72, rfl, h⟩ H
        refine c_nil ?_
        obtain ⟨hc73, hc74, h⟩ := h
        rcases Bool.eq_false_or_eq_true (decide (C71 = C66) && (decide (C72 = C68))) with h75 | h75
        ·replace h := h.1 h75
         obtain ⟨C76, hc77, C78, hc79, h⟩ := h
         refine effQ.go [(7, (.bool (decide (C71 = C66) && (decide (C72 = C68))))), (8, (.bool (decide (C71 = C66) && (decide (C72 = C68))))), (9, (.bool (decide (C71 = C66) && (decide (C72 = C68))))), (10, (.pointer N4)), (12, (.agg #[(.i C76), (.i C78)])), (13, (.agg #[(.i C76), (.i C78), (.bool true), (.bool false), Slc.nil.v]))] H rfl rfl ?_
         refine StT.more [6, 7, 8, 9, 10, 12, 13] [11, 14] (by kernel_rfl) (by kernel_rfl) (by kernel_rfl) (.cons ?_ (.cons ?_ (.cons ?_ (.cons ?_ (.cons ?_ (.cons ?_ (.cons ?_ .nil))))))) (.cons ?_ (.cons ?_ .nil))
         ·refine Ans.mk rfl rfl fun a H => ?_
          replace H := H.ch (t := 72) (b := true) rfl h65
          refine s_loadN (l := [(.i C66), (.i C68)]) H (wantG H rfl rfl) rfl agg_29 rfl ⟨hc73, hc74, trivial⟩ (lt_ rfl) fun a H => ?_
          exact Ans.fin H rfl
         ·refine Ans.mk rfl rfl fun a H => ?_
          replace H := H.ch (t := 72) (b := true) rfl h65
          refine s_bin H (wantG H rfl rfl) rfl rfl (r_eqst eqg_29 (eqst_29 0) rfl) (lt_ rfl) fun a H => ?_
          exact Ans.fin H rfl
         ·refine Ans.mk rfl rfl fun a H => ?_
          replace H := H.ch (t := 72) (b := true) rfl h65
          refine s_pickT H rfl rfl rfl (lt_ rfl) fun a H => ?_
          exact Ans.fin H rfl
         ·refine Ans.mk rfl rfl fun a H => s_move H rfl rfl (lt_ rfl) fun a H => ?_
          exact Ans.fin H rfl
         ·refine Ans.mk rfl rfl fun a H => ?_
          replace H := H.ch (t := 78) (b := true) rfl h75
          refine s_move H (wantG H rfl rfl) rfl (lt_ rfl) fun a H => ?_
          exact Ans.fin H rfl
         ·refine Ans.mk rfl rfl fun a H => ?_
          replace H := H.ch (t := 78) (b := true) rfl h75
          refine s_loadN (l := [(.i C76), (.i C78)]) H (wantG H rfl rfl) rfl agg_29 rfl ⟨hc77, hc79, trivial⟩ (lt_ rfl) fun a H => ?_
          exact Ans.fin H rfl
         ·refine Ans.mk rfl rfl fun a H => ?_
          replace H := H.ch (t := 78) (b := true) rfl h75
          refine s_build H (wantG H rfl rfl) (by rw [H.parts (vs := [(0, (.agg #[(.i C76), (.i C78)])), (1, (.bool true))]) rfl]; exact bd_37_ii64ii640_b1 w70 C76 C78 true) (lt_ rfl) fun a H => ?_
          exact Ans.fin H rfl
         ·refine ⟨_, rfl, fun a H => ?_⟩
          replace h := h.1
          replace H := H.weaken (L' := [(78, (.bool (decide (C71 = C66) && (decide (C72 = C68))))), (79, (.pointer N4))]) ⟨rfl, rfl, trivial⟩
          replace H := H.ch (t := 78) (b := true) rfl h75
          refine s_call H (wantG H rfl rfl) body_12 (H.args (vs := [(.pointer N4), (.string (ByteArray.mk #[107]))]) rfl) (lt_ rfl) h ?_ (fun c w' h H => e_panic (P := PP) (fn := Try.f16) H h)
          clear H h a
          rintro _ w80 a ⟨E81, rfl, h⟩ H
          refine c_nil ?_
          obtain ⟨hc82, hc83, h⟩ := h
          refine effQ.go [] H rfl rfl <| StT.more [12, 13] [14] (by kernel_rfl) (by kernel_rfl) (by kernel_rfl) (.cons ?_ (.cons ?_ .nil)) (.cons ?_ .nil)
          ·refine Ans.mk rfl rfl fun a H => ?_
           replace H := H.ch (t := 78) (b := true) rfl h75
           refine s_loadN (l := [(.i C76), (.i C78)]) H (wantG H rfl rfl) rfl agg_29 rfl ⟨hc82, hc83, trivial⟩ (lt_ rfl) fun a H => ?_
           exact Ans.fin H rfl
          ·refine Ans.mk rfl rfl fun a H => ?_
           replace H := H.ch (t := 78) (b := true) rfl h75
           refine s_build H (wantG H rfl rfl) (by rw [H.parts (vs := [(0, (.agg #[(.i C76), (.i C78)])), (1, (.bool true))]) rfl]; exact bd_37_ii64ii640_b1 w80 C76 C78 true) (lt_ rfl) fun a H => ?_
           exact Ans.fin H rfl
          ·refine ⟨_, rfl, fun a H => ?_⟩
           replace H := H.weaken (L' := [(78, (.bool (decide (C71 = C66) && (decide (C72 = C68))))), (82, (.agg #[(.i C76), (.i C78), (.bool true), (.bool false), Slc.nil.v]))]) ⟨rfl, rfl, trivial⟩
           replace H := H.ch (t := 78) (b := true) rfl h75
           replace h := h.get
           obtain ⟨b84, w85, n86, h⟩ := h
           refine s_bslc H (wantG H rfl rfl) (by rw [H.parts (vs := [(0, (.agg #[(.i C76), (.i C78), (.bool true), (.bool false), Slc.nil.v]))]) rfl]; exact bs_42_1_ii64ii64bbs0 w80 C76 C78 true false Slc.nil) (lt_ rfl) ?_
           rw [← n86.at_]
           clear H a
           intro a H
           refine n86.go <| c_nil <| effQ.go [] H rfl rfl <| StT.more [] [15] (by kernel_rfl) (by kernel_rfl) (by kernel_rfl) .nil (.cons ?_ .nil)
           ·refine ⟨_, rfl, fun a H => ?_⟩
            replace H := H.weaken (L' := [(78, (.bool (decide (C71 = C66) && (decide (C72 = C68))))), (80, E81.v), (83, (Slc.v (Slc.mk (some (blk b84)) 1 1)))]) ⟨rfl, rfl, rfl, trivial⟩
            replace H := H.ch (t := 78) (b := true) rfl h75
            refine s_call H (wantG H rfl rfl) body_19 (H.args (vs := [E81.v, (Slc.v (Slc.mk (some (blk b84)) 1 1))]) rfl) (lt_ rfl) h ?_ (fun c w' h H => e_panic (P := PP) (fn := Try.f16) H h)
            clear H h a
            rintro _ w87 a ⟨s88, rfl, h⟩ H
            refine c_nil <| effQ.go [(16, (.bool s88)), (17, (.bool s88))] H rfl rfl <| StT.last [16, 17] (by kernel_rfl) (by kernel_rfl) (.cons ?_ (.cons ?_ .nil)) ?_
            ·refine Ans.mk rfl rfl fun a H => ?_
             replace H := H.ch (t := 78) (b := true) rfl h75
             refine s_pickT H rfl rfl rfl (lt_ rfl) fun a H => ?_
             exact Ans.fin H rfl
            ·refine Ans.mk rfl rfl fun a H => s_assign H rfl rfl (lt_ rfl) fun a H => ?_
             exact Ans.fin H rfl
            ·intro a H
             replace H := H.weaken (L' := [(0, (.bool s88))]) ⟨rfl, trivial⟩
             exact h62 _ _ _ h (H.weaken ⟨rfl, trivial⟩)
         ·refine ⟨_, rfl, fun a H => ?_⟩
          replace h := h.2
          replace H := H.weaken (L' := [(78, (.bool (decide (C71 = C66) && (decide (C72 = C68))))), (82, (.agg #[(.i C76), (.i C78), (.bool true), (.bool false), Slc.nil.v]))]) ⟨rfl, rfl, trivial⟩
          replace H := H.ch (t := 78) (b := true) rfl h75
          replace h := h.get
          obtain ⟨b97, w98, n99, h⟩ := h
          refine s_bslc H (wantG H rfl rfl) (by rw [H.parts (vs := [(0, (.agg #[(.i C76), (.i C78), (.bool true), (.bool false), Slc.nil.v]))]) rfl]; exact bs_42_1_ii64ii64bbs0 w70 C76 C78 true false Slc.nil) (lt_ rfl) ?_
          rw [← n99.at_]
          clear H a
          intro a H
          refine n99.go <| c_nil <| effQ.go [] H rfl rfl <| StT.more [10] [11] (by kernel_rfl) (by kernel_rfl) (by kernel_rfl) (.cons ?_ .nil) (.cons ?_ .nil)
          ·refine Ans.mk rfl rfl fun a H => ?_
           replace H := H.ch (t := 78) (b := true) rfl h75
           refine s_move H (wantG H rfl rfl) rfl (lt_ rfl) fun a H => ?_
           exact Ans.fin H rfl
          ·refine ⟨_, rfl, fun a H => ?_⟩
           replace H := H.weaken (L' := [(78, (.bool (decide (C71 = C66) && (decide (C72 = C68))))), (79, (.pointer N4))]) ⟨rfl, rfl, trivial⟩
           replace H := H.ch (t := 78) (b := true) rfl h75
           refine s_call H (wantG H rfl rfl) body_12 (H.args (vs := [(.pointer N4), (.string (ByteArray.mk #[107]))]) rfl) (lt_ rfl) h ?_ (fun c w' h H => e_panic (P := PP) (fn := Try.f16) H h)
           clear H h a
           rintro _ w100 a ⟨E101, rfl, h⟩ H
           refine c_nil <| effQ.go [] H rfl rfl <| StT.more [] [15] (by kernel_rfl) (by kernel_rfl) (by kernel_rfl) .nil (.cons ?_ .nil)
           ·refine ⟨_, rfl, fun a H => ?_⟩
            replace H := H.weaken (L' := [(78, (.bool (decide (C71 = C66) && (decide (C72 = C68))))), (80, E101.v), (83, (Slc.v (Slc.mk (some (blk b97)) 1 1)))]) ⟨rfl, rfl, rfl, trivial⟩
            replace H := H.ch (t := 78) (b := true) rfl h75
            refine s_call H (wantG H rfl rfl) body_19 (H.args (vs := [E101.v, (Slc.v (Slc.mk (some (blk b97)) 1 1))]) rfl) (lt_ rfl) h ?_ (fun c w' h H => e_panic (P := PP) (fn := Try.f16) H h)
            clear H h a
            rintro _ w102 a ⟨s103, rfl, h⟩ H
            refine c_nil <| effQ.go [(16, (.bool s103)), (17, (.bool s103))] H rfl rfl <| StT.last [16, 17] (by kernel_rfl) (by kernel_rfl) (.cons ?_ (.cons ?_ .nil)) ?_
            ·refine Ans.mk rfl rfl fun a H => ?_
             replace H := H.ch (t := 78) (b := true) rfl h75
             refine s_pickT H rfl rfl rfl (lt_ rfl) fun a H => ?_
             exact Ans.fin H rfl
            ·refine Ans.mk rfl rfl fun a H => s_assign H rfl rfl (lt_ rfl) fun a H => ?_
             exact Ans.fin H rfl
            ·intro a H
             replace H := H.weaken (L' := [(0, (.bool s103))]) ⟨rfl, trivial⟩
             exact h62 _ _ _ h (H.weaken ⟨rfl, trivial⟩)
        ·replace h := h.2 h75
         refine effQ.go [(7, (.bool (decide (C71 = C66) && (decide (C72 = C68))))), (8, (.bool (decide (C71 = C66) && (decide (C72 = C68))))), (9, (.bool (decide (C71 = C66) && (decide (C72 = C68))))), (10, undef), (12, undef), (13, undef)] H rfl rfl <| StT.more [6, 7, 8, 9, 10, 12, 13] [11, 14] (by kernel_rfl) (by kernel_rfl) (by kernel_rfl) (.cons ?_ (.cons ?_ (.cons ?_ (.cons ?_ (.cons ?_ (.cons ?_ (.cons ?_ .nil))))))) (.cons ?_ (.cons ?_ .nil))
         ·refine Ans.mk rfl rfl fun a H => ?_
          replace H := H.ch (t := 72) (b := true) rfl h65
          refine s_loadN (l := [(.i C66), (.i C68)]) H (wantG H rfl rfl) rfl agg_29 rfl ⟨hc73, hc74, trivial⟩ (lt_ rfl) fun a H => ?_
          exact Ans.fin H rfl
         ·refine Ans.mk rfl rfl fun a H => ?_
          replace H := H.ch (t := 72) (b := true) rfl h65
          refine s_bin H (wantG H rfl rfl) rfl rfl (r_eqst eqg_29 (eqst_29 0) rfl) (lt_ rfl) fun a H => ?_
          exact Ans.fin H rfl
         ·refine Ans.mk rfl rfl fun a H => ?_
          replace H := H.ch (t := 72) (b := true) rfl h65
          refine s_pickT H rfl rfl rfl (lt_ rfl) fun a H => ?_
          exact Ans.fin H rfl
         ·refine Ans.mk rfl rfl fun a H => s_move H rfl rfl (lt_ rfl) fun a H => ?_
          exact Ans.fin H rfl
         ·exact .skip rfl rfl rfl rfl rfl rfl h75 rfl
         ·exact .skip rfl rfl rfl rfl rfl rfl h75 rfl
         ·exact .skip rfl rfl rfl rfl rfl rfl h75 rfl
         ·refine ⟨_, rfl, fun a H => ?_⟩
          replace h := h.1
          replace H := H.weaken (L' := [(78, (.bool (decide (C71 = C66) && (decide (C72 = C68))))), (79, undef)]) ⟨rfl, rfl, trivial⟩
          replace H := H.ch (t := 78) (b := false) rfl h75
          refine s_skip H (wantN H rfl rfl rfl) rfl (lt_ rfl) fun a H => c_nil <| effQ.go [] H rfl rfl <| StT.more [12, 13] [14] (by kernel_rfl) (by kernel_rfl) (by kernel_rfl) (.cons ?_ (.cons ?_ .nil)) (.cons ?_ .nil)
          ·exact .skip rfl rfl rfl rfl rfl rfl h75 rfl
          ·exact .skip rfl rfl rfl rfl rfl rfl h75 rfl
          ·refine ⟨_, rfl, fun a H => ?_⟩
           replace H := H.weaken (L' := [(78, (.bool (decide (C71 = C66) && (decide (C72 = C68))))), (82, undef)]) ⟨rfl, rfl, trivial⟩
           replace H := H.ch (t := 78) (b := false) rfl h75
           refine s_skip H (wantN H rfl rfl rfl) rfl (lt_ rfl) fun a H => c_nil <| effQ.go [] H rfl rfl <| StT.more [] [15] (by kernel_rfl) (by kernel_rfl) (by kernel_rfl) .nil (.cons ?_ .nil)
           ·refine ⟨_, rfl, fun a H => ?_⟩
            replace H := H.weaken (L' := [(78, (.bool (decide (C71 = C66) && (decide (C72 = C68))))), (80, undef), (83, undef)]) ⟨rfl, rfl, rfl, trivial⟩
            replace H := H.ch (t := 78) (b := false) rfl h75
            refine s_skip H (wantN H rfl rfl rfl) rfl (lt_ rfl) fun a H => c_nil <| effQ.go [(16, (.bool false)), (17, (.bool false))] H rfl rfl <| StT.last [16, 17] (by kernel_rfl) (by kernel_rfl) (.cons ?_ (.cons ?_ .nil)) ?_
            ·refine Ans.mk rfl rfl fun a H => ?_
             replace H := H.ch (t := 78) (b := false) rfl h75
             refine s_pickF H rfl rfl rfl (lt_ rfl) fun a H => ?_
             exact Ans.fin H rfl
            ·refine Ans.mk rfl rfl fun a H => s_assign H rfl rfl (lt_ rfl) fun a H => ?_
             exact Ans.fin H rfl
            ·intro a H
             replace H := H.weaken (L' := [(0, (.bool false))]) ⟨rfl, trivial⟩
             exact h62 _ _ _ h (H.weaken ⟨rfl, trivial⟩)
         ·refine ⟨_, rfl, fun a H => ?_⟩
          replace h := h.2
          replace H := H.weaken (L' := [(78, (.bool (decide (C71 = C66) && (decide (C72 = C68))))), (82, undef)]) ⟨rfl, rfl, trivial⟩
          replace H := H.ch (t := 78) (b := false) rfl h75
          refine s_skip H (wantN H rfl rfl rfl) rfl (lt_ rfl) fun a H => c_nil <| effQ.go [] H rfl rfl <| StT.more [10] [11] (by kernel_rfl) (by kernel_rfl) (by kernel_rfl) (.cons ?_ .nil) (.cons ?_ .nil)
          ·exact .skip rfl rfl rfl rfl rfl rfl h75 rfl
          ·refine ⟨_, rfl, fun a H => ?_⟩
           replace H := H.weaken (L' := [(78, (.bool (decide (C71 = C66) && (decide (C72 = C68))))), (79, undef)]) ⟨rfl, rfl, trivial⟩
           replace H := H.ch (t := 78) (b := false) rfl h75
           refine s_skip H (wantN H rfl rfl rfl) rfl (lt_ rfl) fun a H => c_nil <| effQ.go [] H rfl rfl <| StT.more [] [15] (by kernel_rfl) (by kernel_rfl) (by kernel_rfl) .nil (.cons ?_ .nil)
           ·refine ⟨_, rfl, fun a H => ?_⟩
            replace H := H.weaken (L' := [(78, (.bool (decide (C71 = C66) && (decide (C72 = C68))))), (80, undef), (83, undef)]) ⟨rfl, rfl, rfl, trivial⟩
            replace H := H.ch (t := 78) (b := false) rfl h75
            refine s_skip H (wantN H rfl rfl rfl) rfl (lt_ rfl) fun a H => c_nil <| effQ.go [(16, (.bool false)), (17, (.bool false))] H rfl rfl <| StT.last [16, 17] (by kernel_rfl) (by kernel_rfl) (.cons ?_ (.cons ?_ .nil)) ?_
            ·refine Ans.mk rfl rfl fun a H => ?_
             replace H := H.ch (t := 78) (b := false) rfl h75
             refine s_pickF H rfl rfl rfl (lt_ rfl) fun a H => ?_
             exact Ans.fin H rfl
            ·refine Ans.mk rfl rfl fun a H => s_assign H rfl rfl (lt_ rfl) fun a H => ?_
             exact Ans.fin H rfl
            ·intro a H
             replace H := H.weaken (L' := [(0, (.bool false))]) ⟨rfl, trivial⟩
             exact h62 _ _ _ h (H.weaken ⟨rfl, trivial⟩)
      ·replace h := h.2 h65
       refine effQ.go [(2, (.bool (decide (F64 = 0)))), (3, (.bool (decide (F64 = 0)))), (4, undef), (6, undef)] H rfl rfl <| StT.more [2, 3, 4, 6] [5] (by kernel_rfl) (by kernel_rfl) (by kernel_rfl) (.cons ?_ (.cons ?_ (.cons ?_ (.cons ?_ .nil)))) (.cons ?_ .nil)
       ·refine Ans.mk rfl rfl fun a H => s_bin H rfl rfl rfl r_eql (lt_ rfl) fun a H => ?_
        exact Ans.fin H rfl
       ·refine Ans.mk rfl rfl fun a H => s_move H rfl rfl (lt_ rfl) fun a H => ?_
        exact Ans.fin H rfl
       ·exact .skip rfl rfl rfl rfl rfl rfl h65 rfl
       ·exact .skip rfl rfl rfl rfl rfl rfl h65 rfl
       ·refine ⟨_, rfl, fun a H => ?_⟩
        replace H := H.weaken (L' := [(72, (.bool (decide (F64 = 0)))), (73, undef)]) ⟨rfl, rfl, trivial⟩
        replace H := H.ch (t := 72) (b := false) rfl h65
        refine s_skip H (wantN H rfl rfl rfl) rfl (lt_ rfl) fun a H => c_nil <| effQ.go [(7, undef), (8, (.bool false)), (9, (.bool false)), (10, undef), (12, undef), (13, undef)] H rfl rfl <| StT.more [6, 7, 8, 9, 10, 12, 13] [11, 14] (by kernel_rfl) (by kernel_rfl) (by kernel_rfl) (.cons ?_ (.cons ?_ (.cons ?_ (.cons ?_ (.cons ?_ (.cons ?_ (.cons ?_ .nil))))))) (.cons ?_ (.cons ?_ .nil))
        ·exact .skip rfl rfl rfl rfl rfl rfl h65 rfl
        ·exact .skip rfl rfl rfl rfl rfl rfl h65 rfl
        ·refine Ans.mk rfl rfl fun a H => ?_
         replace H := H.ch (t := 72) (b := false) rfl h65
         refine s_pickF H rfl rfl rfl (lt_ rfl) fun a H => ?_
         exact Ans.fin H rfl
        ·refine Ans.mk rfl rfl fun a H => s_move H rfl rfl (lt_ rfl) fun a H => ?_
         exact Ans.fin H rfl
        ·exact .skip rfl rfl rfl rfl rfl rfl rfl rfl
        ·exact .skip rfl rfl rfl rfl rfl rfl rfl rfl
        ·exact .skip rfl rfl rfl rfl rfl rfl rfl rfl
        ·refine ⟨_, rfl, fun a H => ?_⟩
         replace h := h.1
         replace H := H.weaken (L' := [(78, (.bool false)), (79, undef)]) ⟨rfl, rfl, trivial⟩
         refine s_skip H (wantN H rfl rfl rfl) rfl (lt_ rfl) fun a H => c_nil <| effQ.go [] H rfl rfl <| StT.more [12, 13] [14] (by kernel_rfl) (by kernel_rfl) (by kernel_rfl) (.cons ?_ (.cons ?_ .nil)) (.cons ?_ .nil)
         ·exact .skip rfl rfl rfl rfl rfl rfl rfl rfl
         ·exact .skip rfl rfl rfl rfl rfl rfl rfl rfl
         ·refine ⟨_, rfl, fun a H => ?_⟩
          replace H := H.weaken (L' := [(78, (.bool false)), (82, undef)]) ⟨rfl, rfl, trivial⟩
          refine s_skip H (wantN H rfl rfl rfl) rfl (lt_ rfl) fun a H => c_nil <| effQ.go [] H rfl rfl <| StT.more [] [15] (by kernel_rfl) (by kernel_rfl) (by kernel_rfl) .nil (.cons ?_ .nil)
          ·refine ⟨_, rfl, fun a H => ?_⟩
           replace H := H.weaken (L' := [(78, (.bool false)), (80, undef), (83, undef)]) ⟨rfl, rfl, rfl, trivial⟩
           refine s_skip H (wantN H rfl rfl rfl) rfl (lt_ rfl) fun a H => c_nil <| effQ.go [(16, (.bool false)), (17, (.bool false))] H rfl rfl <| StT.last [16, 17] (by kernel_rfl) (by kernel_rfl) (.cons ?_ (.cons ?_ .nil)) ?_
           ·refine Ans.mk rfl rfl fun a H => s_pickF H rfl rfl rfl (lt_ rfl) fun a H => ?_
            exact Ans.fin H rfl
           ·refine Ans.mk rfl rfl fun a H => s_assign H rfl rfl (lt_ rfl) fun a H => ?_
            exact Ans.fin H rfl
           ·intro a H
            replace H := H.weaken (L' := [(0, (.bool false))]) ⟨rfl, trivial⟩
            exact h62 _ _ _ h (H.weaken ⟨rfl, trivial⟩)
        ·refine ⟨_, rfl, fun a H => ?_⟩
         replace h := h.2
         replace H := H.weaken (L' := [(78, (.bool false)), (82, undef)]) ⟨rfl, rfl, trivial⟩
         refine s_skip H (wantN H rfl rfl rfl) rfl (lt_ rfl) fun a H => c_nil <| effQ.go [] H rfl rfl <| StT.more [10] [11] (by kernel_rfl) (by kernel_rfl) (by kernel_rfl) (.cons ?_ .nil) (.cons ?_ .nil)
         ·exact .skip rfl rfl rfl rfl rfl rfl rfl rfl
         ·refine ⟨_, rfl, fun a H => ?_⟩
          replace H := H.weaken (L' := [(78, (.bool false)), (79, undef)]) ⟨rfl, rfl, trivial⟩
          refine s_skip H (wantN H rfl rfl rfl) rfl (lt_ rfl) fun a H => c_nil <| effQ.go [] H rfl rfl <| StT.more [] [15] (by kernel_rfl) (by kernel_rfl) (by kernel_rfl) .nil (.cons ?_ .nil)
          ·refine ⟨_, rfl, fun a H => ?_⟩
           replace H := H.weaken (L' := [(78, (.bool false)), (80, undef), (83, undef)]) ⟨rfl, rfl, rfl, trivial⟩
           refine s_skip H (wantN H rfl rfl rfl) rfl (lt_ rfl) fun a H => c_nil <| effQ.go [(16, (.bool false)), (17, (.bool false))] H rfl rfl <| StT.last [16, 17] (by kernel_rfl) (by kernel_rfl) (.cons ?_ (.cons ?_ .nil)) ?_
           ·refine Ans.mk rfl rfl fun a H => s_pickF H rfl rfl rfl (lt_ rfl) fun a H => ?_
            exact Ans.fin H rfl
           ·refine Ans.mk rfl rfl fun a H => s_assign H rfl rfl (lt_ rfl) fun a H => ?_
            exact Ans.fin H rfl
           ·intro a H
            replace H := H.weaken (L' := [(0, (.bool false))]) ⟨rfl, trivial⟩
            exact h62 _ _ _ h (H.weaken ⟨rfl, trivial⟩)
   clear h150
   replace H := H.weaken (L' := [(1, (.pointer N4)), (3, (.pointer (some (blk b13)))), (4, (.pointer (some (blk b18)))), (5, (.bool A33)), (6, (.i A34)), (7, (.bool A41)), (8, (.i A42))]) ⟨rfl, rfl, rfl, rfl, rfl, rfl, rfl, trivial⟩
   rcases Bool.eq_false_or_eq_true (!A33) with h126 | h126
   ·replace h := h.1 h126
    refine c_any (V := [(0, (.bool A33)), (1, (.bool (!A33))), (2, (.bool (!A33))), (3, undef), (4, undef), (5, (.bool true)), (6, (.bool true)), (7, undef), (8, undef), (9, (.bool true)), (10, (.bool true)), (11, undef), (12, undef), (13, (.bool true)), (14, (.bool true)), (15, undef)]) (⟨[[], [0], [1], [2], [2, 3], [2, 4], [2, 5], [6], [6, 7], [6, 8], [6, 9], [10], [10, 11], [10, 12], [10, 13], [14], [14, 15], [14, 16], [14, 17], [16, 18], [19], [19, 20], [19], [19, 21, 22], [19, 23]], [some 39, some 40, some 41, some 42, some 43, some 44, some 45, some 46, some 47, some 48, some 49, some 50, some 51, some 52, some 53, some 54, some 55, some 56, some 57, some 58, some 59, some 60, some 61, some 62, some 63], [16, 21], [0, 0, 0, 0, 0, 0, 0, 0, 0, 0, 0, 0, 0, 0, 0, 0, 0, 1, 1, 1, 1, 1, 1, 2, 2], [0, 0, 0, 0, 0, 0, 0, 0, 0, 0, 0, 0, 0, 0, 0, 0, 1, 1, 1, 1, 1, 2, 2, 2, 2]⟩ : Rg) [(1, (.pointer N4)), (3, (.pointer (some (blk b13)))), (4, (.pointer (some (blk b18)))), (5, (.bool A33)), (6, (.i A34)), (7, (.bool A41)), (8, (.i A42))] mixed (by kernel_rfl) H ?_
    refine Stg.eff [0, 1, 2, 3, 4, 5, 6, 7, 8, 9, 10, 11, 12, 13, 14, 15] (by kernel_rfl) rfl (.cons ?_ (.cons ?_ (.cons ?_ (.cons ?_ (.cons ?_ (.cons ?_ (.cons ?_ (.cons ?_ (.cons ?_ (.cons ?_ (.cons ?_ (.cons ?_ (.cons ?_ (.cons ?_ (.cons ?_ (.cons ?_ .nil)))))))))))))))) ?_
    ·refine Ans.mk rfl rfl fun a H => s_move H rfl rfl (lt_ rfl) fun a H => ?_
     exact Ans.fin H rfl
    ·refine Ans.mk rfl rfl fun a H => s_un H rfl rfl r_not (lt_ rfl) fun a H => ?_
     exact Ans.fin H rfl
    ·refine Ans.mk rfl rfl fun a H => s_move H rfl rfl (lt_ rfl) fun a H => ?_
     exact Ans.fin H rfl
    ·exact .skip rfl rfl rfl rfl rfl rfl h126 rfl
    ·exact .skip rfl rfl rfl rfl rfl rfl h126 rfl
    ·refine Ans.mk rfl rfl fun a H => ?_
     replace H := H.ch (t := 41) (b := true) rfl h126
     refine s_pickT H rfl rfl rfl (lt_ rfl) fun a H => ?_
     exact Ans.fin H rfl
    ·refine Ans.mk rfl rfl fun a H => s_move H rfl rfl (lt_ rfl) fun a H => ?_
     exact Ans.fin H rfl
    ·exact .skip rfl rfl rfl rfl rfl rfl rfl rfl
    ·exact .skip rfl rfl rfl rfl rfl rfl rfl rfl
    ·refine Ans.mk rfl rfl fun a H => s_pickT H rfl rfl rfl (lt_ rfl) fun a H => ?_
     exact Ans.fin H rfl
    ·refine Ans.mk rfl rfl fun a H => s_move H rfl rfl (lt_ rfl) fun a H => ?_
     exact Ans.fin H rfl
    ·exact .skip rfl rfl rfl rfl rfl rfl rfl rfl
    ·exact .skip rfl rfl rfl rfl rfl rfl rfl rfl
    ·refine Ans.mk rfl rfl fun a H => s_pickT H rfl rfl rfl (lt_ rfl) fun a H => ?_
     exact Ans.fin H rfl
    ·refine Ans.mk rfl rfl fun a H => s_move H rfl rfl (lt_ rfl) fun a H => ?_
     exact Ans.fin H rfl
    ·exact .skip rfl rfl rfl rfl rfl rfl rfl rfl
    ·intro a H
     replace H := H.weaken (L' := [(53, (.bool true)), (54, undef)]) ⟨rfl, rfl, trivial⟩
     refine s_skip H (wantN H rfl rfl rfl) rfl (lt_ rfl) fun a H => c_nil <| effQ.go [(17, undef), (18, (.bool true)), (19, (.bool true)), (20, undef), (22, undef)] H rfl rfl <| Stg.eff [17, 18, 19, 20, 22] (by kernel_rfl) rfl (.cons ?_ (.cons ?_ (.cons ?_ (.cons ?_ (.cons ?_ .nil))))) ?_
     ·exact .skip rfl rfl rfl rfl rfl rfl rfl rfl
     ·refine Ans.mk rfl rfl fun a H => s_pickT H rfl rfl rfl (lt_ rfl) fun a H => ?_
      exact Ans.fin H rfl
     ·refine Ans.mk rfl rfl fun a H => s_move H rfl rfl (lt_ rfl) fun a H => ?_
      exact Ans.fin H rfl
     ·exact .skip rfl rfl rfl rfl rfl rfl rfl rfl
     ·exact .skip rfl rfl rfl rfl rfl rfl rfl rfl
     ·intro a H
      replace H := H.weaken (L' := [(58, (.bool true)), (59, undef)]) ⟨rfl, rfl, trivial⟩
      refine s_skip H (wantN H rfl rfl rfl) rfl (lt_ rfl) fun a H => c_nil <| effQ.go [(23, undef), (24, (.bool true))] H rfl rfl <| Stg.fin [22, 23, 24] (by kernel_rfl) (.cons ?_ (.cons ?_ (.cons ?_ .nil))) ?_
      ·exact .skip rfl rfl rfl rfl rfl rfl rfl rfl
      ·exact .skip rfl rfl rfl rfl rfl rfl rfl rfl
      ·refine Ans.mk rfl rfl fun a H => s_pickT H rfl rfl rfl (lt_ rfl) fun a H => ?_
       exact Ans.fin H rfl
      ·intro a H
       replace H := H.weaken (L' := [(1, (.pointer N4)), (4, (.pointer (some (blk b18)))), (63, (.bool true))]) ⟨rfl, rfl, rfl, trivial⟩
       exact h125 _ _ _ h (H.weaken ⟨rfl, rfl, rfl, trivial⟩)
   ·replace h := h.2 h126
    rcases Bool.eq_false_or_eq_true (!A41) with h127 | h127
    ·replace h := h.1 h127
     refine c_any (V := [(0, (.bool A33)), (1, (.bool (!A33))), (2, (.bool (!A33))), (3, (.bool A41)), (4, (.bool (!A41))), (5, (.bool (!A41))), (6, (.bool (!A41))), (7, undef), (8, undef), (9, (.bool true)), (10, (.bool true)), (11, undef), (12, undef), (13, (.bool true)), (14, (.bool true)), (15, undef)]) (⟨[[], [0], [1], [2], [2, 3], [2, 4], [2, 5], [6], [6, 7], [6, 8], [6, 9], [10], [10, 11], [10, 12], [10, 13], [14], [14, 15], [14, 16], [14, 17], [16, 18], [19], [19, 20], [19], [19, 21, 22], [19, 23]], [some 39, some 40, some 41, some 42, some 43, some 44, some 45, some 46, some 47, some 48, some 49, some 50, some 51, some 52, some 53, some 54, some 55, some 56, some 57, some 58, some 59, some 60, some 61, some 62, some 63], [16, 21], [0, 0, 0, 0, 0, 0, 0, 0, 0, 0, 0, 0, 0, 0, 0, 0, 0, 1, 1, 1, 1, 1, 1, 2, 2], [0, 0, 0, 0, 0, 0, 0, 0, 0, 0, 0, 0, 0, 0, 0, 0, 1, 1, 1, 1, 1, 2, 2, 2, 2]⟩ : Rg) [(1, (.pointer N4)), (3, (.pointer (some (blk b13)))), (4, (.pointer (some (blk b18)))), (5, (.bool A33)), (6, (.i A34)), (7, (.bool A41)), (8, (.i A42))] mixed (by kernel_rfl) H ?_
     refine Stg.eff [0, 1, 2, 3, 4, 5, 6, 7, 8, 9, 10, 11, 12, 13, 14, 15] (by kernel_rfl) rfl (.cons ?_ (.cons ?_ (.cons ?_ (.cons ?_ (.cons ?_ (.cons ?_ (.cons ?_ (.cons ?_ (.cons ?_ (.cons ?_ (.cons ?_ (.cons ?_ (.cons ?_ (.cons ?_ (.cons ?_ (.cons ?_ .nil)))))))))))))))) ?_
     ·refine Ans.mk rfl rfl fun a H => s_move H rfl rfl (lt_ rfl) fun a H => ?_
      exact Ans.fin H rfl
     ·refine Ans.mk rfl rfl fun a H => s_un H rfl rfl r_not (lt_ rfl) fun a H => ?_
      exact Ans.fin H rfl
     ·refine Ans.mk rfl rfl fun a H => s_move H rfl rfl (lt_ rfl) fun a H => ?_
      exact Ans.fin H rfl
     ·refine Ans.mk rfl rfl fun a H => ?_
      replace H := H.ch (t := 41) (b := false) rfl h126
      refine s_move H (wantG H rfl rfl) rfl (lt_ rfl) fun a H => ?_
      exact Ans.fin H rfl
     ·refine Ans.mk rfl rfl fun a H => ?_
      replace H := H.ch (t := 41) (b := false) rfl h126
      refine s_un H (wantG H rfl rfl) rfl r_not (lt_ rfl) fun a H => ?_
      exact Ans.fin H rfl
     ·refine Ans.mk rfl rfl fun a H => ?_
      replace H := H.ch (t := 41) (b := false) rfl h126
      refine s_pickF H rfl rfl rfl (lt_ rfl) fun a H => ?_
      exact Ans.fin H rfl
     ·refine Ans.mk rfl rfl fun a H => s_move H rfl rfl (lt_ rfl) fun a H => ?_
      exact Ans.fin H rfl
     ·exact .skip rfl rfl rfl rfl rfl rfl h127 rfl
     ·exact .skip rfl rfl rfl rfl rfl rfl h127 rfl
     ·refine Ans.mk rfl rfl fun a H => ?_
      replace H := H.ch (t := 45) (b := true) rfl h127
      refine s_pickT H rfl rfl rfl (lt_ rfl) fun a H => ?_
      exact Ans.fin H rfl
     ·refine Ans.mk rfl rfl fun a H => s_move H rfl rfl (lt_ rfl) fun a H => ?_
      exact Ans.fin H rfl
     ·exact .skip rfl rfl rfl rfl rfl rfl rfl rfl
     ·exact .skip rfl rfl rfl rfl rfl rfl rfl rfl
     ·refine Ans.mk rfl rfl fun a H => s_pickT H rfl rfl rfl (lt_ rfl) fun a H => ?_
      exact Ans.fin H rfl
     ·refine Ans.mk rfl rfl fun a H => s_move H rfl rfl (lt_ rfl) fun a H => ?_
      exact Ans.fin H rfl
     ·exact .skip rfl rfl rfl rfl rfl rfl rfl rfl
     ·intro a H
      replace H := H.weaken (L' := [(53, (.bool true)), (54, undef)]) ⟨rfl, rfl, trivial⟩
      refine s_skip H (wantN H rfl rfl rfl) rfl (lt_ rfl) fun a H => c_nil <| effQ.go [(17, undef), (18, (.bool true)), (19, (.bool true)), (20, undef), (22, undef)] H rfl rfl <| Stg.eff [17, 18, 19, 20, 22] (by kernel_rfl) rfl (.cons ?_ (.cons ?_ (.cons ?_ (.cons ?_ (.cons ?_ .nil))))) ?_
      ·exact .skip rfl rfl rfl rfl rfl rfl rfl rfl
      ·refine Ans.mk rfl rfl fun a H => s_pickT H rfl rfl rfl (lt_ rfl) fun a H => ?_
       exact Ans.fin H rfl
      ·refine Ans.mk rfl rfl fun a H => s_move H rfl rfl (lt_ rfl) fun a H => ?_
       exact Ans.fin H rfl
      ·exact .skip rfl rfl rfl rfl rfl rfl rfl rfl
      ·exact .skip rfl rfl rfl rfl rfl rfl rfl rfl
      ·intro a H
       replace H := H.weaken (L' := [(58, (.bool true)), (59, undef)]) ⟨rfl, rfl, trivial⟩
       refine s_skip H (wantN H rfl rfl rfl) rfl (lt_ rfl) fun a H => c_nil <| effQ.go [(23, undef), (24, (.bool true))] H rfl rfl <| Stg.fin [22, 23, 24] (by kernel_rfl) (.cons ?_ (.cons ?_ (.cons ?_ .nil))) ?_
       ·exact .skip rfl rfl rfl rfl rfl rfl rfl rfl
       ·exact .skip rfl rfl rfl rfl rfl rfl rfl rfl
       ·refine Ans.mk rfl rfl fun a H => s_pickT H rfl rfl rfl (lt_ rfl) fun a H => ?_
        exact Ans.fin H rfl
       ·intro a H
        replace H := H.weaken (L' := [(1, (.pointer N4)), (4, (.pointer (some (blk b18)))), (63, (.bool true))]) ⟨rfl, rfl, rfl, trivial⟩
        exact h125 _ _ _ h (H.weaken ⟨rfl, rfl, rfl, trivial⟩)
    ·replace h := h.2 h127
     rcases Bool.eq_false_or_eq_true (decide (A34 ≠ 0)) with h128 | h128
     ·replace h := h.1 h128
      refine c_any (V := [(0, (.bool A33)), (1, (.bool (!A33))), (2, (.bool (!A33))), (3, (.bool A41)), (4, (.bool (!A41))), (5, (.bool (!A41))), (6, (.bool (!A41))), (7, (.i A34)), (8, (.bool (decide (A34 ≠ 0)))), (9, (.bool (decide (A34 ≠ 0)))), (10, (.bool (decide (A34 ≠ 0)))), (11, undef), (12, undef), (13, (.bool true)), (14, (.bool true)), (15, undef)]) (⟨[[], [0], [1], [2], [2, 3], [2, 4], [2, 5], [6], [6, 7], [6, 8], [6, 9], [10], [10, 11], [10, 12], [10, 13], [14], [14, 15], [14, 16], [14, 17], [16, 18], [19], [19, 20], [19], [19, 21, 22], [19, 23]], [some 39, some 40, some 41, some 42, some 43, some 44, some 45, some 46, some 47, some 48, some 49, some 50, some 51, some 52, some 53, some 54, some 55, some 56, some 57, some 58, some 59, some 60, some 61, some 62, some 63], [16, 21], [0, 0, 0, 0, 0, 0, 0, 0, 0, 0, 0, 0, 0, 0, 0, 0, 0, 1, 1, 1, 1, 1, 1, 2, 2], [0, 0, 0, 0, 0, 0, 0, 0, 0, 0, 0, 0, 0, 0, 0, 0, 1, 1, 1, 1, 1, 2, 2, 2, 2]⟩ : Rg) [(1, (.pointer N4)), (3, (.pointer (some (blk b13)))), (4, (.pointer (some (blk b18)))), (5, (.bool A33)), (6, (.i A34)), (7, (.bool A41)), (8, (.i A42))] mixed (by kernel_rfl) H ?_
      refine Stg.eff [0, 1, 2, 3, 4, 5, 6, 7, 8, 9, 10, 11, 12, 13, 14, 15] (by kernel_rfl) rfl (.cons ?_ (.cons ?_ (.cons ?_ (.cons ?_ (.cons ?_ (.cons ?_ (.cons ?_ (.cons ?_ (.cons ?_ (.cons ?_ (.cons ?_ (.cons ?_ (.cons ?_ (.cons ?_ (.cons ?_ (.cons ?_ .nil)))))))))))))))) ?_
      ·refine Ans.mk rfl rfl fun a H => s_move H rfl rfl (lt_ rfl) fun a H => ?_
       exact Ans.fin H rfl
      ·refine Ans.mk rfl rfl fun a H => s_un H rfl rfl r_not (lt_ rfl) fun a H => ?_
       exact Ans.fin H rfl
      ·refine Ans.mk rfl rfl fun a H => s_move H rfl rfl (lt_ rfl) fun a H => ?_
       exact Ans.fin H rfl
      ·refine Ans.mk rfl rfl fun a H => ?_
       replace H := H.ch (t := 41) (b := false) rfl h126
       refine s_move H (wantG H rfl rfl) rfl (lt_ rfl) fun a H => ?_
       exact Ans.fin H rfl
      ·refine Ans.mk rfl rfl fun a H => ?_
       replace H := H.ch (t := 41) (b := false) rfl h126
       refine s_un H (wantG H rfl rfl) rfl r_not (lt_ rfl) fun a H => ?_
       exact Ans.fin H rfl
      ·refine Ans.mk rfl rfl fun a H => ?_
       replace H := H.ch (t := 41) (b := false) rfl h126
       refine s_pickF H rfl rfl rfl (lt_ rfl) fun a H => ?_
       exact Ans.fin H rfl
      ·refine Ans.mk rfl rfl fun a H => s_move H rfl rfl (lt_ rfl) fun a H => ?_
       exact Ans.fin H rfl
      ·refine Ans.mk rfl rfl fun a H => ?_
       replace H := H.ch (t := 45) (b := false) rfl h127
       refine s_move H (wantG H rfl rfl) rfl (lt_ rfl) fun a H => ?_
       exact Ans.fin H rfl
      ·refine Ans.mk rfl rfl fun a H => ?_
       replace H := H.ch (t := 45) (b := false) rfl h127
       refine s_bin H (wantG H rfl rfl) rfl rfl r_neq (lt_ rfl) fun a H => ?_
       exact Ans.fin H rfl
      ·refine Ans.mk rfl rfl fun a H => ?_
       replace H := H.ch (t := 45) (b := false) rfl h127
       refine s_pickF H rfl rfl rfl (lt_ rfl) fun a H => ?_
       exact Ans.fin H rfl
      ·refine Ans.mk rfl rfl fun a H => s_move H rfl rfl (lt_ rfl) fun a H => ?_
       exact Ans.fin H rfl
      ·exact .skip rfl rfl rfl rfl rfl rfl h128 rfl
      ·exact .skip rfl rfl rfl rfl rfl rfl h128 rfl
      ·refine Ans.mk rfl rfl fun a H => ?_
       replace H := H.ch (t := 49) (b := true) rfl h128
       refine s_pickT H rfl rfl rfl (lt_ rfl) fun a H => ?_
       exact Ans.fin H rfl
      ·refine Ans.mk rfl rfl fun a H => s_move H rfl rfl (lt_ rfl) fun a H => ?_
       exact Ans.fin H rfl
      ·exact .skip rfl rfl rfl rfl rfl rfl rfl rfl
      ·intro a H
       replace H := H.weaken (L' := [(53, (.bool true)), (54, undef)]) ⟨rfl, rfl, trivial⟩
       refine s_skip H (wantN H rfl rfl rfl) rfl (lt_ rfl) fun a H => c_nil <| effQ.go [(17, undef), (18, (.bool true)), (19, (.bool true)), (20, undef), (22, undef)] H rfl rfl <| Stg.eff [17, 18, 19, 20, 22] (by kernel_rfl) rfl (.cons ?_ (.cons ?_ (.cons ?_ (.cons ?_ (.cons ?_ .nil))))) ?_
       ·exact .skip rfl rfl rfl rfl rfl rfl rfl rfl
       ·refine Ans.mk rfl rfl fun a H => s_pickT H rfl rfl rfl (lt_ rfl) fun a H => ?_
        exact Ans.fin H rfl
       ·refine Ans.mk rfl rfl fun a H => s_move H rfl rfl (lt_ rfl) fun a H => ?_
        exact Ans.fin H rfl
       ·exact .skip rfl rfl rfl rfl rfl rfl rfl rfl
       ·exact .skip rfl rfl rfl rfl rfl rfl rfl rfl
       ·intro a H
        replace H := H.weaken (L' := [(58, (.bool true)), (59, undef)]) ⟨rfl, rfl, trivial⟩
        refine s_skip H (wantN H rfl rfl rfl) rfl (lt_ rfl) fun a H => c_nil <| effQ.go [(23, undef), (24, (.bool true))] H rfl rfl <| Stg.fin [22, 23, 24] (by kernel_rfl) (.cons ?_ (.cons ?_ (.cons ?_ .nil))) ?_
        ·exact .skip rfl rfl rfl rfl rfl rfl rfl rfl
        ·exact .skip rfl rfl rfl rfl rfl rfl rfl rfl
        ·refine Ans.mk rfl rfl fun a H => s_pickT H rfl rfl rfl (lt_ rfl) fun a H => ?_
         exact Ans.fin H rfl
        ·intro a H
         replace H := H.weaken (L' := [(1, (.pointer N4)), (4, (.pointer (some (blk b18)))), (63, (.bool true))]) ⟨rfl, rfl, rfl, trivial⟩
         exact h125 _ _ _ h (H.weaken ⟨rfl, rfl, rfl, trivial⟩)
     ·replace h := h.2 h128
      rcases Bool.eq_false_or_eq_true (decide (A42 ≠ 0)) with h129 | h129
      ·replace h := h.1 h129
       refine c_any (V := [(0, (.bool A33)), (1, (.bool (!A33))), (2, (.bool (!A33))), (3, (.bool A41)), (4, (.bool (!A41))), (5, (.bool (!A41))), (6, (.bool (!A41))), (7, (.i A34)), (8, (.bool (decide (A34 ≠ 0)))), (9, (.bool (decide (A34 ≠ 0)))), (10, (.bool (decide (A34 ≠ 0)))), (11, (.i A42)), (12, (.bool (decide (A42 ≠ 0)))), (13, (.bool (decide (A42 ≠ 0)))), (14, (.bool (decide (A42 ≠ 0)))), (15, undef)]) (⟨[[], [0], [1], [2], [2, 3], [2, 4], [2, 5], [6], [6, 7], [6, 8], [6, 9], [10], [10, 11], [10, 12], [10, 13], [14], [14, 15], [14, 16], [14, 17], [16, 18], [19], [19, 20], [19], [19, 21, 22], [19, 23]], [some 39, some 40, some 41, some 42, some 43, some 44, some 45, some 46, some 47, some 48, some 49, some 50, some 51, some 52, some 53, some 54, some 55, some 56, some 57, some 58, some 59, some 60, some 61, some 62, some 63], [16, 21], [0, 0, 0, 0, 0, 0, 0, 0, 0, 0, 0, 0, 0, 0, 0, 0, 0, 1, 1, 1, 1, 1, 1, 2, 2], [0, 0, 0, 0, 0, 0, 0, 0, 0, 0, 0, 0, 0, 0, 0, 0, 1, 1, 1, 1, 1, 2, 2, 2, 2]⟩ : Rg) [(1, (.pointer N4)), (3, (.pointer (some (blk b13)))), (4, (.pointer (some (blk b18)))), (5, (.bool A33)), (6, (.i A34)), (7, (.bool A41)), (8, (.i A42))] mixed (by kernel_rfl) H ?_
       refine Stg.eff [0, 1, 2, 3, 4, 5, 6, 7, 8, 9, 10, 11, 12, 13, 14, 15] (by kernel_rfl) rfl (.cons ?_ (.cons ?_ (.cons ?_ (.cons ?_ (.cons ?_ (.cons ?_ (.cons ?_ (.cons ?_ (.cons ?_ (.cons ?_ (.cons ?_ (.cons ?_ (.cons ?_ (.cons ?_ (.cons ?_ (.cons ?_ .nil)))))))))))))))) ?_
       ·refine Ans.mk rfl rfl fun a H => s_move H rfl rfl (lt_ rfl) fun a H => ?_
        exact Ans.fin H rfl
       ·refine Ans.mk rfl rfl fun a H => s_un H rfl rfl r_not (lt_ rfl) fun a H => ?_
        exact Ans.fin H rfl
       ·refine Ans.mk rfl rfl fun a H => s_move H rfl rfl (lt_ rfl) fun a H => ?_
        exact Ans.fin H rfl
       ·refine Ans.mk rfl rfl fun a H => ?_
        replace H := H.ch (t := 41) (b := false) rfl h126
        refine s_move H (wantG H rfl rfl) rfl (lt_ rfl) fun a H => ?_
        exact Ans.fin H rfl
       ·refine Ans.mk rfl rfl fun a H => ?_
        replace H := H.ch (t := 41) (b := false) rfl h126
        refine s_un H (wantG H rfl rfl) rfl r_not (lt_ rfl) fun a H => ?_
        exact Ans.fin H rfl
       ·refine Ans.mk rfl rfl fun a H => ?_
        replace H := H.ch (t := 41) (b := false) rfl h126
        refine s_pickF H rfl rfl rfl (lt_ rfl) fun a H => ?_
        exact Ans.fin H rfl
       ·refine Ans.mk rfl rfl fun a H => s_move H rfl rfl (lt_ rfl) fun a H => ?_
        exact Ans.fin H rfl
       ·refine Ans.mk rfl rfl fun a H => ?_
        replace H := H.ch (t := 45) (b := false) rfl h127
        refine s_move H (wantG H rfl rfl) rfl (lt_ rfl) fun a H => ?_
        exact Ans.fin H rfl
       ·refine Ans.mk rfl rfl fun a H => ?_
        replace H := H.ch (t := 45) (b := false) rfl h127
        refine s_bin H (wantG H rfl rfl) rfl rfl r_neq (lt_ rfl) fun a H => ?_
        exact Ans.fin H rfl
       ·refine Ans.mk rfl rfl fun a H => ?_
        replace H := H.ch (t := 45) (b := false) rfl h127
        refine s_pickF H rfl rfl rfl (lt_ rfl) fun a H => ?_
        exact Ans.fin H rfl
       ·refine Ans.mk rfl rfl fun a H => s_move H rfl rfl (lt_ rfl) fun a H => ?_
        exact Ans.fin H rfl
       ·refine Ans.mk rfl rfl fun a H => ?_
        replace H := H.ch (t := 49) (b := false) rfl h128
        refine s_move H (wantG H rfl rfl) rfl (lt_ rfl) fun a H => ?_
        exact Ans.fin H rfl
       ·refine Ans.mk rfl rfl fun a H => ?_
        replace H := H.ch (t := 49) (b := false) rfl h128
        refine s_bin H (wantG H rfl rfl) rfl rfl r_neq (lt_ rfl) fun a H => ?_
        exact Ans.fin H rfl
       ·refine Ans.mk rfl rfl fun a H => ?_
        replace H := H.ch (t := 49) (b := false) rfl h128
        refine s_pickF H rfl rfl rfl (lt_ rfl) fun a H => ?_
        exact Ans.fin H rfl
       ·refine Ans.mk rfl rfl fun a H => s_move H rfl rfl (lt_ rfl) fun a H => ?_
        exact Ans.fin H rfl
       ·exact .skip rfl rfl rfl rfl rfl rfl h129 rfl
       ·intro a H
        replace H := H.weaken (L' := [(53, (.bool (decide (A42 ≠ 0)))), (54, undef)]) ⟨rfl, rfl, trivial⟩
        replace H := H.ch (t := 53) (b := true) rfl h129
        refine s_skip H (wantN H rfl rfl rfl) rfl (lt_ rfl) fun a H => c_nil <| effQ.go [(17, undef), (18, (.bool true)), (19, (.bool true)), (20, undef), (22, undef)] H rfl rfl <| Stg.eff [17, 18, 19, 20, 22] (by kernel_rfl) rfl (.cons ?_ (.cons ?_ (.cons ?_ (.cons ?_ (.cons ?_ .nil))))) ?_
        ·exact .skip rfl rfl rfl rfl rfl rfl h129 rfl
        ·refine Ans.mk rfl rfl fun a H => ?_
         replace H := H.ch (t := 53) (b := true) rfl h129
         refine s_pickT H rfl rfl rfl (lt_ rfl) fun a H => ?_
         exact Ans.fin H rfl
        ·refine Ans.mk rfl rfl fun a H => s_move H rfl rfl (lt_ rfl) fun a H => ?_
         exact Ans.fin H rfl
        ·exact .skip rfl rfl rfl rfl rfl rfl rfl rfl
        ·exact .skip rfl rfl rfl rfl rfl rfl rfl rfl
        ·intro a H
         replace H := H.weaken (L' := [(58, (.bool true)), (59, undef)]) ⟨rfl, rfl, trivial⟩
         refine s_skip H (wantN H rfl rfl rfl) rfl (lt_ rfl) fun a H => c_nil <| effQ.go [(23, undef), (24, (.bool true))] H rfl rfl <| Stg.fin [22, 23, 24] (by kernel_rfl) (.cons ?_ (.cons ?_ (.cons ?_ .nil))) ?_
         ·exact .skip rfl rfl rfl rfl rfl rfl rfl rfl
         ·exact .skip rfl rfl rfl rfl rfl rfl rfl rfl
         ·refine Ans.mk rfl rfl fun a H => s_pickT H rfl rfl rfl (lt_ rfl) fun a H => ?_
          exact Ans.fin H rfl
         ·intro a H
          replace H := H.weaken (L' := [(1, (.pointer N4)), (4, (.pointer (some (blk b18)))), (63, (.bool true))]) ⟨rfl, rfl, rfl, trivial⟩
          exact h125 _ _ _ h (H.weaken ⟨rfl, rfl, rfl, trivial⟩)
      ·replace h := h.2 h129
       refine c_any (V := [(0, (.bool A33)), (1, (.bool (!A33))), (2, (.bool (!A33))), (3, (.bool A41)), (4, (.bool (!A41))), (5, (.bool (!A41))), (6, (.bool (!A41))), (7, (.i A34)), (8, (.bool (decide (A34 ≠ 0)))), (9, (.bool (decide (A34 ≠ 0)))), (10, (.bool (decide (A34 ≠ 0)))), (11, (.i A42)), (12, (.bool (decide (A42 ≠ 0)))), (13, (.bool (decide (A42 ≠ 0)))), (14, (.bool (decide (A42 ≠ 0)))), (15, (.pointer N4))]) (⟨[[], [0], [1], [2], [2, 3], [2, 4], [2, 5], [6], [6, 7], [6, 8], [6, 9], [10], [10, 11], [10, 12], [10, 13], [14], [14, 15], [14, 16], [14, 17], [16, 18], [19], [19, 20], [19], [19, 21, 22], [19, 23]], [some 39, some 40, some 41, some 42, some 43, some 44, some 45, some 46, some 47, some 48, some 49, some 50, some 51, some 52, some 53, some 54, some 55, some 56, some 57, some 58, some 59, some 60, some 61, some 62, some 63], [16, 21], [0, 0, 0, 0, 0, 0, 0, 0, 0, 0, 0, 0, 0, 0, 0, 0, 0, 1, 1, 1, 1, 1, 1, 2, 2], [0, 0, 0, 0, 0, 0, 0, 0, 0, 0, 0, 0, 0, 0, 0, 0, 1, 1, 1, 1, 1, 2, 2, 2, 2]⟩ : Rg) [(1, (.pointer N4)), (3, (.pointer (some (blk b13)))), (4, (.pointer (some (blk b18)))), (5, (.bool A33)), (6, (.i A34)), (7, (.bool A41)), (8, (.i A42))] mixed (by kernel_rfl) H ?_
       refine Stg.eff [0, 1, 2, 3, 4, 5, 6, 7, 8, 9, 10, 11, 12, 13, 14, 15] (by kernel_rfl) rfl (.cons ?_ (.cons ?_ (.cons ?_ (.cons ?_ (.cons ?_ (.cons ?_ (.cons ?_ (.cons ?_ (.cons ?_ (.cons ?_ (.cons ?_ (.cons ?_ (.cons ?_ (.cons ?_ (.cons ?_ (.cons ?_ .nil)))))))))))))))) ?_
       ·refine Ans.mk rfl rfl fun a H => s_move H rfl rfl (lt_ rfl) fun a H => ?_
        exact Ans.fin H rfl
       ·refine Ans.mk rfl rfl fun a H => s_un H rfl rfl r_not (lt_ rfl) fun a H => ?_
        exact Ans.fin H rfl
       ·refine Ans.mk rfl rfl fun a H => s_move H rfl rfl (lt_ rfl) fun a H => ?_
        exact Ans.fin H rfl
       ·refine Ans.mk rfl rfl fun a H => ?_
        replace H := H.ch (t := 41) (b := false) rfl h126
        refine s_move H (wantG H rfl rfl) rfl (lt_ rfl) fun a H => ?_
        exact Ans.fin H rfl
       ·refine Ans.mk rfl rfl fun a H => ?_
        replace H := H.ch (t := 41) (b := false) rfl h126
        refine s_un H (wantG H rfl rfl) rfl r_not (lt_ rfl) fun a H => ?_
        exact Ans.fin H rfl
       ·refine Ans.mk rfl rfl fun a H => ?_
        replace H := H.ch (t := 41) (b := false) rfl h126
        refine s_pickF H rfl rfl rfl (lt_ rfl) fun a H => ?_
        exact Ans.fin H rfl
       ·refine Ans.mk rfl rfl fun a H => s_move H rfl rfl (lt_ rfl) fun a H => ?_
        exact Ans.fin H rfl
       ·refine Ans.mk rfl rfl fun a H => ?_
        replace H := H.ch (t := 45) (b := false) rfl h127
        refine s_move H (wantG H rfl rfl) rfl (lt_ rfl) fun a H => ?_
        exact Ans.fin H rfl
       ·refine Ans.mk rfl rfl fun a H => ?_
        replace H := H.ch (t := 45) (b := false) rfl h127
        refine s_bin H (wantG H rfl rfl) rfl rfl r_neq (lt_ rfl) fun a H => ?_
        exact Ans.fin H rfl
       ·refine Ans.mk rfl rfl fun a H => ?_
        replace H := H.ch (t := 45) (b := false) rfl h127
        refine s_pickF H rfl rfl rfl (lt_ rfl) fun a H => ?_
        exact Ans.fin H rfl
       ·refine Ans.mk rfl rfl fun a H => s_move H rfl rfl (lt_ rfl) fun a H => ?_
        exact Ans.fin H rfl
       ·refine Ans.mk rfl rfl fun a H => ?_
        replace H := H.ch (t := 49) (b := false) rfl h128
        refine s_move H (wantG H rfl rfl) rfl (lt_ rfl) fun a H => ?_
        exact Ans.fin H rfl
       ·refine Ans.mk rfl rfl fun a H => ?_
        replace H := H.ch (t := 49) (b := false) rfl h128
        refine s_bin H (wantG H rfl rfl) rfl rfl r_neq (lt_ rfl) fun a H => ?_
        exact Ans.fin H rfl
       ·refine Ans.mk rfl rfl fun a H => ?_
        replace H := H.ch (t := 49) (b := false) rfl h128
        refine s_pickF H rfl rfl rfl (lt_ rfl) fun a H => ?_
        exact Ans.fin H rfl
       ·refine Ans.mk rfl rfl fun a H => s_move H rfl rfl (lt_ rfl) fun a H => ?_
        exact Ans.fin H rfl
       ·refine Ans.mk rfl rfl fun a H => ?_
        replace H := H.ch (t := 53) (b := false) rfl h129
        refine s_move H (wantG H rfl rfl) rfl (lt_ rfl) fun a H => ?_
        exact Ans.fin H rfl
       ·intro a H
        replace H := H.weaken (L' := [(53, (.bool (decide (A42 ≠ 0)))), (54, (.pointer N4))]) ⟨rfl, rfl, trivial⟩
        replace H := H.ch (t := 53) (b := false) rfl h129
        refine s_call H (wantG H rfl rfl) body_38 (H.args (vs := [(.pointer N4), (.string (ByteArray.mk #[107]))]) rfl) (lt_ rfl) h ?_ (fun c w' h H => e_panic (P := PP) (fn := Try.f16) H h)
        clear H h a
        rintro _ w130 a ⟨F131, rfl, h⟩ H
        refine c_nil ?_
        rcases Bool.eq_false_or_eq_true (decide (F131 ≠ 1)) with h132 | h132
        ·replace h := h.1 h132
         refine effQ.go [(17, (.bool (decide (F131 ≠ 1)))), (18, (.bool (decide (F131 ≠ 1)))), (19, (.bool (decide (F131 ≠ 1)))), (20, undef), (22, undef)] H rfl rfl <| Stg.eff [17, 18, 19, 20, 22] (by kernel_rfl) rfl (.cons ?_ (.cons ?_ (.cons ?_ (.cons ?_ (.cons ?_ .nil))))) ?_
         ·refine Ans.mk rfl rfl fun a H => ?_
          replace H := H.ch (t := 53) (b := false) rfl h129
          refine s_bin H (wantG H rfl rfl) rfl rfl r_neq (lt_ rfl) fun a H => ?_
          exact Ans.fin H rfl
         ·refine Ans.mk rfl rfl fun a H => ?_
          replace H := H.ch (t := 53) (b := false) rfl h129
          refine s_pickF H rfl rfl rfl (lt_ rfl) fun a H => ?_
          exact Ans.fin H rfl
         ·refine Ans.mk rfl rfl fun a H => s_move H rfl rfl (lt_ rfl) fun a H => ?_
          exact Ans.fin H rfl
         ·exact .skip rfl rfl rfl rfl rfl rfl h132 rfl
         ·exact .skip rfl rfl rfl rfl rfl rfl h132 rfl
         ·intro a H
          replace H := H.weaken (L' := [(58, (.bool (decide (F131 ≠ 1)))), (59, undef)]) ⟨rfl, rfl, trivial⟩
          replace H := H.ch (t := 58) (b := true) rfl h132
          refine s_skip H (wantN H rfl rfl rfl) rfl (lt_ rfl) fun a H => c_nil <| effQ.go [(23, undef), (24, (.bool true))] H rfl rfl <| Stg.fin [22, 23, 24] (by kernel_rfl) (.cons ?_ (.cons ?_ (.cons ?_ .nil))) ?_
          ·exact .skip rfl rfl rfl rfl rfl rfl h132 rfl
          ·exact .skip rfl rfl rfl rfl rfl rfl h132 rfl
          ·refine Ans.mk rfl rfl fun a H => ?_
           replace H := H.ch (t := 58) (b := true) rfl h132
           refine s_pickT H rfl rfl rfl (lt_ rfl) fun a H => ?_
           exact Ans.fin H rfl
          ·intro a H
           replace H := H.weaken (L' := [(1, (.pointer N4)), (4, (.pointer (some (blk b18)))), (63, (.bool true))]) ⟨rfl, rfl, rfl, trivial⟩
           exact h125 _ _ _ h (H.weaken ⟨rfl, rfl, rfl, trivial⟩)
        ·replace h := h.2 h132
         obtain ⟨C133, hc134, C135, hc136, h⟩ := h
         refine effQ.go [(17, (.bool (decide (F131 ≠ 1)))), (18, (.bool (decide (F131 ≠ 1)))), (19, (.bool (decide (F131 ≠ 1)))), (20, (.pointer N4)), (22, (.agg #[(.i C133), (.i C135)]))] H rfl rfl <| Stg.eff [17, 18, 19, 20, 22] (by kernel_rfl) rfl (.cons ?_ (.cons ?_ (.cons ?_ (.cons ?_ (.cons ?_ .nil))))) ?_
         ·refine Ans.mk rfl rfl fun a H => ?_
          replace H := H.ch (t := 53) (b := false) rfl h129
          refine s_bin H (wantG H rfl rfl) rfl rfl r_neq (lt_ rfl) fun a H => ?_
          exact Ans.fin H rfl
         ·refine Ans.mk rfl rfl fun a H => ?_
          replace H := H.ch (t := 53) (b := false) rfl h129
          refine s_pickF H rfl rfl rfl (lt_ rfl) fun a H => ?_
          exact Ans.fin H rfl
         ·refine Ans.mk rfl rfl fun a H => s_move H rfl rfl (lt_ rfl) fun a H => ?_
          exact Ans.fin H rfl
         ·refine Ans.mk rfl rfl fun a H => ?_
          replace H := H.ch (t := 58) (b := false) rfl h132
          refine s_move H (wantG H rfl rfl) rfl (lt_ rfl) fun a H => ?_
          exact Ans.fin H rfl
         ·refine Ans.mk rfl rfl fun a H => ?_
          replace H := H.ch (t := 58) (b := false) rfl h132
          refine s_loadN (l := [(.i C133), (.i C135)]) H (wantG H rfl rfl) rfl agg_29 rfl ⟨hc134, hc136, trivial⟩ (lt_ rfl) fun a H => ?_
          exact Ans.fin H rfl
         ·intro a H
          replace H := H.weaken (L' := [(58, (.bool (decide (F131 ≠ 1)))), (59, (.pointer N4))]) ⟨rfl, rfl, trivial⟩
          replace H := H.ch (t := 58) (b := false) rfl h132
          refine s_call H (wantG H rfl rfl) body_15 (H.args (vs := [(.pointer N4), (.string (ByteArray.mk #[107]))]) rfl) (lt_ rfl) h ?_ (fun c w' h H => e_panic (P := PP) (fn := Try.f16) H h)
          clear H h a
          rintro _ w137 a ⟨C138, C139, rfl, h⟩ H
          refine c_nil ?_
          obtain ⟨hc140, hc141, h⟩ := h
          refine effQ.go [(23, (.bool (!(decide (C138 = C133) && (decide (C139 = C135)))))), (24, (.bool (!(decide (C138 = C133) && (decide (C139 = C135))))))] H rfl rfl <| Stg.fin [22, 23, 24] (by kernel_rfl) (.cons ?_ (.cons ?_ (.cons ?_ .nil))) ?_
          ·refine Ans.mk rfl rfl fun a H => ?_
           replace H := H.ch (t := 58) (b := false) rfl h132
           refine s_loadN (l := [(.i C133), (.i C135)]) H (wantG H rfl rfl) rfl agg_29 rfl ⟨hc140, hc141, trivial⟩ (lt_ rfl) fun a H => ?_
           exact Ans.fin H rfl
          ·refine Ans.mk rfl rfl fun a H => ?_
           replace H := H.ch (t := 58) (b := false) rfl h132
           refine s_bin H (wantG H rfl rfl) rfl rfl (r_nest eqg_29 (eqst_29 0) rfl) (lt_ rfl) fun a H => ?_
           exact Ans.fin H rfl
          ·refine Ans.mk rfl rfl fun a H => ?_
           replace H := H.ch (t := 58) (b := false) rfl h132
           refine s_pickF H rfl rfl rfl (lt_ rfl) fun a H => ?_
           exact Ans.fin H rfl
          ·intro a H
           replace H := H.weaken (L' := [(1, (.pointer N4)), (4, (.pointer (some (blk b18)))), (63, (.bool (!(decide (C138 = C133) && (decide (C139 = C135))))))]) ⟨rfl, rfl, rfl, trivial⟩
           exact h125 _ _ _ h (H.weaken ⟨rfl, rfl, rfl, trivial⟩)

theorem sim_sherdlaw15_done (d1 : Int) (m2 : Slc) (w : World) (Q : Ending → World → Prop) (h : vc_sherdlaw15_done d1 m2 w Q) : Calls PP F_sherdlaw15_done #[(.i d1), m2.v] w Q := by
 unfold vc_sherdlaw15_done at h
 refine enter (n := 74) Try.func17 rfl rfl (Nat.le_of_ble_eq_true rfl) fun a H => c_seq fun K3 hK3 => c_reg <| s_assign H rfl rfl (lt_ rfl) fun a H => s_assign H rfl rfl (lt_ rfl) fun a H => c_nil <| hK3 _ _ <| c_seq fun K4 hK4 => c_reg <| s_move H rfl rfl (lt_ rfl) fun a H => s_call H rfl body_8 (H.args (vs := [(.i d1)]) rfl) (lt_ rfl) h ?_ (fun c w' h H => e_panic (P := PP) (fn := Try.f17) H h)
 clear H h a
 rintro _ w5 a ⟨N6, N7, rfl, h⟩ H
 refine s_move H rfl rfl (lt_ rfl) fun a H => s_ext H rfl rfl rfl (lt_ rfl) fun a H => s_ext H rfl rfl rfl (lt_ rfl) fun a H => s_assign H rfl rfl (lt_ rfl) fun a H => s_assign H rfl rfl (lt_ rfl) fun a H => c_nil <| hK4 _ _ <| c_seq fun K8 hK8 => c_seq fun K9 hK9 => c_reg <| s_move H rfl rfl (lt_ rfl) fun a H => s_bin H rfl rfl rfl r_neq (lt_ rfl) fun a H => s_move H rfl rfl (lt_ rfl) fun a H => ?_
 refine g_join (n := 74) [(25, (.bool ((decide (N7 ≠ 0)) || N6.isNone))), (1, m2.v), (6, (.pointer N6))] (.succ (.succ (.succ (.zero _)))) ?_ ?_
 ·intro h11
  try clear h
  rcases Bool.eq_false_or_eq_true (decide (N7 ≠ 0)) with h10 | h10
  ·replace H := H.ch (t := 22) (b := true) rfl h10
   refine s_skip H (wantN H rfl rfl rfl) rfl (lt_ rfl) fun a H => s_skip H (wantN H rfl rfl rfl) rfl (lt_ rfl) fun a H => s_pickT H rfl rfl rfl (lt_ rfl) fun a H => ?_
   exact h11 _ (H.weaken ⟨by rw [h10]; rfl, rfl, rfl, trivial⟩)
  ·replace H := H.ch (t := 22) (b := false) rfl h10
   refine s_move H (wantG H rfl rfl) rfl (lt_ rfl) fun a H => s_bin H (wantG H rfl rfl) rfl rfl (r_eqP0 ptr_24) (lt_ rfl) fun a H => s_pickF H rfl rfl rfl (lt_ rfl) fun a H => ?_
   exact h11 _ (H.weaken ⟨by rw [h10]; rfl, rfl, rfl, trivial⟩)
 ·clear H a
  intro a H
  refine c_nil <| hK9 _ _ <| c_cond H rfl (fun h12 => ?_) (fun h12 => ?_)
  ·replace h := h.1 h12
   refine c_seq fun K13 hK13 => c_reg <| s_assign H rfl rfl (lt_ rfl) fun a H => s_assign H rfl rfl (lt_ rfl) fun a H => c_nil <| hK13 _ _ <| c_ret ?_
   exact e_ret2 H rfl rfl rfl h
  ·replace h := h.2 h12
   refine c_skip <| hK8 _ _ <| c_seq fun K14 hK14 => c_seq fun K15 hK15 => c_reg <| s_move H rfl rfl (lt_ rfl) fun a H => s_blt H rfl (H.args (vs := [m2.v]) rfl) (lt_ rfl) (fun cs => b_lenS (z := m2) sl_22) fun a H => s_move H rfl rfl (lt_ rfl) fun a H => c_nil <| hK15 _ _ <| c_block ?_
   obtain ⟨I18, m19, h152, h153⟩ := h
   refine c_loop (σ := Int) (fun z w => I18 z w) (fun z w => m19 z w) (fun z => [(6, (.pointer N6)), (26, m2.v), (27, (.i (m2.l : Int))), (28, (.i z))]) 0 h152 (H.weaken ⟨rfl, rfl, rfl, rfl, trivial⟩) ?_
   clear H h152
   rintro s16 a w17 h H
   replace h := h153 s16 w17 h
   clear h153
   replace H : Has 74 [] a [(6, (.pointer N6)), (26, m2.v), (27, (.i (m2.l : Int))), (28, (.i s16))] := H
   refine c_seq fun K20 hK20 => c_reg <| s_bin H rfl rfl rfl r_lss (lt_ rfl) fun a H => c_nil <| hK20 _ _ <| c_seq fun K21 hK21 => c_cond H rfl (fun h22 => ?_) (fun h22 => ?_)
   ·replace h := h.1 h22
    refine c_skip <| hK21 _ _ <| c_seq fun K23 hK23 => c_block <| c_seq fun K24 hK24 => c_reg ?_
    obtain ⟨a25, h26, h27, h28, h⟩ := h
    refine s_idxS (s := m2) H rfl rfl rfl slc_22 h26 h27 h28 (lt_ rfl) fun a H => ?_
    obtain ⟨K29, hc30, F31, hc32, B33, hc34, C35, hc36, C37, hc38, h⟩ := h
    refine s_loadN (l := [(.i K29), (.bool F31), (.bool B33), (.i C35), (.i C37)]) H rfl rfl agg_32 rfl ⟨hc30, hc32, hc34, hc36, hc38, trivial⟩ (lt_ rfl) fun a H => ?_
    replace h := h.get
    obtain ⟨b39, w40, n41, h⟩ := h
    refine s_alloc H rfl zero_32 (lt_ rfl) ?_
    rw [← n41.at_]
    clear H a
    intro a H
    refine n41.go <| s_stoN (l := [(.i K29), (.bool F31), (.bool B33), (.i C35), (.i C37)]) H rfl rfl rfl rfl agg_32 rfl rfl h ?_
    clear h H
    intro w42 h H
    refine c_nil <| hK24 _ _ <| c_seq fun K43 hK43 => c_reg <| s_move H rfl rfl (lt_ rfl) fun a H => s_call H rfl body_21 (H.args (vs := [(.pointer N6)]) rfl) (lt_ rfl) h ?_ (fun c w' h H => e_panic (P := PP) (fn := Try.f17) H h)
    clear H h a
    rintro _ w44 a ⟨A45, rfl, h⟩ H
    refine s_assign H rfl rfl (lt_ rfl) fun a H => c_nil <| hK43 _ _ <| c_seq fun K46 hK46 => c_reg <| s_move H rfl rfl (lt_ rfl) fun a H => ?_
    obtain ⟨K47, hc48, F49, hc50, B51, hc52, C53, hc54, C55, hc56, h⟩ := h
    refine s_loadN (l := [(.i K47), (.bool F49), (.bool B51), (.i C53), (.i C55)]) H rfl rfl agg_32 rfl ⟨hc48, hc50, hc52, hc54, hc56, trivial⟩ (lt_ rfl) fun a H => s_call H rfl body_10 (H.args (vs := [(.agg #[(.i K47), (.bool F49), (.bool B51), (.i C53), (.i C55)])]) rfl) (lt_ rfl) h ?_ (fun c w' h H => e_panic (P := PP) (fn := Try.f17) H h)
    clear H h a
    rintro _ w57 a ⟨K58, K59, C60, C61, F62, H63, D64, rfl, h⟩ H
    refine s_call H rfl body_39 (H.args (vs := [(.pointer N6), (.agg #[(.i K58), (.string K59), (.i C60), (.i C61), (.bool F62), (.bool H63), D64.v])]) rfl) (lt_ rfl) h ?_ (fun c w' h H => e_panic (P := PP) (fn := Try.f17) H h)
    clear H h a
    rintro _ w65 a ⟨W66, W67, rfl, h⟩ H
    refine s_move H rfl rfl (lt_ rfl) fun a H => s_ext H rfl rfl rfl (lt_ rfl) fun a H => s_ext H rfl rfl rfl (lt_ rfl) fun a H => s_assign H rfl rfl (lt_ rfl) fun a H => s_assign H rfl rfl (lt_ rfl) fun a H => c_nil <| hK46 _ _ <| c_seq fun K68 hK68 => c_seq fun K69 hK69 => c_reg <| s_move H rfl rfl (lt_ rfl) fun a H => s_call H rfl body_21 (H.args (vs := [(.pointer N6)]) rfl) (lt_ rfl) h ?_ (fun c w' h H => e_panic (P := PP) (fn := Try.f17) H h)
    clear H h a
    rintro _ w70 a ⟨A71, rfl, h⟩ H
    refine s_move H rfl rfl (lt_ rfl) fun a H => s_call H rfl body_20 (H.args (vs := [A71.v, A45.v]) rfl) (lt_ rfl) h ?_ (fun c w' h H => e_panic (P := PP) (fn := Try.f17) H h)
    clear H h a
    rintro _ w72 a ⟨s73, rfl, h⟩ H
    refine s_un H rfl rfl r_not (lt_ rfl) fun a H => c_nil <| hK69 _ _ <| c_cond H rfl (fun h74 => ?_) (fun h74 => ?_)
    ·replace h := h.1 h74
     refine c_seq fun K75 hK75 => c_reg <| s_assign H rfl rfl (lt_ rfl) fun a H => s_assign H rfl rfl (lt_ rfl) fun a H => c_nil <| hK75 _ _ <| c_ret ?_
     exact e_ret2 H rfl rfl rfl h
    ·replace h := h.2 h74
     refine c_skip <| hK68 _ _ <| c_seq fun K76 hK76 => c_reg <| s_move H rfl rfl (lt_ rfl) fun a H => ?_
     obtain ⟨K77, hc78, F79, hc80, B81, hc82, C83, hc84, C85, hc86, h⟩ := h
     refine s_loadN (l := [(.i K77), (.bool F79), (.bool B81), (.i C83), (.i C85)]) H rfl rfl agg_32 rfl ⟨hc78, hc80, hc82, hc84, hc86, trivial⟩ (lt_ rfl) fun a H => s_call H rfl body_10 (H.args (vs := [(.agg #[(.i K77), (.bool F79), (.bool B81), (.i C83), (.i C85)])]) rfl) (lt_ rfl) h ?_ (fun c w' h H => e_panic (P := PP) (fn := Try.f17) H h)
     clear H h a
     rintro _ w87 a ⟨K88, K89, C90, C91, F92, H93, D94, rfl, h⟩ H
     refine s_call H rfl body_9 (H.args (vs := [(.pointer N6), (.agg #[(.i K88), (.string K89), (.i C90), (.i C91), (.bool F92), (.bool H93), D94.v])]) rfl) (lt_ rfl) h ?_ (fun c w' h H => e_panic (P := PP) (fn := Try.f17) H h)
     clear H h a
     rintro _ w95 a ⟨A96, A97, rfl, h⟩ H
     refine s_move H rfl rfl (lt_ rfl) fun a H => s_ext H rfl rfl rfl (lt_ rfl) fun a H => s_ext H rfl rfl rfl (lt_ rfl) fun a H => s_assign H rfl rfl (lt_ rfl) fun a H => s_assign H rfl rfl (lt_ rfl) fun a H => c_nil <| hK76 _ _ <| c_seq fun K98 hK98 => c_reg <| s_move H rfl rfl (lt_ rfl) fun a H => s_bin H rfl rfl rfl r_neq (lt_ rfl) fun a H => s_move H rfl rfl (lt_ rfl) fun a H => ?_
     refine g_join (n := 74) [(58, (.bool ((decide (W67 ≠ 0)) || (decide (A97 ≠ 0))))), (6, (.pointer N6)), (10, A45.v), (11, (.bool W66)), (13, (.bool A96)), (26, m2.v), (27, (.i (m2.l : Int))), (28, (.i s16))] (.succ (.succ (.succ (.zero _)))) ?_ ?_
     ·intro h100
      try clear h
      rcases Bool.eq_false_or_eq_true (decide (W67 ≠ 0)) with h99 | h99
      ·replace H := H.ch (t := 55) (b := true) rfl h99
       refine s_skip H (wantN H rfl rfl rfl) rfl (lt_ rfl) fun a H => s_skip H (wantN H rfl rfl rfl) rfl (lt_ rfl) fun a H => s_pickT H rfl rfl rfl (lt_ rfl) fun a H => ?_
       exact h100 _ (H.weaken ⟨by rw [h99]; rfl, rfl, rfl, rfl, rfl, rfl, rfl, rfl, trivial⟩)
      ·replace H := H.ch (t := 55) (b := false) rfl h99
       refine s_move H (wantG H rfl rfl) rfl (lt_ rfl) fun a H => s_bin H (wantG H rfl rfl) rfl rfl r_neq (lt_ rfl) fun a H => s_pickF H rfl rfl rfl (lt_ rfl) fun a H => ?_
       exact h100 _ (H.weaken ⟨by rw [h99]; rfl, rfl, rfl, rfl, rfl, rfl, rfl, rfl, trivial⟩)
     ·clear H a
      intro a H
      refine s_move H rfl rfl (lt_ rfl) fun a H => g_join (n := 74) [(63, (.bool (((decide (W67 ≠ 0)) || (decide (A97 ≠ 0))) || (decide (W66 ≠ A96))))), (6, (.pointer N6)), (10, A45.v), (13, (.bool A96)), (26, m2.v), (27, (.i (m2.l : Int))), (28, (.i s16))] (.succ (.succ (.succ (.succ (.zero _))))) ?_ ?_
      ·intro h102
       try clear h
       rcases Bool.eq_false_or_eq_true ((decide (W67 ≠ 0)) || (decide (A97 ≠ 0))) with h101 | h101
       ·replace H := H.ch (t := 59) (b := true) rfl h101
        iterate 3 refine s_skip H (wantN H rfl rfl rfl) rfl (lt_ rfl) fun a H => ?_
        refine s_pickT H rfl rfl rfl (lt_ rfl) fun a H => ?_
        exact h102 _ (H.weaken ⟨by rw [h101]; rfl, rfl, rfl, rfl, rfl, rfl, rfl, trivial⟩)
       ·replace H := H.ch (t := 59) (b := false) rfl h101
        refine s_move H (wantG H rfl rfl) rfl (lt_ rfl) fun a H => s_move H (wantG H rfl rfl) rfl (lt_ rfl) fun a H => s_bin H (wantG H rfl rfl) rfl rfl (r_neB bool_4) (lt_ rfl) fun a H => s_pickF H rfl rfl rfl (lt_ rfl) fun a H => ?_
        exact h102 _ (H.weaken ⟨by rw [h101]; rfl, rfl, rfl, rfl, rfl, rfl, rfl, trivial⟩)
      ·clear H a
       intro a H
       refine s_move H rfl rfl (lt_ rfl) fun a H => ?_
       obtain ⟨R105, h, h122⟩ := h
       refine g_joinW (n := 74) R105 (fun x106 => [(71, (.bool x106)), (6, (.pointer N6)), (26, m2.v), (27, (.i (m2.l : Int))), (28, (.i s16))]) (.succ (.succ (.succ (.succ (.succ (.succ (.succ (.zero _)))))))) ?_ ?_
       ·intro h104
        clear h122
        rcases Bool.eq_false_or_eq_true (((decide (W67 ≠ 0)) || (decide (A97 ≠ 0))) || (decide (W66 ≠ A96))) with h103 | h103
        ·replace H := H.ch (t := 64) (b := true) rfl h103
         replace h := h.2 h103
         iterate 6 refine s_skip H (wantN H rfl rfl rfl) rfl (lt_ rfl) fun a H => ?_
         refine s_pickT H rfl rfl rfl (lt_ rfl) fun a H => ?_
         exact h104 _ _ _ h (H.weaken ⟨rfl, rfl, rfl, rfl, rfl, trivial⟩)
        ·replace H := H.ch (t := 64) (b := false) rfl h103
         replace h := h.1 h103
         refine s_move H (wantG H rfl rfl) rfl (lt_ rfl) fun a H => s_move H (wantG H rfl rfl) rfl (lt_ rfl) fun a H => s_call H (wantG H rfl rfl) body_21 (H.args (vs := [(.pointer N6)]) rfl) (lt_ rfl) h ?_ (fun c w' h H => e_panic (P := PP) (fn := Try.f17) H h)
         clear H h a
         rintro _ w108 a ⟨A109, rfl, h⟩ H
         refine s_move H (wantG H rfl rfl) rfl (lt_ rfl) fun a H => s_call H (wantG H rfl rfl) body_20 (H.args (vs := [A109.v, A45.v]) rfl) (lt_ rfl) h ?_ (fun c w' h H => e_panic (P := PP) (fn := Try.f17) H h)
         clear H h a
         rintro _ w110 a ⟨s111, rfl, h⟩ H
         refine s_bin H (wantG H rfl rfl) rfl rfl (r_eqB bool_4) (lt_ rfl) fun a H => s_pickF H rfl rfl rfl (lt_ rfl) fun a H => ?_
         exact h104 _ _ _ h (H.weaken ⟨rfl, rfl, rfl, rfl, rfl, trivial⟩)
       ·clear H a h
        intro a x106 w107 h H
        replace h := h122 x106 w107 h
        clear h122
        refine c_nil <| hK98 _ _ <| c_cond H rfl (fun h120 => ?_) (fun h120 => ?_)
        ·replace h := h.1 h120
         refine c_seq fun K121 hK121 => c_reg <| s_assign H rfl rfl (lt_ rfl) fun a H => s_assign H rfl rfl (lt_ rfl) fun a H => c_nil <| hK121 _ _ <| c_ret ?_
         exact e_ret2 H rfl rfl rfl h
        ·replace h := h.2 h120
         refine c_skip <| hK23 _ _ <| c_reg <| s_bin H rfl rfl rfl r_add (lt_ rfl) fun a H => s_move H rfl rfl (lt_ rfl) fun a H => c_nil <| Exists.intro (wr .i64 (s16 + 1)) ⟨h.1, h.2, H.weaken ⟨rfl, rfl, rfl, rfl, trivial⟩⟩
   ·replace h := h.2 h22
    refine c_exit ?_
    first | (simp only [Exit.then, Exit.inBlock, ↓reduceIte]; fail_if_success simp only [Nat.reduceEqDiff]) | simp only [Exit.then, Exit.inBlock, ↓reduceIte, Nat.reduceEqDiff]
    refine hK14 _ _ <| c_seq fun K151 hK151 => c_reg <| s_move H rfl rfl (lt_ rfl) fun a H => s_assign H rfl rfl (lt_ rfl) fun a H => s_assign H rfl rfl (lt_ rfl) fun a H => c_nil <| hK151 _ _ <| c_ret ?_
    exact e_ret2 H rfl rfl rfl h

theorem sim_sherdlaw15_expected (d1 : Int) (m2 : Slc) (k3 : ByteArray) (w : World) (Q : Ending → World → Prop) (h : vc_sherdlaw15_expected d1 m2 k3 w Q) : Calls PP F_sherdlaw15_expected #[(.i d1), m2.v, (.string k3)] w Q := by
 unfold vc_sherdlaw15_expected at h
 refine enter (n := 101) Try.func18 rfl rfl (Nat.le_of_ble_eq_true rfl) fun a H => c_seq fun K4 hK4 => c_reg <| s_assign H rfl rfl (lt_ rfl) fun a H => c_nil <| hK4 _ _ <| c_seq fun K5 hK5 => c_reg <| s_assign H rfl rfl (lt_ rfl) fun a H => c_nil <| hK5 _ _ <| c_seq fun K6 hK6 => c_reg <| s_assign H rfl rfl (lt_ rfl) fun a H => c_nil <| hK6 _ _ <| c_seq fun K7 hK7 => ?_
 obtain ⟨R9, h, h242⟩ := h
 have h47 : ∀ (a : Act) (t8 : Slc) (w10 : World), R9 t8 w10 → Has 101 [] a [(7, t8.v)] → K7 a w10 := by
  clear h
  intro a t8 w10 h H
  replace h := h242 t8 w10 h
  refine hK7 _ _ <| c_seq fun K11 hK11 => c_reg <| s_assign H rfl rfl (lt_ rfl) fun a H => c_nil <| hK11 _ _ <| c_seq fun K12 hK12 => c_seq fun K13 hK13 => c_reg <| s_move H rfl rfl (lt_ rfl) fun a H => s_blt H rfl (H.args (vs := [t8.v]) rfl) (lt_ rfl) (fun cs => b_lenS (z := t8) sl_42) fun a H => s_move H rfl rfl (lt_ rfl) fun a H => c_nil <| hK13 _ _ <| c_block ?_
  obtain ⟨I17, m18, h45, h46⟩ := h
  refine c_loop (σ := Slc × Int) (fun z w => I17 z.1 z.2 w) (fun z w => m18 z.1 z.2 w) (fun z => [(7, t8.v), (14, z.1.v), (84, (.i (t8.l : Int))), (85, (.i z.2))]) (Slc.nil, 0) h45 (H.weaken ⟨rfl, rfl, rfl, rfl, trivial⟩) ?_
  clear H h45
  rintro ⟨o14, s15⟩ a w16 h H
  replace h := h46 o14 s15 w16 h
  clear h46
  replace H : Has 101 [] a [(7, t8.v), (14, o14.v), (84, (.i (t8.l : Int))), (85, (.i s15))] := H
  refine c_seq fun K19 hK19 => c_reg <| s_bin H rfl rfl rfl r_lss (lt_ rfl) fun a H => c_nil <| hK19 _ _ <| c_seq fun K20 hK20 => c_cond H rfl (fun h21 => ?_) (fun h21 => ?_)
  ·replace h := h.1 h21
   refine c_skip <| hK20 _ _ <| c_seq fun K22 hK22 => c_block <| c_seq fun K23 hK23 => c_reg <| s_move H rfl rfl (lt_ rfl) fun a H => s_assign H rfl rfl (lt_ rfl) fun a H => c_nil <| hK23 _ _ <| c_reg ?_
   iterate 3 refine s_move H rfl rfl (lt_ rfl) fun a H => ?_
   refine s_blt H rfl (H.args (vs := [t8.v]) rfl) (lt_ rfl) (fun cs => b_lenS (z := t8) sl_42) fun a H => s_bin H rfl rfl rfl r_sub (lt_ rfl) fun a H => s_move H rfl rfl (lt_ rfl) fun a H => s_bin H rfl rfl rfl r_sub (lt_ rfl) fun a H => ?_
   obtain ⟨a24, h25, h26, h27, h⟩ := h
   refine s_idxS (s := t8) H rfl rfl rfl slc_42 h25 h26 h27 (lt_ rfl) fun a H => ?_
   obtain ⟨C28, hc29, C30, hc31, F32, hc33, H34, hc35, D36, hc37, h⟩ := h
   refine s_loadN (l := [(.i C28), (.i C30), (.bool F32), (.bool H34), D36.v]) H rfl rfl agg_37 rfl ⟨hc29, hc31, hc33, hc35, hc37, trivial⟩ (lt_ rfl) fun a H => ?_
   replace h := h.get
   obtain ⟨b38, w39, n40, h⟩ := h
   refine s_bslc H rfl (by rw [H.parts (vs := [(0, (.agg #[(.i C28), (.i C30), (.bool F32), (.bool H34), D36.v]))]) rfl]; exact bs_42_1_ii64ii64bbs0 w16 C28 C30 F32 H34 D36) (lt_ rfl) ?_
   rw [← n40.at_]
   clear H a
   intro a H
   refine n40.go ?_
   obtain ⟨s41, w42, h43, h⟩ := h
   refine s_blt H rfl (H.args (vs := [o14.v, (Slc.v (Slc.mk (some (blk b38)) 1 1))]) rfl) (lt_ rfl) (fun cs => b_app (z := s41) h43) ?_
   clear H a h43
   intro a H
   refine s_assign H rfl rfl (lt_ rfl) fun a H => c_nil <| hK22 _ _ <| c_reg <| s_bin H rfl rfl rfl r_add (lt_ rfl) fun a H => s_move H rfl rfl (lt_ rfl) fun a H => c_nil <| Exists.intro (s41, wr .i64 (s15 + 1)) ⟨h.1, h.2, H.weaken ⟨rfl, rfl, rfl, rfl, trivial⟩⟩
  ·replace h := h.2 h21
   refine c_exit ?_
   first | (simp only [Exit.then, Exit.inBlock, ↓reduceIte]; fail_if_success simp only [Nat.reduceEqDiff]) | simp only [Exit.then, Exit.inBlock, ↓reduceIte, Nat.reduceEqDiff]
   refine hK12 _ _ <| c_seq fun K44 hK44 => c_reg <| s_move H rfl rfl (lt_ rfl) fun a H => s_assign H rfl rfl (lt_ rfl) fun a H => c_nil <| hK44 _ _ <| c_ret ?_
   exact e_ret1 H rfl rfl h
 clear h242
 refine c_seq fun K48 hK48 => c_reg <| s_assign H rfl rfl (lt_ rfl) fun a H => c_nil <| hK48 _ _ <| c_block ?_
 obtain ⟨I53, m54, h240, h241⟩ := h
 refine c_loop (σ := Slc × Int × Int) (fun z w => I53 z.1 z.2.1 z.2.2 w) (fun z w => m54 z.1 z.2.1 z.2.2 w) (fun z => [(0, (.i d1)), (1, m2.v), (2, (.string k3)), (7, z.1.v), (8, (.i z.2.1)), (9, (.i z.2.2))]) (Slc.nil, 0, 59) h240 (H.weaken ⟨rfl, rfl, rfl, rfl, rfl, rfl, trivial⟩) ?_
 clear H h240
 rintro ⟨t49, f50, n51⟩ a w52 h H
 replace h := h241 t49 f50 n51 w52 h
 clear h241
 replace H : Has 101 [] a [(0, (.i d1)), (1, m2.v), (2, (.string k3)), (7, t49.v), (8, (.i f50)), (9, (.i n51))] := H
 refine c_seq fun K55 hK55 => c_seq fun K56 hK56 => c_reg <| s_move H rfl rfl (lt_ rfl) fun a H => s_bin H rfl rfl rfl r_geq (lt_ rfl) fun a H => c_nil <| hK56 _ _ <| c_cond H rfl (fun h57 => ?_) (fun h57 => ?_)
 ·replace h := h.1 h57
  refine c_skip <| hK55 _ _ <| c_seq fun K58 hK58 => ?_
  obtain ⟨R61, h, h239⟩ := h
  have h63 : ∀ (a : Act) (t59 : Slc) (f60 : Int) (w62 : World), R61 t59 f60 w62 → Has 101 [] a [(0, (.i d1)), (1, m2.v), (2, (.string k3)), (7, t59.v), (8, (.i f60)), (9, (.i n51))] → K58 a w62 := by
   clear h
   intro a t59 f60 w62 h H
   replace h := h239 t59 f60 w62 h
   refine hK58 _ _ <| c_reg <| s_move H rfl rfl (lt_ rfl) fun a H => s_bin H rfl rfl rfl r_sub (lt_ rfl) fun a H => s_assign H rfl rfl (lt_ rfl) fun a H => c_nil <| Exists.intro (t59, f60, wr .i64 (n51 - 1)) ⟨h.1, h.2, H.weaken ⟨rfl, rfl, rfl, rfl, rfl, rfl, trivial⟩⟩
  clear h239
  refine c_block <| c_seq fun K64 hK64 => c_reg <| s_move H rfl rfl (lt_ rfl) fun a H => s_bin H rfl rfl rfl (r_quo (by decide)) (lt_ rfl) fun a H => s_bin H rfl rfl rfl r_add (lt_ rfl) fun a H => s_move H rfl rfl (lt_ rfl) fun a H => s_bin H rfl rfl rfl (r_rem (by decide)) (lt_ rfl) fun a H => s_bin H rfl rfl rfl r_add (lt_ rfl) fun a H => ?_
  refine s_build H rfl (by rw [H.parts (vs := [(0, (.i (wr .i64 ((wr .i64 (n51.tdiv 5)) + 1)))), (1, (.i (wr .i64 ((n51.tmod 5) + 1))))]) rfl]; exact bd_29_ii640_ii641 w52 (wr .i64 ((wr .i64 (n51.tdiv 5)) + 1)) (wr .i64 ((n51.tmod 5) + 1))) (lt_ rfl) fun a H => ?_
  replace h := h.get
  obtain ⟨b65, w66, n67, h⟩ := h
  refine s_alloc H rfl zero_29 (lt_ rfl) ?_
  rw [← n67.at_]
  clear H a
  intro a H
  refine n67.go <| s_stoN (l := [(.i (wr .i64 ((wr .i64 (n51.tdiv 5)) + 1))), (.i (wr .i64 ((n51.tmod 5) + 1)))]) H rfl rfl rfl rfl agg_29 rfl rfl h ?_
  clear h H
  intro w68 h H
  refine c_nil <| hK64 _ _ <| c_seq fun K69 hK69 => c_reg ?_
  obtain ⟨C70, hc71, C72, hc73, h⟩ := h
  refine s_loadN (l := [(.i C70), (.i C72)]) H rfl rfl agg_29 rfl ⟨hc71, hc73, trivial⟩ (lt_ rfl) fun a H => s_build H rfl (by rw [H.parts (vs := [(0, (.agg #[(.i C70), (.i C72)]))]) rfl]; exact bd_37_ii64ii640 w68 C70 C72) (lt_ rfl) fun a H => ?_
  replace h := h.get
  obtain ⟨b74, w75, n76, h⟩ := h
  refine s_alloc H rfl zero_37 (lt_ rfl) ?_
  rw [← n76.at_]
  clear H a
  intro a H
  refine n76.go <| s_stoN (l := [(.i C70), (.i C72), (.bool false), (.bool false), Slc.nil.v]) H rfl rfl rfl rfl agg_37 rfl rfl h ?_
  clear h H
  intro w77 h H
  refine c_nil <| hK69 _ _ <| c_seq fun K78 hK78 => c_seq fun K79 hK79 => c_reg <| s_move H rfl rfl (lt_ rfl) fun a H => s_blt H rfl (H.args (vs := [m2.v]) rfl) (lt_ rfl) (fun cs => b_lenS (z := m2) sl_22) fun a H => s_move H rfl rfl (lt_ rfl) fun a H => c_nil <| hK79 _ _ <| c_block ?_
  obtain ⟨I82, m83, h237, h238⟩ := h
  refine c_loop (σ := Int) (fun z w => I82 z w) (fun z w => m83 z w) (fun z => [(0, (.i d1)), (1, m2.v), (2, (.string k3)), (7, t49.v), (8, (.i f50)), (9, (.i n51)), (10, (.pointer (some (blk b65)))), (11, (.pointer (some (blk b74)))), (29, m2.v), (30, (.i (m2.l : Int))), (31, (.i z))]) 0 h237 (H.weaken ⟨rfl, rfl, rfl, rfl, rfl, rfl, rfl, rfl, rfl, rfl, rfl, trivial⟩) ?_
  clear H h237
  rintro s80 a w81 h H
  replace h := h238 s80 w81 h
  clear h238
  replace H : Has 101 [] a [(0, (.i d1)), (1, m2.v), (2, (.string k3)), (7, t49.v), (8, (.i f50)), (9, (.i n51)), (10, (.pointer (some (blk b65)))), (11, (.pointer (some (blk b74)))), (29, m2.v), (30, (.i (m2.l : Int))), (31, (.i s80))] := H
  refine c_seq fun K84 hK84 => c_reg <| s_bin H rfl rfl rfl r_lss (lt_ rfl) fun a H => c_nil <| hK84 _ _ <| c_seq fun K85 hK85 => c_cond H rfl (fun h86 => ?_) (fun h86 => ?_)
  ·replace h := h.1 h86
   refine c_skip <| hK85 _ _ <| c_seq fun K87 hK87 => ?_
   obtain ⟨R88, h, h191⟩ := h
   have h90 : ∀ (a : Act) (w89 : World), R88 w89 → Has 101 [] a [(0, (.i d1)), (1, m2.v), (2, (.string k3)), (7, t49.v), (8, (.i f50)), (9, (.i n51)), (10, (.pointer (some (blk b65)))), (11, (.pointer (some (blk b74)))), (29, m2.v), (30, (.i (m2.l : Int))), (31, (.i s80))] → K87 a w89 := by
    clear h
    intro a w89 h H
    replace h := h191 w89 h
    refine hK87 _ _ <| c_reg <| s_bin H rfl rfl rfl r_add (lt_ rfl) fun a H => s_move H rfl rfl (lt_ rfl) fun a H => c_nil <| Exists.intro (wr .i64 (s80 + 1)) ⟨h.1, h.2, H.weaken ⟨rfl, rfl, rfl, rfl, rfl, rfl, rfl, rfl, rfl, rfl, rfl, trivial⟩⟩
   clear h191
   refine c_block <| c_seq fun K91 hK91 => c_reg ?_
   obtain ⟨a92, h93, h94, h95, h⟩ := h
   refine s_idxS (s := m2) H rfl rfl rfl slc_22 h93 h94 h95 (lt_ rfl) fun a H => ?_
   obtain ⟨K96, hc97, F98, hc99, B100, hc101, C102, hc103, C104, hc105, h⟩ := h
   refine s_loadN (l := [(.i K96), (.bool F98), (.bool B100), (.i C102), (.i C104)]) H rfl rfl agg_32 rfl ⟨hc97, hc99, hc101, hc103, hc105, trivial⟩ (lt_ rfl) fun a H => ?_
   replace h := h.get
   obtain ⟨b106, w107, n108, h⟩ := h
   refine s_alloc H rfl zero_32 (lt_ rfl) ?_
   rw [← n108.at_]
   clear H a
   intro a H
   refine n108.go <| s_stoN (l := [(.i K96), (.bool F98), (.bool B100), (.i C102), (.i C104)]) H rfl rfl rfl rfl agg_32 rfl rfl h ?_
   clear h H
   intro w109 h H
   refine c_nil <| hK91 _ _ <| c_seq fun K110 hK110 => c_seq fun K111 hK111 => ?_
   obtain ⟨R113, h, h190⟩ := h
   have h157 : ∀ (a : Act) (s112 : Bool) (w114 : World), R113 s112 w114 → Has 101 [] a [(0, (.i d1)), (1, m2.v), (2, (.string k3)), (7, t49.v), (8, (.i f50)), (9, (.i n51)), (10, (.pointer (some (blk b65)))), (11, (.pointer (some (blk b74)))), (13, (.pointer (some (blk b106)))), (29, m2.v), (30, (.i (m2.l : Int))), (31, (.i s80)), (45, (.bool s112))] → K111 a w114 := by
    clear h
    intro a s112 w114 h H
    replace h := h190 s112 w114 h
    refine hK111 _ _ <| c_cond H rfl (fun h115 => ?_) (fun h115 => ?_)
    ·replace h := h.1 h115
     refine c_exit ?_
     first | (simp only [Exit.then, Exit.inBlock, ↓reduceIte]; fail_if_success simp only [Nat.reduceEqDiff]) | simp only [Exit.then, Exit.inBlock, ↓reduceIte, Nat.reduceEqDiff]
     exact h90 _ _ h (H.weaken ⟨rfl, rfl, rfl, rfl, rfl, rfl, rfl, rfl, rfl, rfl, rfl, trivial⟩)
    ·replace h := h.2 h115
     refine c_skip <| hK110 _ _ <| c_seq fun K116 hK116 => c_reg <| s_fld H rfl rfl fld_37_1 (lt_ rfl) fun a H => ?_
     obtain ⟨l117, hc118, h⟩ := h
     refine s_load (v := (.bool l117)) H rfl rfl one_4 hc118 (lt_ rfl) fun a H => s_move H rfl rfl (lt_ rfl) fun a H => ?_
     obtain ⟨x123, h124, h125, h⟩ := h
     refine g_join (n := 101) [(51, (.bool x123)), (0, (.i d1)), (1, m2.v), (2, (.string k3)), (7, t49.v), (8, (.i f50)), (9, (.i n51)), (10, (.pointer (some (blk b65)))), (11, (.pointer (some (blk b74)))), (13, (.pointer (some (blk b106)))), (29, m2.v), (30, (.i (m2.l : Int))), (31, (.i s80))] (.succ (.succ (.succ (.zero _)))) ?_ ?_
     ·intro h120
      try clear h
      rcases Bool.eq_false_or_eq_true l117 with h119 | h119
      ·replace H := H.ch (t := 48) (b := true) rfl h119
       refine s_skip H (wantN H rfl rfl rfl) rfl (lt_ rfl) fun a H => s_skip H (wantN H rfl rfl rfl) rfl (lt_ rfl) fun a H => s_pickT H rfl rfl rfl (lt_ rfl) fun a H => ?_
       replace h := h125 h119
       subst h
       exact h120 _ (H.weaken ⟨rfl, rfl, rfl, rfl, rfl, rfl, rfl, rfl, rfl, rfl, rfl, rfl, rfl, trivial⟩)
      ·replace H := H.ch (t := 48) (b := false) rfl h119
       replace h := h124 h119
       refine s_fld H (wantG H rfl rfl) rfl fld_32_1 (lt_ rfl) fun a H => ?_
       obtain ⟨l121, hc122, h⟩ := h
       refine s_load (v := (.bool l121)) H (wantG H rfl rfl) rfl one_4 hc122 (lt_ rfl) fun a H => s_pickF H rfl rfl rfl (lt_ rfl) fun a H => ?_
       subst h
       exact h120 _ (H.weaken ⟨rfl, rfl, rfl, rfl, rfl, rfl, rfl, rfl, rfl, rfl, rfl, rfl, rfl, trivial⟩)
     ·clear H a
      clear h124 h125
      intro a H
      refine s_fld H rfl rfl fld_37_1 (lt_ rfl) fun a H => ?_
      obtain ⟨h127, h128, h⟩ := h
      refine s_sto (p := (blk b74).add 2) (v := (.bool x123)) H rfl rfl rfl rfl one_4 rfl h127 h128 ?_
      clear H
      intro H
      generalize hww126 : World.setCell w114 ((blk b74).add 2) (.bool x123) = w126 at h ⊢
      have w126S : SetAt w114 ((blk b74).add 2) (.bool x123) w126 := ⟨hww126.symm⟩
      clear hww126 h127 h128
      refine c_nil <| hK116 _ _ <| c_seq fun K129 hK129 => c_reg <| s_fld H rfl rfl fld_32_2 (lt_ rfl) fun a H => ?_
      obtain ⟨l130, hc131, h⟩ := h
      refine s_load (v := (.bool l130)) H rfl rfl one_4 hc131 (lt_ rfl) fun a H => s_move H rfl rfl (lt_ rfl) fun a H => ?_
      obtain ⟨x136, h137, h138, h⟩ := h
      refine g_join (n := 101) [(59, (.bool x136)), (0, (.i d1)), (1, m2.v), (2, (.string k3)), (7, t49.v), (8, (.i f50)), (9, (.i n51)), (10, (.pointer (some (blk b65)))), (11, (.pointer (some (blk b74)))), (29, m2.v), (30, (.i (m2.l : Int))), (31, (.i s80))] (.succ (.succ (.succ (.succ (.zero _))))) ?_ ?_
      ·intro h133
       try clear h
       rcases Bool.eq_false_or_eq_true l130 with h132 | h132
       ·replace H := H.ch (t := 55) (b := true) rfl h132
        iterate 3 refine s_skip H (wantN H rfl rfl rfl) rfl (lt_ rfl) fun a H => ?_
        refine s_pickT H rfl rfl rfl (lt_ rfl) fun a H => ?_
        replace h := h138 h132
        subst h
        exact h133 _ (H.weaken ⟨rfl, rfl, rfl, rfl, rfl, rfl, rfl, rfl, rfl, rfl, rfl, rfl, trivial⟩)
       ·replace H := H.ch (t := 55) (b := false) rfl h132
        replace h := h137 h132
        refine s_fld H (wantG H rfl rfl) rfl fld_32_1 (lt_ rfl) fun a H => ?_
        obtain ⟨l134, hc135, h⟩ := h
        refine s_load (v := (.bool l134)) H (wantG H rfl rfl) rfl one_4 hc135 (lt_ rfl) fun a H => s_un H (wantG H rfl rfl) rfl r_not (lt_ rfl) fun a H => s_pickF H rfl rfl rfl (lt_ rfl) fun a H => ?_
        subst h
        exact h133 _ (H.weaken ⟨rfl, rfl, rfl, rfl, rfl, rfl, rfl, rfl, rfl, rfl, rfl, rfl, trivial⟩)
      ·clear H a
       clear h137 h138
       intro a H
       refine c_nil <| hK129 _ _ <| c_cond H rfl (fun h139 => ?_) (fun h139 => ?_)
       ·replace h := h.1 h139
        refine c_seq fun K140 hK140 => c_reg <| s_fld H rfl rfl fld_37_2 (lt_ rfl) fun a H => ?_
        obtain ⟨h142, h143, h⟩ := h
        refine s_sto (p := (blk b74).add 3) (v := (.bool true)) H rfl rfl rfl rfl one_4 rfl h142 h143 ?_
        clear H
        intro H
        generalize hww141 : World.setCell w126 ((blk b74).add 3) (.bool true) = w141 at h ⊢
        have w141S : SetAt w126 ((blk b74).add 3) (.bool true) w141 := ⟨hww141.symm⟩
        clear hww141 h142 h143
        refine c_nil <| hK140 _ _ <| c_reg <| s_move H rfl rfl (lt_ rfl) fun a H => ?_
        obtain ⟨C144, hc145, C146, hc147, h⟩ := h
        refine s_loadN (l := [(.i C144), (.i C146)]) H rfl rfl agg_29 rfl ⟨hc145, hc147, trivial⟩ (lt_ rfl) fun a H => s_call H rfl body_29 (H.args (vs := [(.string k3), (.agg #[(.i C144), (.i C146)])]) rfl) (lt_ rfl) h ?_ (fun c w' h H => e_panic (P := PP) (fn := Try.f18) H h)
        clear H h a
        rintro _ w148 a ⟨d149, rfl, h⟩ H
        refine s_fld H rfl rfl fld_37_3 (lt_ rfl) fun a H => ?_
        obtain ⟨h151, h152, h⟩ := h
        refine s_sto (p := (blk b74).add 4) (v := d149.v) H rfl rfl rfl rfl one_35 rfl h151 h152 ?_
        clear H
        intro H
        generalize hww150 : World.setCell w148 ((blk b74).add 4) d149.v = w150 at h ⊢
        have w150S : SetAt w148 ((blk b74).add 4) d149.v w150 := ⟨hww150.symm⟩
        clear hww150 h151 h152
        refine c_nil ?_
        exact h90 _ _ h (H.weaken ⟨rfl, rfl, rfl, rfl, rfl, rfl, rfl, rfl, rfl, rfl, rfl, trivial⟩)
       ·replace h := h.2 h139
        refine c_skip ?_
        exact h90 _ _ h (H.weaken ⟨rfl, rfl, rfl, rfl, rfl, rfl, rfl, rfl, rfl, rfl, rfl, trivial⟩)
   clear h190
   replace H := H.weaken (L' := [(0, (.i d1)), (1, m2.v), (2, (.string k3)), (7, t49.v), (8, (.i f50)), (9, (.i n51)), (10, (.pointer (some (blk b65)))), (11, (.pointer (some (blk b74)))), (13, (.pointer (some (blk b106)))), (29, m2.v), (30, (.i (m2.l : Int))), (31, (.i s80))]) ⟨rfl, rfl, rfl, rfl, rfl, rfl, rfl, rfl, rfl, rfl, rfl, rfl, trivial⟩
   obtain ⟨l158, hc159, h⟩ := h
   refine c_any (V := [(0, (.pointer (some ((blk b106).add 0)))), (1, (.i l158)), (3, (.string k3))]) (⟨[[], [0], [1], [], [2, 3], [2, 4], [5], [5, 6], [5], [5, 7, 8], [5, 9]], [some 35, some 36, some 37, some 38, some 39, some 40, some 41, some 42, some 43, some 44, some 45], [2, 7], [0, 0, 0, 0, 1, 1, 1, 1, 1, 2, 2], [0, 0, 1, 1, 1, 1, 1, 2, 2, 2, 2]⟩ : Rg) [(0, (.i d1)), (1, m2.v), (2, (.string k3)), (7, t49.v), (8, (.i f50)), (9, (.i n51)), (10, (.pointer (some (blk b65)))), (11, (.pointer (some (blk b74)))), (13, (.pointer (some (blk b106)))), (29, m2.v), (30, (.i (m2.l : Int))), (31, (.i s80))] mixed (by kernel_rfl) H ?_
   refine Stg.eff [0, 1, 3] (by kernel_rfl) rfl (.cons ?_ (.cons ?_ (.cons ?_ .nil))) ?_
   ·refine Ans.mk rfl rfl fun a H => s_fld H rfl rfl fld_32_0 (lt_ rfl) fun a H => ?_
    exact Ans.fin H rfl
   ·refine Ans.mk rfl rfl fun a H => s_load (v := (.i l158)) H rfl rfl one_3 hc159 (lt_ rfl) fun a H => ?_
    exact Ans.fin H rfl
   ·refine Ans.mk rfl rfl fun a H => s_move H rfl rfl (lt_ rfl) fun a H => ?_
    exact Ans.fin H rfl
   ·intro a H
    replace H := H.weaken (L' := [(36, (.i l158))]) ⟨rfl, trivial⟩
    refine s_call H rfl body_11 (H.args (vs := [(.i l158)]) rfl) (lt_ rfl) h ?_ (fun c w' h H => e_panic (P := PP) (fn := Try.f18) H h)
    clear H h a
    rintro _ w160 a ⟨k161, rfl, h⟩ H
    refine c_nil ?_
    rcases Bool.eq_false_or_eq_true (decide (k161.toList ≠ k3.toList)) with h162 | h162
    ·replace h := h.1 h162
     refine effQ.go [(4, (.bool (decide (k161.toList ≠ k3.toList)))), (5, (.bool (decide (k161.toList ≠ k3.toList)))), (6, undef), (8, undef)] H rfl rfl <| Stg.eff [3, 4, 5, 6, 8] (by kernel_rfl) rfl (.cons ?_ (.cons ?_ (.cons ?_ (.cons ?_ (.cons ?_ .nil))))) ?_
     ·refine Ans.mk rfl rfl fun a H => s_move H rfl rfl (lt_ rfl) fun a H => ?_
      exact Ans.fin H rfl
     ·refine Ans.mk rfl rfl fun a H => s_bin H rfl rfl rfl r_neqS (lt_ rfl) fun a H => ?_
      exact Ans.fin H rfl
     ·refine Ans.mk rfl rfl fun a H => s_move H rfl rfl (lt_ rfl) fun a H => ?_
      exact Ans.fin H rfl
     ·exact .skip rfl rfl rfl rfl rfl rfl h162 rfl
     ·exact .skip rfl rfl rfl rfl rfl rfl h162 rfl
     ·intro a H
      replace H := H.weaken (L' := [(40, (.bool (decide (k161.toList ≠ k3.toList)))), (41, undef)]) ⟨rfl, rfl, trivial⟩
      replace H := H.ch (t := 40) (b := true) rfl h162
      refine s_skip H (wantN H rfl rfl rfl) rfl (lt_ rfl) fun a H => c_nil <| effQ.go [(9, undef), (10, (.bool true))] H rfl rfl <| Stg.fin [8, 9, 10] (by kernel_rfl) (.cons ?_ (.cons ?_ (.cons ?_ .nil))) ?_
      ·exact .skip rfl rfl rfl rfl rfl rfl h162 rfl
      ·exact .skip rfl rfl rfl rfl rfl rfl h162 rfl
      ·refine Ans.mk rfl rfl fun a H => ?_
       replace H := H.ch (t := 40) (b := true) rfl h162
       refine s_pickT H rfl rfl rfl (lt_ rfl) fun a H => ?_
       exact Ans.fin H rfl
      ·intro a H
       replace H := H.weaken (L' := [(0, (.i d1)), (1, m2.v), (2, (.string k3)), (7, t49.v), (8, (.i f50)), (9, (.i n51)), (10, (.pointer (some (blk b65)))), (11, (.pointer (some (blk b74)))), (13, (.pointer (some (blk b106)))), (29, m2.v), (30, (.i (m2.l : Int))), (31, (.i s80)), (45, (.bool true))]) ⟨rfl, rfl, rfl, rfl, rfl, rfl, rfl, rfl, rfl, rfl, rfl, rfl, rfl, trivial⟩
       exact h157 _ _ _ h (H.weaken ⟨rfl, rfl, rfl, rfl, rfl, rfl, rfl, rfl, rfl, rfl, rfl, rfl, rfl, trivial⟩)
    ·replace h := h.2 h162
     obtain ⟨K163, hc164, F165, hc166, B167, hc168, C169, hc170, C171, hc172, C173, hc174, C175, hc176, h⟩ := h
     refine effQ.go [(4, (.bool (decide (k161.toList ≠ k3.toList)))), (5, (.bool (decide (k161.toList ≠ k3.toList)))), (6, (.agg #[(.i K163), (.bool F165), (.bool B167), (.i C169), (.i C171)])), (8, (.agg #[(.i C173), (.i C175)]))] H rfl rfl <| Stg.eff [3, 4, 5, 6, 8] (by kernel_rfl) rfl (.cons ?_ (.cons ?_ (.cons ?_ (.cons ?_ (.cons ?_ .nil))))) ?_
     ·refine Ans.mk rfl rfl fun a H => s_move H rfl rfl (lt_ rfl) fun a H => ?_
      exact Ans.fin H rfl
     ·refine Ans.mk rfl rfl fun a H => s_bin H rfl rfl rfl r_neqS (lt_ rfl) fun a H => ?_
      exact Ans.fin H rfl
     ·refine Ans.mk rfl rfl fun a H => s_move H rfl rfl (lt_ rfl) fun a H => ?_
      exact Ans.fin H rfl
     ·refine Ans.mk rfl rfl fun a H => ?_
      replace H := H.ch (t := 40) (b := false) rfl h162
      refine s_loadN (l := [(.i K163), (.bool F165), (.bool B167), (.i C169), (.i C171)]) H (wantG H rfl rfl) rfl agg_32 rfl ⟨hc164, hc166, hc168, hc170, hc172, trivial⟩ (lt_ rfl) fun a H => ?_
      exact Ans.fin H rfl
     ·refine Ans.mk rfl rfl fun a H => ?_
      replace H := H.ch (t := 40) (b := false) rfl h162
      refine s_loadN (l := [(.i C173), (.i C175)]) H (wantG H rfl rfl) rfl agg_29 rfl ⟨hc174, hc176, trivial⟩ (lt_ rfl) fun a H => ?_
      exact Ans.fin H rfl
     ·intro a H
      replace H := H.weaken (L' := [(40, (.bool (decide (k161.toList ≠ k3.toList)))), (41, (.agg #[(.i K163), (.bool F165), (.bool B167), (.i C169), (.i C171)]))]) ⟨rfl, rfl, trivial⟩
      replace H := H.ch (t := 40) (b := false) rfl h162
      refine s_call H (wantG H rfl rfl) body_28 (H.args (vs := [(.agg #[(.i K163), (.bool F165), (.bool B167), (.i C169), (.i C171)])]) rfl) (lt_ rfl) h ?_ (fun c w' h H => e_panic (P := PP) (fn := Try.f18) H h)
      clear H h a
      rintro _ w177 a ⟨C178, C179, rfl, h⟩ H
      refine c_nil ?_
      obtain ⟨hc180, hc181, h⟩ := h
      refine effQ.go [(9, (.bool (!(decide (C178 = C173) && (decide (C179 = C175)))))), (10, (.bool (!(decide (C178 = C173) && (decide (C179 = C175))))))] H rfl rfl <| Stg.fin [8, 9, 10] (by kernel_rfl) (.cons ?_ (.cons ?_ (.cons ?_ .nil))) ?_
      ·refine Ans.mk rfl rfl fun a H => ?_
       replace H := H.ch (t := 40) (b := false) rfl h162
       refine s_loadN (l := [(.i C173), (.i C175)]) H (wantG H rfl rfl) rfl agg_29 rfl ⟨hc180, hc181, trivial⟩ (lt_ rfl) fun a H => ?_
       exact Ans.fin H rfl
      ·refine Ans.mk rfl rfl fun a H => ?_
       replace H := H.ch (t := 40) (b := false) rfl h162
       refine s_bin H (wantG H rfl rfl) rfl rfl (r_nest eqg_29 (eqst_29 0) rfl) (lt_ rfl) fun a H => ?_
       exact Ans.fin H rfl
      ·refine Ans.mk rfl rfl fun a H => ?_
       replace H := H.ch (t := 40) (b := false) rfl h162
       refine s_pickF H rfl rfl rfl (lt_ rfl) fun a H => ?_
       exact Ans.fin H rfl
      ·intro a H
       replace H := H.weaken (L' := [(0, (.i d1)), (1, m2.v), (2, (.string k3)), (7, t49.v), (8, (.i f50)), (9, (.i n51)), (10, (.pointer (some (blk b65)))), (11, (.pointer (some (blk b74)))), (13, (.pointer (some (blk b106)))), (29, m2.v), (30, (.i (m2.l : Int))), (31, (.i s80)), (45, (.bool (!(decide (C178 = C173) && (decide (C179 = C175))))))]) ⟨rfl, rfl, rfl, rfl, rfl, rfl, rfl, rfl, rfl, rfl, rfl, rfl, rfl, trivial⟩
       exact h157 _ _ _ h (H.weaken ⟨rfl, rfl, rfl, rfl, rfl, rfl, rfl, rfl, rfl, rfl, rfl, rfl, rfl, trivial⟩)
  ·replace h := h.2 h86
   refine c_exit ?_
   first | (simp only [Exit.then, Exit.inBlock, ↓reduceIte]; fail_if_success simp only [Nat.reduceEqDiff]) | simp only [Exit.then, Exit.inBlock, ↓reduceIte, Nat.reduceEqDiff]
   refine hK78 _ _ <| c_seq fun K192 hK192 => ?_
   obtain ⟨R194, h, h236⟩ := h
   have h208 : ∀ (a : Act) (t193 : Slc) (w195 : World), R194 t193 w195 → Has 101 [] a [(0, (.i d1)), (1, m2.v), (2, (.string k3)), (7, t193.v), (8, (.i f50)), (9, (.i n51)), (11, (.pointer (some (blk b74))))] → K192 a w195 := by
    clear h
    intro a t193 w195 h H
    replace h := h236 t193 w195 h
    refine hK192 _ _ <| c_seq fun K196 hK196 => ?_
    obtain ⟨R198, h, h207⟩ := h
    have h202 : ∀ (a : Act) (f197 : Int) (w199 : World), R198 f197 w199 → Has 101 [] a [(0, (.i d1)), (1, m2.v), (2, (.string k3)), (7, t193.v), (8, (.i f197)), (9, (.i n51))] → K196 a w199 := by
     clear h
     intro a f197 w199 h H
     replace h := h207 f197 w199 h
     refine hK196 _ _ <| c_seq fun K200 hK200 => c_reg <| s_move H rfl rfl (lt_ rfl) fun a H => s_move H rfl rfl (lt_ rfl) fun a H => s_bin H rfl rfl rfl r_gtr (lt_ rfl) fun a H => c_nil <| hK200 _ _ <| c_cond H rfl (fun h201 => ?_) (fun h201 => ?_)
     ·replace h := h.1 h201
      refine c_exit ?_
      first | (simp only [Exit.then, Exit.inBlock, ↓reduceIte]; fail_if_success simp only [Nat.reduceEqDiff]) | simp only [Exit.then, Exit.inBlock, ↓reduceIte, Nat.reduceEqDiff]
      exact h47 _ _ _ h (H.weaken ⟨rfl, trivial⟩)
     ·replace h := h.2 h201
      refine c_skip ?_
      exact h63 _ _ _ _ h (H.weaken ⟨rfl, rfl, rfl, rfl, rfl, rfl, trivial⟩)
    clear h207
    refine c_seq fun K203 hK203 => c_reg <| s_fld H rfl rfl fld_37_1 (lt_ rfl) fun a H => ?_
    obtain ⟨l204, hc205, h⟩ := h
    refine s_load (v := (.bool l204)) H rfl rfl one_4 hc205 (lt_ rfl) fun a H => c_nil <| hK203 _ _ <| c_cond H rfl (fun h206 => ?_) (fun h206 => ?_)
    ·replace h := h.1 h206
     refine c_reg <| s_move H rfl rfl (lt_ rfl) fun a H => s_bin H rfl rfl rfl r_add (lt_ rfl) fun a H => s_assign H rfl rfl (lt_ rfl) fun a H => c_nil ?_
     exact h202 _ _ _ h (H.weaken ⟨rfl, rfl, rfl, rfl, rfl, rfl, trivial⟩)
    ·replace h := h.2 h206
     refine c_skip ?_
     exact h202 _ _ _ h (H.weaken ⟨rfl, rfl, rfl, rfl, rfl, rfl, trivial⟩)
   clear h236
   refine c_seq fun K209 hK209 => c_reg <| s_fld H rfl rfl fld_37_1 (lt_ rfl) fun a H => ?_
   obtain ⟨l210, hc211, h⟩ := h
   refine s_load (v := (.bool l210)) H rfl rfl one_4 hc211 (lt_ rfl) fun a H => s_move H rfl rfl (lt_ rfl) fun a H => ?_
   obtain ⟨x216, h217, h218, h⟩ := h
   refine g_join (n := 101) [(71, (.bool x216)), (0, (.i d1)), (1, m2.v), (2, (.string k3)), (7, t49.v), (8, (.i f50)), (9, (.i n51)), (11, (.pointer (some (blk b74))))] (.succ (.succ (.succ (.zero _)))) ?_ ?_
   ·intro h213
    try clear h
    rcases Bool.eq_false_or_eq_true l210 with h212 | h212
    ·replace H := H.ch (t := 68) (b := true) rfl h212
     refine s_skip H (wantN H rfl rfl rfl) rfl (lt_ rfl) fun a H => s_skip H (wantN H rfl rfl rfl) rfl (lt_ rfl) fun a H => s_pickT H rfl rfl rfl (lt_ rfl) fun a H => ?_
     replace h := h218 h212
     subst h
     exact h213 _ (H.weaken ⟨rfl, rfl, rfl, rfl, rfl, rfl, rfl, rfl, trivial⟩)
    ·replace H := H.ch (t := 68) (b := false) rfl h212
     replace h := h217 h212
     refine s_fld H (wantG H rfl rfl) rfl fld_37_2 (lt_ rfl) fun a H => ?_
     obtain ⟨l214, hc215, h⟩ := h
     refine s_load (v := (.bool l214)) H (wantG H rfl rfl) rfl one_4 hc215 (lt_ rfl) fun a H => s_pickF H rfl rfl rfl (lt_ rfl) fun a H => ?_
     subst h
     exact h213 _ (H.weaken ⟨rfl, rfl, rfl, rfl, rfl, rfl, rfl, rfl, trivial⟩)
   ·clear H a
    clear h217 h218
    intro a H
    refine c_nil <| hK209 _ _ <| c_cond H rfl (fun h219 => ?_) (fun h219 => ?_)
    ·replace h := h.1 h219
     refine c_reg <| s_move H rfl rfl (lt_ rfl) fun a H => ?_
     obtain ⟨C220, hc221, C222, hc223, F224, hc225, H226, hc227, D228, hc229, h⟩ := h
     refine s_loadN (l := [(.i C220), (.i C222), (.bool F224), (.bool H226), D228.v]) H rfl rfl agg_37 rfl ⟨hc221, hc223, hc225, hc227, hc229, trivial⟩ (lt_ rfl) fun a H => ?_
     replace h := h.get
     obtain ⟨b230, w231, n232, h⟩ := h
     refine s_bslc H rfl (by rw [H.parts (vs := [(0, (.agg #[(.i C220), (.i C222), (.bool F224), (.bool H226), D228.v]))]) rfl]; exact bs_42_1_ii64ii64bbs0 w81 C220 C222 F224 H226 D228) (lt_ rfl) ?_
     rw [← n232.at_]
     clear H a
     intro a H
     refine n232.go ?_
     obtain ⟨s233, w234, h235, h⟩ := h
     refine s_blt H rfl (H.args (vs := [t49.v, (Slc.v (Slc.mk (some (blk b230)) 1 1))]) rfl) (lt_ rfl) (fun cs => b_app (z := s233) h235) ?_
     clear H a h235
     intro a H
     refine s_assign H rfl rfl (lt_ rfl) fun a H => c_nil ?_
     exact h208 _ _ _ h (H.weaken ⟨rfl, rfl, rfl, rfl, rfl, rfl, rfl, trivial⟩)
    ·replace h := h.2 h219
     refine c_skip ?_
     exact h208 _ _ _ h (H.weaken ⟨rfl, rfl, rfl, rfl, rfl, rfl, rfl, trivial⟩)
 ·replace h := h.2 h57
  refine c_exit ?_
  first | (simp only [Exit.then, Exit.inBlock, ↓reduceIte]; fail_if_success simp only [Nat.reduceEqDiff]) | simp only [Exit.then, Exit.inBlock, ↓reduceIte, Nat.reduceEqDiff]
  exact h47 _ _ _ h (H.weaken ⟨rfl, trivial⟩)

theorem sim_sherdlaw15_sameEntries (a1 b2 : Slc) (w : World) (Q : Ending → World → Prop) (h : vc_sherdlaw15_sameEntries a1 b2 w Q) : Calls PP F_sherdlaw15_sameEntries #[a1.v, b2.v] w Q := by
 unfold vc_sherdlaw15_sameEntries at h
 refine enter (n := 27) Try.func19 rfl rfl (Nat.le_of_ble_eq_true rfl) fun a H => c_seq fun K3 hK3 => c_reg <| s_assign H rfl rfl (lt_ rfl) fun a H => c_nil <| hK3 _ _ <| c_seq fun K4 hK4 => c_seq fun K5 hK5 => c_reg <| s_move H rfl rfl (lt_ rfl) fun a H => s_blt H rfl (H.args (vs := [a1.v]) rfl) (lt_ rfl) (fun cs => b_lenS (z := a1) sl_42) fun a H => s_move H rfl rfl (lt_ rfl) fun a H => s_blt H rfl (H.args (vs := [b2.v]) rfl) (lt_ rfl) (fun cs => b_lenS (z := b2) sl_42) fun a H => ?_
 refine s_bin H rfl rfl rfl r_neq (lt_ rfl) fun a H => c_nil <| hK5 _ _ <| c_cond H rfl (fun h6 => ?_) (fun h6 => ?_)
 ·replace h := h.1 h6
  refine c_seq fun K7 hK7 => c_reg <| s_assign H rfl rfl (lt_ rfl) fun a H => c_nil <| hK7 _ _ <| c_ret ?_
  exact e_ret1 H rfl rfl h
 ·replace h := h.2 h6
  refine c_skip <| hK4 _ _ <| c_seq fun K8 hK8 => c_seq fun K9 hK9 => c_reg <| s_move H rfl rfl (lt_ rfl) fun a H => s_blt H rfl (H.args (vs := [a1.v]) rfl) (lt_ rfl) (fun cs => b_lenS (z := a1) sl_42) fun a H => s_move H rfl rfl (lt_ rfl) fun a H => c_nil <| hK9 _ _ <| c_block ?_
  obtain ⟨I12, m13, h57, h58⟩ := h
  refine c_loop (σ := Int) (fun z w => I12 z w) (fun z w => m13 z w) (fun z => [(0, a1.v), (1, b2.v), (12, (.i (a1.l : Int))), (13, (.i z))]) 0 h57 (H.weaken ⟨rfl, rfl, rfl, rfl, trivial⟩) ?_
  clear H h57
  rintro s10 a w11 h H
  replace h := h58 s10 w11 h
  clear h58
  replace H : Has 27 [] a [(0, a1.v), (1, b2.v), (12, (.i (a1.l : Int))), (13, (.i s10))] := H
  refine c_seq fun K14 hK14 => c_reg <| s_bin H rfl rfl rfl r_lss (lt_ rfl) fun a H => c_nil <| hK14 _ _ <| c_seq fun K15 hK15 => c_cond H rfl (fun h16 => ?_) (fun h16 => ?_)
  ·replace h := h.1 h16
   refine c_skip <| hK15 _ _ <| c_seq fun K17 hK17 => c_block <| c_seq fun K18 hK18 => c_reg <| s_move H rfl rfl (lt_ rfl) fun a H => s_assign H rfl rfl (lt_ rfl) fun a H => c_nil <| hK18 _ _ <| c_seq fun K19 hK19 => ?_
   replace H := H.weaken (L' := [(0, a1.v), (1, b2.v), (5, (.i s10)), (12, (.i (a1.l : Int))), (13, (.i s10))]) ⟨rfl, rfl, rfl, rfl, rfl, trivial⟩
   obtain ⟨a20, h21, h22, h23, C24, hc25, C26, hc27, F28, hc29, H30, hc31, D32, hc33, a34, h35, h36, h37, C38, hc39, C40, hc41, F42, hc43, H44, hc45, D46, hc47, h⟩ := h
   refine c_any (V := [(0, a1.v), (1, (.i s10)), (2, (.pointer (some (a20.add (Int.toNat (s10) * 5))))), (3, (.agg #[(.i C24), (.i C26), (.bool F28), (.bool H30), D32.v])), (4, b2.v), (5, (.i s10)), (6, (.pointer (some (a34.add (Int.toNat (s10) * 5))))), (7, (.agg #[(.i C38), (.i C40), (.bool F42), (.bool H44), D46.v]))]) (⟨[[], [], [0, 1], [2], [], [], [4, 5], [6], [3, 7], [8]], [some 16, some 17, some 18, some 19, some 20, some 21, some 22, some 23, some 24, some 25], [8], [0, 0, 0, 0, 0, 0, 0, 0, 0, 1], [0, 0, 0, 0, 0, 0, 0, 0, 1, 1]⟩ : Rg) [(0, a1.v), (1, b2.v), (5, (.i s10)), (12, (.i (a1.l : Int))), (13, (.i s10))] mixed (by kernel_rfl) H ?_
   refine Stg.eff [0, 1, 2, 3, 4, 5, 6, 7] (by kernel_rfl) rfl (.cons ?_ (.cons ?_ (.cons ?_ (.cons ?_ (.cons ?_ (.cons ?_ (.cons ?_ (.cons ?_ .nil)))))))) ?_
   ·refine Ans.mk rfl rfl fun a H => s_move H rfl rfl (lt_ rfl) fun a H => ?_
    exact Ans.fin H rfl
   ·refine Ans.mk rfl rfl fun a H => s_move H rfl rfl (lt_ rfl) fun a H => ?_
    exact Ans.fin H rfl
   ·refine Ans.mk rfl rfl fun a H => s_idxS (s := a1) H rfl rfl rfl slc_42 h21 h22 h23 (lt_ rfl) fun a H => ?_
    exact Ans.fin H rfl
   ·refine Ans.mk rfl rfl fun a H => s_loadN (l := [(.i C24), (.i C26), (.bool F28), (.bool H30), D32.v]) H rfl rfl agg_37 rfl ⟨hc25, hc27, hc29, hc31, hc33, trivial⟩ (lt_ rfl) fun a H => ?_
    exact Ans.fin H rfl
   ·refine Ans.mk rfl rfl fun a H => s_move H rfl rfl (lt_ rfl) fun a H => ?_
    exact Ans.fin H rfl
   ·refine Ans.mk rfl rfl fun a H => s_move H rfl rfl (lt_ rfl) fun a H => ?_
    exact Ans.fin H rfl
   ·refine Ans.mk rfl rfl fun a H => s_idxS (s := b2) H rfl rfl rfl slc_42 h35 h36 h37 (lt_ rfl) fun a H => ?_
    exact Ans.fin H rfl
   ·refine Ans.mk rfl rfl fun a H => s_loadN (l := [(.i C38), (.i C40), (.bool F42), (.bool H44), D46.v]) H rfl rfl agg_37 rfl ⟨hc39, hc41, hc43, hc45, hc47, trivial⟩ (lt_ rfl) fun a H => ?_
    exact Ans.fin H rfl
   ·intro a H
    replace H := H.weaken (L' := [(19, (.agg #[(.i C24), (.i C26), (.bool F28), (.bool H30), D32.v])), (23, (.agg #[(.i C38), (.i C40), (.bool F42), (.bool H44), D46.v]))]) ⟨rfl, rfl, trivial⟩
    refine s_call H rfl body_40 (H.args (vs := [(.agg #[(.i C24), (.i C26), (.bool F28), (.bool H30), D32.v]), (.agg #[(.i C38), (.i C40), (.bool F42), (.bool H44), D46.v])]) rfl) (lt_ rfl) h ?_ (fun c w' h H => e_panic (P := PP) (fn := Try.f19) H h)
    clear H h a
    rintro _ w48 a ⟨s49, rfl, h⟩ H
    refine c_nil <| effQ.go [(9, (.bool (!s49)))] H rfl rfl <| Stg.fin [9] (by kernel_rfl) (.cons ?_ .nil) ?_
    ·refine Ans.mk rfl rfl fun a H => s_un H rfl rfl r_not (lt_ rfl) fun a H => ?_
     exact Ans.fin H rfl
    ·intro a H
     replace H := H.weaken (L' := [(0, a1.v), (1, b2.v), (12, (.i (a1.l : Int))), (13, (.i s10)), (25, (.bool (!s49)))]) ⟨rfl, rfl, rfl, rfl, rfl, trivial⟩
     refine hK19 _ _ <| c_cond H rfl (fun h50 => ?_) (fun h50 => ?_)
     ·replace h := h.1 h50
      refine c_seq fun K51 hK51 => c_reg <| s_assign H rfl rfl (lt_ rfl) fun a H => c_nil <| hK51 _ _ <| c_ret ?_
      exact e_ret1 H rfl rfl h
     ·replace h := h.2 h50
      refine c_skip <| hK17 _ _ <| c_reg <| s_bin H rfl rfl rfl r_add (lt_ rfl) fun a H => s_move H rfl rfl (lt_ rfl) fun a H => c_nil <| Exists.intro (wr .i64 (s10 + 1)) ⟨h.1, h.2, H.weaken ⟨rfl, rfl, rfl, rfl, trivial⟩⟩
  ·replace h := h.2 h16
   refine c_exit ?_
   first | (simp only [Exit.then, Exit.inBlock, ↓reduceIte]; fail_if_success simp only [Nat.reduceEqDiff]) | simp only [Exit.then, Exit.inBlock, ↓reduceIte, Nat.reduceEqDiff]
   refine hK8 _ _ <| c_seq fun K56 hK56 => c_reg <| s_assign H rfl rfl (lt_ rfl) fun a H => c_nil <| hK56 _ _ <| c_ret ?_
   exact e_ret1 H rfl rfl h
end Go.Proofs.Ytgnceldnfefnmaa
