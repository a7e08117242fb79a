/-
  The conditions give the machine's calls; printed by vcgen.py.
-/
import Derived.Test.YtgnceldnfefnmaaRecVc
namespace Go.Proofs.Ytgnceldnfefnmaa
open Go Go.Vc
set_option maxRecDepth 100000
set_option maxHeartbeats 4000000
theorem sim_sherdlaw15_taken (w : World) (Q : Ending → World → Prop) (h : vc_sherdlaw15_taken w Q) : Calls PP F_sherdlaw15_taken #[] w Q := by
 unfold vc_sherdlaw15_taken at h
 refine enter (n := 86) Try.func16 rfl rfl (Nat.le_of_ble_eq_true rfl) fun a H => c_seq fun K1 hK1 => c_reg <| s_assign H rfl rfl (lt_ rfl) fun a H => c_nil <| hK1 _ _ <| c_seq fun K2 hK2 => c_reg <| s_call H rfl body_8 (H.args (vs := [(.i 0)]) rfl) (lt_ rfl) h ?_ (fun c w' h H => e_panic (P := PP) (fn := Try.f16) H h)
 clear H h a
 rintro _ w3 a ⟨N4, N5, rfl, h⟩ H
 refine s_move H rfl rfl (lt_ rfl) fun a H => s_ext H rfl rfl rfl (lt_ rfl) fun a H => s_ext H rfl rfl rfl (lt_ rfl) fun a H => s_assign H rfl rfl (lt_ rfl) fun a H => s_assign H rfl rfl (lt_ rfl) fun a H => c_nil <| hK2 _ _ <| c_seq fun K6 hK6 => c_seq fun K7 hK7 => c_reg <| s_move H rfl rfl (lt_ rfl) fun a H => s_bin H rfl rfl rfl r_neq (lt_ rfl) fun a H => s_move H rfl rfl (lt_ rfl) fun a H => ?_
 refine g_join (n := 86) [(18, (.bool ((decide (N5 ≠ 0)) || N4.isNone))), (1, (.pointer N4))] (.succ (.succ (.succ (.zero _)))) ?_ ?_
 ·intro h9
  try clear h
  rcases Bool.eq_false_or_eq_true (decide (N5 ≠ 0)) with h8 | h8
  ·replace H := H.ch (t := 15) (b := true) rfl h8
   refine s_skip H (wantN H rfl rfl rfl) rfl (lt_ rfl) fun a H => s_skip H (wantN H rfl rfl rfl) rfl (lt_ rfl) fun a H => s_pickT H rfl rfl rfl (lt_ rfl) fun a H => ?_
   exact h9 _ (H.weaken ⟨by rw [h8]; rfl, rfl, trivial⟩)
  ·replace H := H.ch (t := 15) (b := false) rfl h8
   refine s_move H (wantG H rfl rfl) rfl (lt_ rfl) fun a H => s_bin H (wantG H rfl rfl) rfl rfl (r_eqP0 ptr_24) (lt_ rfl) fun a H => s_pickF H rfl rfl rfl (lt_ rfl) fun a H => ?_
   exact h9 _ (H.weaken ⟨by rw [h8]; rfl, rfl, trivial⟩)
 ·clear H a
  intro a H
  refine c_nil <| hK7 _ _ <| c_cond H rfl (fun h10 => ?_) (fun h10 => ?_)
  ·replace h := h.1 h10
   refine c_seq fun K11 hK11 => c_reg <| s_assign H rfl rfl (lt_ rfl) fun a H => c_nil <| hK11 _ _ <| c_ret ?_
   exact e_ret1 H rfl rfl h
  ·replace h := h.2 h10
   refine c_skip <| hK6 _ _ <| c_seq fun K12 hK12 => c_reg <| s_build H rfl (by rw [H.parts (vs := [(0, (.i 1)), (1, (.i 1))]) rfl]; exact bd_29_ii640_ii641 w3 1 1) (lt_ rfl) fun a H => ?_
   replace h := h.get
   obtain ⟨b13, w14, n15, h⟩ := h
   refine s_alloc H rfl zero_29 (lt_ rfl) ?_
   rw [← n15.at_]
   clear H a
   intro a H
   refine n15.go <| s_stoN (l := [(.i 1), (.i 1)]) H rfl rfl rfl rfl agg_29 rfl rfl h ?_
   clear h H
   intro w16 h H
   refine c_nil <| hK12 _ _ <| c_seq fun K17 hK17 => c_reg <| s_build H rfl (by rw [H.parts (vs := [(0, (.i 2)), (1, (.i 1))]) rfl]; exact bd_29_ii640_ii641 w16 2 1) (lt_ rfl) fun a H => ?_
   replace h := h.get
   obtain ⟨b18, w19, n20, h⟩ := h
   refine s_alloc H rfl zero_29 (lt_ rfl) ?_
   rw [← n20.at_]
   clear H a
   intro a H
   refine n20.go <| s_stoN (l := [(.i 2), (.i 1)]) H rfl rfl rfl rfl agg_29 rfl rfl h ?_
   clear h H
   intro w21 h H
   refine c_nil <| hK17 _ _ <| c_seq fun K22 hK22 => c_reg <| s_move H rfl rfl (lt_ rfl) fun a H => ?_
   obtain ⟨C23, hc24, C25, hc26, h⟩ := h
   refine s_loadN (l := [(.i C23), (.i C25)]) H rfl rfl agg_29 rfl ⟨hc24, hc26, trivial⟩ (lt_ rfl) fun a H => ?_
   replace h := h.get
   obtain ⟨b27, w28, n29, h⟩ := h
   refine s_bslc H rfl (by rw [H.parts (vs := [(0, (.int .u8 120))]) rfl]; exact bs_35_1_iu80 w21 120) (lt_ rfl) ?_
   rw [← n29.at_]
   clear H a
   intro a H
   refine n29.go ?_
   obtain ⟨w31, h30, h⟩ := h
   refine s_cv H rfl rfl h30 (lt_ rfl) ?_
   clear H a h30
   intro a H
   refine s_build H rfl (by rw [H.parts (vs := [(0, (.agg #[(.i C23), (.i C25)])), (3, (Slc.v (Slc.mk (some (blk b27)) 1 1)))]) rfl]; exact bd_37_ii64ii640_s3 w31 C23 C25 (Slc.mk (some (blk b27)) 1 1)) (lt_ rfl) fun a H => ?_
   refine s_build H rfl (by rw [H.parts (vs := [(0, (.i 1)), (1, (.string (ByteArray.mk #[107]))), (2, (.agg #[(.i C23), (.i C25), (.bool false), (.bool false), (Slc.v (Slc.mk (some (blk b27)) 1 1))]))]) rfl]; exact bd_39_ii640_s1_ii64ii64bbs2 w31 1 (ByteArray.mk #[107]) C23 C25 false false (Slc.mk (some (blk b27)) 1 1)) (lt_ rfl) fun a H => ?_
   refine s_call H rfl body_9 (H.args (vs := [(.pointer N4), (.agg #[(.i 1), (.string (ByteArray.mk #[107])), (.i C23), (.i C25), (.bool false), (.bool false), (Slc.v (Slc.mk (some (blk b27)) 1 1))])]) rfl) (lt_ rfl) h ?_ (fun c w' h H => e_panic (P := PP) (fn := Try.f16) H h)
   clear H h a
   rintro _ w32 a ⟨A33, A34, rfl, h⟩ H
   refine s_move H rfl rfl (lt_ rfl) fun a H => s_ext H rfl rfl rfl (lt_ rfl) fun a H => s_ext H rfl rfl rfl (lt_ rfl) fun a H => s_assign H rfl rfl (lt_ rfl) fun a H => s_assign H rfl rfl (lt_ rfl) fun a H => c_nil <| hK22 _ _ <| c_seq fun K35 hK35 => c_reg <| s_move H rfl rfl (lt_ rfl) fun a H => ?_
   obtain ⟨C36, hc37, C38, hc39, h⟩ := h
   refine s_loadN (l := [(.i C36), (.i C38)]) H rfl rfl agg_29 rfl ⟨hc37, hc39, trivial⟩ (lt_ rfl) fun a H => s_build H rfl (by rw [H.parts (vs := [(0, (.agg #[(.i C36), (.i C38)]))]) rfl]; exact bd_37_ii64ii640 w32 C36 C38) (lt_ rfl) fun a H => ?_
   refine s_build H rfl (by rw [H.parts (vs := [(0, (.i 2)), (1, (.string (ByteArray.mk #[107]))), (2, (.agg #[(.i C36), (.i C38), (.bool false), (.bool false), Slc.nil.v]))]) rfl]; exact bd_39_ii640_s1_ii64ii64bbs2 w32 2 (ByteArray.mk #[107]) C36 C38 false false Slc.nil) (lt_ rfl) fun a H => ?_
   refine s_call H rfl body_9 (H.args (vs := [(.pointer N4), (.agg #[(.i 2), (.string (ByteArray.mk #[107])), (.i C36), (.i C38), (.bool false), (.bool false), Slc.nil.v])]) rfl) (lt_ rfl) h ?_ (fun c w' h H => e_panic (P := PP) (fn := Try.f16) H h)
   clear H h a
   rintro _ w40 a ⟨A41, A42, rfl, h⟩ H
   refine s_move H rfl rfl (lt_ rfl) fun a H => s_ext H rfl rfl rfl (lt_ rfl) fun a H => s_ext H rfl rfl rfl (lt_ rfl) fun a H => s_assign H rfl rfl (lt_ rfl) fun a H => s_assign H rfl rfl (lt_ rfl) fun a H => c_nil <| hK35 _ _ <| c_seq fun K43 hK43 => c_seq fun K44 hK44 => ?_
   obtain ⟨R46, h, h150⟩ := h
   have h125 : ∀ (a : Act) (s45 : Bool) (w47 : World), R46 s45 w47 → Has 86 [] a [(1, (.pointer N4)), (4, (.pointer (some (blk b18)))), (63, (.bool s45))] → K44 a w47 := by
    clear h
    intro a s45 w47 h H
    replace h := h150 s45 w47 h
    refine hK44 _ _ <| c_cond H rfl (fun h48 => ?_) (fun h48 => ?_)
    ·replace h := h.1 h48
     refine c_seq fun K49 hK49 => c_reg <| s_assign H rfl rfl (lt_ rfl) fun a H => c_nil <| hK49 _ _ <| c_ret ?_
     exact e_ret1 H rfl rfl h
    ·replace h := h.2 h48
     refine c_skip <| hK43 _ _ <| c_seq fun K50 hK50 => c_reg <| s_move H rfl rfl (lt_ rfl) fun a H => ?_
     obtain ⟨C51, hc52, C53, hc54, h⟩ := h
     refine s_loadN (l := [(.i C51), (.i C53)]) H rfl rfl agg_29 rfl ⟨hc52, hc54, trivial⟩ (lt_ rfl) fun a H => s_build H rfl (by rw [H.parts (vs := [(0, (.agg #[(.i C51), (.i C53)]))]) rfl]; exact bd_37_ii64ii640 w47 C51 C53) (lt_ rfl) fun a H => ?_
     refine s_build H rfl (by rw [H.parts (vs := [(0, (.i 2)), (1, (.string (ByteArray.mk #[107]))), (2, (.agg #[(.i C51), (.i C53), (.bool false), (.bool false), Slc.nil.v]))]) rfl]; exact bd_39_ii640_s1_ii64ii64bbs2 w47 2 (ByteArray.mk #[107]) C51 C53 false false Slc.nil) (lt_ rfl) fun a H => ?_
     refine s_call H rfl body_9 (H.args (vs := [(.pointer N4), (.agg #[(.i 2), (.string (ByteArray.mk #[107])), (.i C51), (.i C53), (.bool false), (.bool false), Slc.nil.v])]) rfl) (lt_ rfl) h ?_ (fun c w' h H => e_panic (P := PP) (fn := Try.f16) H h)
     clear H h a
     rintro _ w55 a ⟨A56, A57, rfl, h⟩ H
     refine c_nil <| hK50 _ _ <| c_seq fun K58 hK58 => ?_
     obtain ⟨R60, h, h120⟩ := h
     have h62 : ∀ (a : Act) (s59 : Bool) (w61 : World), R60 s59 w61 → Has 86 [] a [(0, (.bool s59))] → K58 a w61 := by
      clear h
      intro a s59 w61 h H
      replace h := h120 s59 w61 h
      refine hK58 _ _ <| c_ret ?_
      exact e_ret1 H rfl rfl h
     clear h120
     replace H := H.weaken (L' := [(1, (.pointer N4)), (4, (.pointer (some (blk b18))))]) ⟨rfl, rfl, trivial⟩
     refine c_anyT0 (V := [(0, (.pointer N4))]) 5 (⟨⟨[[], [0], [1], [1, 2], [3], [3, 4], [3], [3, 5, 6], [3, 7], [5, 8], [9], [9, 10], [9], [9, 12], [9, 13], [9, 11, 14], [9, 15], [0, 1, 2, 3, 4, 5, 6, 7, 8, 9, 10, 11, 12, 13, 14, 15, 16]], [some 69, some 70, some 71, some 72, some 73, some 74, some 75, some 76, some 77, some 78, some 79, some 80, some 81, some 82, some 83, some 84, some 85, some 0], [1, 5, 11, 14, 15], [], []⟩, [[], [], [1], [1], [1], [1], [1], [1, 5], [1, 5], [1, 5], [1, 5], [1, 5], [1, 5], [1, 5], [1, 5], [1, 5, 11, 14], [1, 5, 11, 14, 15], [1, 5, 11, 14, 15]], [[1, 5, 11, 14, 15], [5, 11, 14, 15], [5, 11, 14, 15], [5, 11, 14, 15], [5, 11, 14, 15], [11, 14, 15], [11, 14, 15], [11, 14, 15], [11, 14, 15], [11, 14, 15], [11, 15], [15], [14, 15], [14, 15], [15], [], [], []]⟩ : Rh) [(1, (.pointer N4)), (4, (.pointer (some (blk b18))))] mixed (by kernel_rfl) H ?_
     refine StT.more [0] [1] (by kernel_rfl) (by kernel_rfl) (by kernel_rfl) (.cons ?_ .nil) (.cons ?_ .nil)
     ·refine Ans.mk rfl rfl fun a H => s_move H rfl rfl (lt_ rfl) fun a H => ?_
      exact Ans.fin H rfl
     ·refine ⟨_, rfl, fun a H => ?_⟩
      replace H := H.weaken (L' := [(69, (.pointer N4))]) ⟨rfl, trivial⟩
      refine s_call H rfl body_38 (H.args (vs := [(.pointer N4), (.string (ByteArray.mk #[107]))]) rfl) (lt_ rfl) h ?_ (fun c w' h H => e_panic (P := PP) (fn := Try.f16) H h)
      clear H h a
      rintro _ w63 a ⟨F64, rfl, h⟩ H
      refine c_nil ?_
      rcases Bool.eq_false_or_eq_true (decide (F64 = 0)) with h65 | h65
      ·replace h := h.1 h65
       obtain ⟨C66, hc67, C68, hc69, h⟩ := h
       refine effQ.go [(2, (.bool (decide (F64 = 0)))), (3, (.bool (decide (F64 = 0)))), (4, (.pointer N4)), (6, (.agg #[(.i C66), (.i C68)]))] H rfl rfl <| StT.more [2, 3, 4, 6] [5] (by kernel_rfl) (by kernel_rfl) (by kernel_rfl) (.cons ?_ (.cons ?_ (.cons ?_ (.cons ?_ .nil)))) (.cons ?_ .nil)
       ·refine Ans.mk rfl rfl fun a H => s_bin H rfl rfl rfl r_eql (lt_ rfl) fun a H => ?_
        exact Ans.fin H rfl
       ·refine Ans.mk rfl rfl fun a H => s_move H rfl rfl (lt_ rfl) fun a H => ?_
        exact Ans.fin H rfl
       ·refine Ans.mk rfl rfl fun a H => ?_
        replace H := H.ch (t := 72) (b := true) rfl h65
        refine s_move H (wantG H rfl rfl) rfl (lt_ rfl) fun a H => ?_
        exact Ans.fin H rfl
       ·refine Ans.mk rfl rfl fun a H => ?_
        replace H := H.ch (t := 72) (b := true) rfl h65
        refine s_loadN (l := [(.i C66), (.i C68)]) H (wantG H rfl rfl) rfl agg_29 rfl ⟨hc67, hc69, trivial⟩ (lt_ rfl) fun a H => ?_
        exact Ans.fin H rfl
       ·refine ⟨_, rfl, fun a H => ?_⟩
        replace H := H.weaken (L' := [(72, (.bool (decide (F64 = 0)))), (73, (.pointer N4))]) ⟨rfl, rfl, trivial⟩
        replace H := H.ch (t := 72) (b := true) rfl h65
        refine s_call H (wantG H rfl rfl) body_14 (H.args (vs := [(.pointer N4), (.string (ByteArray.mk #[107]))]) rfl) (lt_ rfl) h ?_ (fun c w' h H => e_panic (P := PP) (fn := Try.f16) H h)
        clear H h a
        rintro _ w70 a ⟨C71, C72, rfl, h⟩ H
        refine c_nil ?_
        obtain ⟨hc73, hc74, h⟩ := h
        rcases Bool.eq_false_or_eq_true (decide (C71 = C66) && (decide (C72 = C68))) with h75 | h75
        ·replace h := h.1 h75
         obtain ⟨C76, hc77, C78, hc79, h⟩ := h
         refine effQ.go [(7, (.bool (decide (C71 = C66) && (decide (C72 = C68))))), (8, (.bool (decide (C71 = C66) && (decide (C72 = C68))))), (9, (.bool (decide (C71 = C66) && (decide (C72 = C68))))), (10, (.pointer N4)), (12, (.agg #[(.i C76), (.i C78)])), (13, (.agg #[(.i C76), (.i C78), (.bool true), (.bool false), Slc.nil.v]))] H rfl rfl ?_
         refine StT.more [6, 7, 8, 9, 10, 12, 13] [11, 14] (by kernel_rfl) (by kernel_rfl) (by kernel_rfl) (.cons ?_ (.cons ?_ (.cons ?_ (.cons ?_ (.cons ?_ (.cons ?_ (.cons ?_ .nil))))))) (.cons ?_ (.cons ?_ .nil))
         ·refine Ans.mk rfl rfl fun a H => ?_
          replace H := H.ch (t := 72) (b := true) rfl h65
          refine s_loadN (l := [(.i C66), (.i C68)]) H (wantG H rfl rfl) rfl agg_29 rfl ⟨hc73, hc74, trivial⟩ (lt_ rfl) fun a H => ?_
          exact Ans.fin H rfl
         ·refine Ans.mk rfl rfl fun a H => ?_
          replace H := H.ch (t := 72) (b := true) rfl h65
          refine s_bin H (wantG H rfl rfl) rfl rfl (r_eqst eqg_29 (eqst_29 0) rfl) (lt_ rfl) fun a H => ?_
          exact Ans.fin H rfl
         ·refine Ans.mk rfl rfl fun a H => ?_
          replace H := H.ch (t := 72) (b := true) rfl h65
          refine s_pickT H rfl rfl rfl (lt_ rfl) fun a H => ?_
          exact Ans.fin H rfl
         ·refine Ans.mk rfl rfl fun a H => s_move H rfl rfl (lt_ rfl) fun a H => ?_
          exact Ans.fin H rfl
         ·refine Ans.mk rfl rfl fun a H => ?_
          replace H := H.ch (t := 78) (b := true) rfl h75
          refine s_move H (wantG H rfl rfl) rfl (lt_ rfl) fun a H => ?_
          exact Ans.fin H rfl
         ·refine Ans.mk rfl rfl fun a H => ?_
          replace H := H.ch (t := 78) (b := true) rfl h75
          refine s_loadN (l := [(.i C76), (.i C78)]) H (wantG H rfl rfl) rfl agg_29 rfl ⟨hc77, hc79, trivial⟩ (lt_ rfl) fun a H => ?_
          exact Ans.fin H rfl
         ·refine Ans.mk rfl rfl fun a H => ?_
          replace H := H.ch (t := 78) (b := true) rfl h75
          refine s_build H (wantG H rfl rfl) (by rw [H.parts (vs := [(0, (.agg #[(.i C76), (.i C78)])), (1, (.bool true))]) rfl]; exact bd_37_ii64ii640_b1 w70 C76 C78 true) (lt_ rfl) fun a H => ?_
          exact Ans.fin H rfl
         ·refine ⟨_, rfl, fun a H => ?_⟩
          replace h := h.1
          replace H := H.weaken (L' := [(78, (.bool (decide (C71 = C66) && (decide (C72 = C68))))), (79, (.pointer N4))]) ⟨rfl, rfl, trivial⟩
          replace H := H.ch (t := 78) (b := true) rfl h75
          refine s_call H (wantG H rfl rfl) body_12 (H.args (vs := [(.pointer N4), (.string (ByteArray.mk #[107]))]) rfl) (lt_ rfl) h ?_ (fun c w' h H => e_panic (P := PP) (fn := Try.f16) H h)
          clear H h a
          rintro _ w80 a ⟨E81, rfl, h⟩ H
          refine c_nil ?_
          obtain ⟨hc82, hc83, h⟩ := h
          refine effQ.go [] H rfl rfl <| StT.more [12, 13] [14] (by kernel_rfl) (by kernel_rfl) (by kernel_rfl) (.cons ?_ (.cons ?_ .nil)) (.cons ?_ .nil)
          ·refine Ans.mk rfl rfl fun a H => ?_
           replace H := H.ch (t := 78) (b := true) rfl h75
           refine s_loadN (l := [(.i C76), (.i C78)]) H (wantG H rfl rfl) rfl agg_29 rfl ⟨hc82, hc83, trivial⟩ (lt_ rfl) fun a H => ?_
           exact Ans.fin H rfl
          ·refine Ans.mk rfl rfl fun a H => ?_
           replace H := H.ch (t := 78) (b := true) rfl h75
           refine s_build H (wantG H rfl rfl) (by rw [H.parts (vs := [(0, (.agg #[(.i C76), (.i C78)])), (1, (.bool true))]) rfl]; exact bd_37_ii64ii640_b1 w80 C76 C78 true) (lt_ rfl) fun a H => ?_
           exact Ans.fin H rfl
          ·refine ⟨_, rfl, fun a H => ?_⟩
           replace H := H.weaken (L' := [(78, (.bool (decide (C71 = C66) && (decide (C72 = C68))))), (82, (.agg #[(.i C76), (.i C78), (.bool true), (.bool false), Slc.nil.v]))]) ⟨rfl, rfl, trivial⟩
           replace H := H.ch (t := 78) (b := true) rfl h75
           replace h := h.get
           obtain ⟨b84, w85, n86, h⟩ := h
           refine s_bslc H (wantG H rfl rfl) (by rw [H.parts (vs := [(0, (.agg #[(.i C76), (.i C78), (.bool true), (.bool false), Slc.nil.v]))]) rfl]; exact bs_42_1_ii64ii64bbs0 w80 C76 C78 true false Slc.nil) (lt_ rfl) ?_
           rw [← n86.at_]
           clear H a
           intro a H
           refine n86.go <| c_nil <| effQ.go [] H rfl rfl <| StT.more [] [15] (by kernel_rfl) (by kernel_rfl) (by kernel_rfl) .nil (.cons ?_ .nil)
           ·refine ⟨_, rfl, fun a H => ?_⟩
            replace H := H.weaken (L' := [(78, (.bool (decide (C71 = C66) && (decide (C72 = C68))))), (80, E81.v), (83, (Slc.v (Slc.mk (some (blk b84)) 1 1)))]) ⟨rfl, rfl, rfl, trivial⟩
            replace H := H.ch (t := 78) (b := true) rfl h75
            refine s_call H (wantG H rfl rfl) body_19 (H.args (vs := [E81.v, (Slc.v (Slc.mk (some (blk b84)) 1 1))]) rfl) (lt_ rfl) h ?_ (fun c w' h H => e_panic (P := PP) (fn := Try.f16) H h)
            clear H h a
            rintro _ w87 a ⟨s88, rfl, h⟩ H
            refine c_nil <| effQ.go [(16, (.bool s88)), (17, (.bool s88))] H rfl rfl <| StT.last [16, 17] (by kernel_rfl) (by kernel_rfl) (.cons ?_ (.cons ?_ .nil)) ?_
            ·refine Ans.mk rfl rfl fun a H => ?_
             replace H := H.ch (t := 78) (b := true) rfl h75
             refine s_pickT H rfl rfl rfl (lt_ rfl) fun a H => ?_
             exact Ans.fin H rfl
            ·refine Ans.mk rfl rfl fun a H => s_assign H rfl rfl (lt_ rfl) fun a H => ?_
             exact Ans.fin H rfl
            ·intro a H
             replace H := H.weaken (L' := [(0, (.bool s88))]) ⟨rfl, trivial⟩
             exact h62 _ _ _ h (H.weaken ⟨rfl, trivial⟩)
         ·refine ⟨_, rfl, fun a H => ?_⟩
          replace h := h.2
          replace H := H.weaken (L' := [(78, (.bool (decide (C71 = C66) && (decide (C72 = C68))))), (82, (.agg #[(.i C76), (.i C78), (.bool true), (.bool false), Slc.nil.v]))]) ⟨rfl, rfl, trivial⟩
          replace H := H.ch (t := 78) (b := true) rfl h75
          replace h := h.get
          obtain ⟨b97, w98, n99, h⟩ := h
          refine s_bslc H (wantG H rfl rfl) (by rw [H.parts (vs := [(0, (.agg #[(.i C76), (.i C78), (.bool true), (.bool false), Slc.nil.v]))]) rfl]; exact bs_42_1_ii64ii64bbs0 w70 C76 C78 true false Slc.nil) (lt_ rfl) ?_
          rw [← n99.at_]
          clear H a
          intro a H
          refine n99.go <| c_nil <| effQ.go [] H rfl rfl <| StT.more [10] [11] (by kernel_rfl) (by kernel_rfl) (by kernel_rfl) (.cons ?_ .nil) (.cons ?_ .nil)
          ·refine Ans.mk rfl rfl fun a H => ?_
           replace H := H.ch (t := 78) (b := true) rfl h75
           refine s_move H (wantG H rfl rfl) rfl (lt_ rfl) fun a H => ?_
           exact Ans.fin H rfl
          ·refine ⟨_, rfl, fun a H => ?_⟩
           replace H := H.weaken (L' := [(78, (.bool (decide (C71 = C66) && (decide (C72 = C68))))), (79, (.pointer N4))]) ⟨rfl, rfl, trivial⟩
           replace H := H.ch (t := 78) (b := true) rfl h75
           refine s_call H (wantG H rfl rfl) body_12 (H.args (vs := [(.pointer N4), (.string (ByteArray.mk #[107]))]) rfl) (lt_ rfl) h ?_ (fun c w' h H => e_panic (P := PP) (fn := Try.f16) H h)
           clear H h a
           rintro _ w100 a ⟨E101, rfl, h⟩ H
           refine c_nil <| effQ.go [] H rfl rfl <| StT.more [] [15] (by kernel_rfl) (by kernel_rfl) (by kernel_rfl) .nil (.cons ?_ .nil)
           ·refine ⟨_, rfl, fun a H => ?_⟩
            replace H := H.weaken (L' := [(78, (.bool (decide (C71 = C66) && (decide (C72 = C68))))), (80, E101.v), (83, (Slc.v (Slc.mk (some (blk b97)) 1 1)))]) ⟨rfl, rfl, rfl, trivial⟩
            replace H := H.ch (t := 78) (b := true) rfl h75
            refine s_call H (wantG H rfl rfl) body_19 (H.args (vs := [E101.v, (Slc.v (Slc.mk (some (blk b97)) 1 1))]) rfl) (lt_ rfl) h ?_ (fun c w' h H => e_panic (P := PP) (fn := Try.f16) H h)
            clear H h a
            rintro _ w102 a ⟨s103, rfl, h⟩ H
            refine c_nil <| effQ.go [(16, (.bool s103)), (17, (.bool s103))] H rfl rfl <| StT.last [16, 17] (by kernel_rfl) (by kernel_rfl) (.cons ?_ (.cons ?_ .nil)) ?_
            ·refine Ans.mk rfl rfl fun a H => ?_
             replace H := H.ch (t := 78) (b := true) rfl h75
             refine s_pickT H rfl rfl rfl (lt_ rfl) fun a H => ?_
             exact Ans.fin H rfl
            ·refine Ans.mk rfl rfl fun a H => s_assign H rfl rfl (lt_ rfl) fun a H => ?_
             exact Ans.fin H rfl
            ·intro a H
             replace H := H.weaken (L' := [(0, (.bool s103))]) ⟨rfl, trivial⟩
             exact h62 _ _ _ h (H.weaken ⟨rfl, trivial⟩)
        ·replace h := h.2 h75
         refine effQ.go [(7, (.bool (decide (C71 = C66) && (decide (C72 = C68))))), (8, (.bool (decide (C71 = C66) && (decide (C72 = C68))))), (9, (.bool (decide (C71 = C66) && (decide (C72 = C68))))), (10, undef), (12, undef), (13, undef)] H rfl rfl <| StT.more [6, 7, 8, 9, 10, 12, 13] [11, 14] (by kernel_rfl) (by kernel_rfl) (by kernel_rfl) (.cons ?_ (.cons ?_ (.cons ?_ (.cons ?_ (.cons ?_ (.cons ?_ (.cons ?_ .nil))))))) (.cons ?_ (.cons ?_ .nil))
         ·refine Ans.mk rfl rfl fun a H => ?_
          replace H := H.ch (t := 72) (b := true) rfl h65
          refine s_loadN (l := [(.i C66), (.i C68)]) H (wantG H rfl rfl) rfl agg_29 rfl ⟨hc73, hc74, trivial⟩ (lt_ rfl) fun a H => ?_
          exact Ans.fin H rfl
         ·refine Ans.mk rfl rfl fun a H => ?_
          replace H := H.ch (t := 72) (b := true) rfl h65
          refine s_bin H (wantG H rfl rfl) rfl rfl (r_eqst eqg_29 (eqst_29 0) rfl) (lt_ rfl) fun a H => ?_
          exact Ans.fin H rfl
         ·refine Ans.mk rfl rfl fun a H => ?_
          replace H := H.ch (t := 72) (b := true) rfl h65
          refine s_pickT H rfl rfl rfl (lt_ rfl) fun a H => ?_
          exact Ans.fin H rfl
         ·refine Ans.mk rfl rfl fun a H => s_move H rfl rfl (lt_ rfl) fun a H => ?_
          exact Ans.fin H rfl
         ·exact .skip rfl rfl rfl rfl rfl rfl h75 rfl
         ·exact .skip rfl rfl rfl rfl rfl rfl h75 rfl
         ·exact .skip rfl rfl rfl rfl rfl rfl h75 rfl
         ·refine ⟨_, rfl, fun a H => ?_⟩
          replace h := h.1
          replace H := H.weaken (L' := [(78, (.bool (decide (C71 = C66) && (decide (C72 = C68))))), (79, undef)]) ⟨rfl, rfl, trivial⟩
          replace H := H.ch (t := 78) (b := false) rfl h75
          refine s_skip H (wantN H rfl rfl rfl) rfl (lt_ rfl) fun a H => c_nil <| effQ.go [] H rfl rfl <| StT.more [12, 13] [14] (by kernel_rfl) (by kernel_rfl) (by kernel_rfl) (.cons ?_ (.cons ?_ .nil)) (.cons ?_ .nil)
          ·exact .skip rfl rfl rfl rfl rfl rfl h75 rfl
          ·exact .skip rfl rfl rfl rfl rfl rfl h75 rfl
          ·refine ⟨_, rfl, fun a H => ?_⟩
           replace H := H.weaken (L' := [(78, (.bool (decide (C71 = C66) && (decide (C72 = C68))))), (82, undef)]) ⟨rfl, rfl, trivial⟩
           replace H := H.ch (t := 78) (b := false) rfl h75
           refine s_skip H (wantN H rfl rfl rfl) rfl (lt_ rfl) fun a H => c_nil <| effQ.go [] H rfl rfl <| StT.more [] [15] (by kernel_rfl) (by kernel_rfl) (by kernel_rfl) .nil (.cons ?_ .nil)
           ·refine ⟨_, rfl, fun a H => ?_⟩
            replace H := H.weaken (L' := [(78, (.bool (decide (C71 = C66) && (decide (C72 = C68))))), (80, undef), (83, undef)]) ⟨rfl, rfl, rfl, trivial⟩
            replace H := H.ch (t := 78) (b := false) rfl h75
            refine s_skip H (wantN H rfl rfl rfl) rfl (lt_ rfl) fun a H => c_nil <| effQ.go [(16, (.bool false)), (17, (.bool false))] H rfl rfl <| StT.last [16, 17] (by kernel_rfl) (by kernel_rfl) (.cons ?_ (.cons ?_ .nil)) ?_
            ·refine Ans.mk rfl rfl fun a H => ?_
             replace H := H.ch (t := 78) (b := false) rfl h75
             refine s_pickF H rfl rfl rfl (lt_ rfl) fun a H => ?_
             exact Ans.fin H rfl
            ·refine Ans.mk rfl rfl fun a H => s_assign H rfl rfl (lt_ rfl) fun a H => ?_
             exact Ans.fin H rfl
            ·intro a H
             replace H := H.weaken (L' := [(0, (.bool false))]) ⟨rfl, trivial⟩
             exact h62 _ _ _ h (H.weaken ⟨rfl, trivial⟩)
         ·refine ⟨_, rfl, fun a H => ?_⟩
          replace h := h.2
          replace H := H.weaken (L' := [(78, (.bool (decide (C71 = C66) && (decide (C72 = C68))))), (82, undef)]) ⟨rfl, rfl, trivial⟩
          replace H := H.ch (t := 78) (b := false) rfl h75
          refine s_skip H (wantN H rfl rfl rfl) rfl (lt_ rfl) fun a H => c_nil <| effQ.go [] H rfl rfl <| StT.more [10] [11] (by kernel_rfl) (by kernel_rfl) (by kernel_rfl) (.cons ?_ .nil) (.cons ?_ .nil)
          ·exact .skip rfl rfl rfl rfl rfl rfl h75 rfl
          ·refine ⟨_, rfl, fun a H => ?_⟩
           replace H := H.weaken (L' := [(78, (.bool (decide (C71 = C66) && (decide (C72 = C68))))), (79, undef)]) ⟨rfl, rfl, trivial⟩
           replace H := H.ch (t := 78) (b := false) rfl h75
           refine s_skip H (wantN H rfl rfl rfl) rfl (lt_ rfl) fun a H => c_nil <| effQ.go [] H rfl rfl <| StT.more [] [15] (by kernel_rfl) (by kernel_rfl) (by kernel_rfl) .nil (.cons ?_ .nil)
           ·refine ⟨_, rfl, fun a H => ?_⟩
            replace H := H.weaken (L' := [(78, (.bool (decide (C71 = C66) && (decide (C72 = C68))))), (80, undef), (83, undef)]) ⟨rfl, rfl, rfl, trivial⟩
            replace H := H.ch (t := 78) (b := false) rfl h75
            refine s_skip H (wantN H rfl rfl rfl) rfl (lt_ rfl) fun a H => c_nil <| effQ.go [(16, (.bool false)), (17, (.bool false))] H rfl rfl <| StT.last [16, 17] (by kernel_rfl) (by kernel_rfl) (.cons ?_ (.cons ?_ .nil)) ?_
            ·refine Ans.mk rfl rfl fun a H => ?_
             replace H := H.ch (t := 78) (b := false) rfl h75
             refine s_pickF H rfl rfl rfl (lt_ rfl) fun a H => ?_
             exact Ans.fin H rfl
            ·refine Ans.mk rfl rfl fun a H => s_assign H rfl rfl (lt_ rfl) fun a H => ?_
             exact Ans.fin H rfl
            ·intro a H
             replace H := H.weaken (L' := [(0, (.bool false))]) ⟨rfl, trivial⟩
             exact h62 _ _ _ h (H.weaken ⟨rfl, trivial⟩)
      ·replace h := h.2 h65
       refine effQ.go [(2, (.bool (decide (F64 = 0)))), (3, (.bool (decide (F64 = 0)))), (4, undef), (6, undef)] H rfl rfl <| StT.more [2, 3, 4, 6] [5] (by kernel_rfl) (by kernel_rfl) (by kernel_rfl) (.cons ?_ (.cons ?_ (.cons ?_ (.cons ?_ .nil)))) (.cons ?_ .nil)
       ·refine Ans.mk rfl rfl fun a H => s_bin H rfl rfl rfl r_eql (lt_ rfl) fun a H => ?_
        exact Ans.fin H rfl
       ·refine Ans.mk rfl rfl fun a H => s_move H rfl rfl (lt_ rfl) fun a H => ?_
        exact Ans.fin H rfl
       ·exact .skip rfl rfl rfl rfl rfl rfl h65 rfl
       ·exact .skip rfl rfl rfl rfl rfl rfl h65 rfl
       ·refine ⟨_, rfl, fun a H => ?_⟩
        replace H := H.weaken (L' := [(72, (.bool (decide (F64 = 0)))), (73, undef)]) ⟨rfl, rfl, trivial⟩
        replace H := H.ch (t := 72) (b := false) rfl h65
        refine s_skip H (wantN H rfl rfl rfl) rfl (lt_ rfl) fun a H => c_nil <| effQ.go [(7, undef), (8, (.bool false)), (9, (.bool false)), (10, undef), (12, undef), (13, undef)] H rfl rfl <| StT.more [6, 7, 8, 9, 10, 12, 13] [11, 14] (by kernel_rfl) (by kernel_rfl) (by kernel_rfl) (.cons ?_ (.cons ?_ (.cons ?_ (.cons ?_ (.cons ?_ (.cons ?_ (.cons ?_ .nil))))))) (.cons ?_ (.cons ?_ .nil))
        ·exact .skip rfl rfl rfl rfl rfl rfl h65 rfl
        ·exact .skip rfl rfl rfl rfl rfl rfl h65 rfl
        ·refine Ans.mk rfl rfl fun a H => ?_
         replace H := H.ch (t := 72) (b := false) rfl h65
         refine s_pickF H rfl rfl rfl (lt_ rfl) fun a H => ?_
         exact Ans.fin H rfl
        ·refine Ans.mk rfl rfl fun a H => s_move H rfl rfl (lt_ rfl) fun a H => ?_
         exact Ans.fin H rfl
        ·exact .skip rfl rfl rfl rfl rfl rfl rfl rfl
        ·exact .skip rfl rfl rfl rfl rfl rfl rfl rfl
        ·exact .skip rfl rfl rfl rfl rfl rfl rfl rfl
        ·refine ⟨_, rfl, fun a H => ?_⟩
         replace h := h.1
         replace H := H.weaken (L' := [(78, (.bool false)), (79, undef)]) ⟨rfl, rfl, trivial⟩
         refine s_skip H (wantN H rfl rfl rfl) rfl (lt_ rfl) fun a H => c_nil <| effQ.go [] H rfl rfl <| StT.more [12, 13] [14] (by kernel_rfl) (by kernel_rfl) (by kernel_rfl) (.cons ?_ (.cons ?_ .nil)) (.cons ?_ .nil)
         ·exact .skip rfl rfl rfl rfl rfl rfl rfl rfl
         ·exact .skip rfl rfl rfl rfl rfl rfl rfl rfl
         ·refine ⟨_, rfl, fun a H => ?_⟩
          replace H := H.weaken (L' := [(78, (.bool false)), (82, undef)]) ⟨rfl, rfl, trivial⟩
          refine s_skip H (wantN H rfl rfl rfl) rfl (lt_ rfl) fun a H => c_nil <| effQ.go [] H rfl rfl <| StT.more [] [15] (by kernel_rfl) (by kernel_rfl) (by kernel_rfl) .nil (.cons ?_ .nil)
          ·refine ⟨_, rfl, fun a H => ?_⟩
           replace H := H.weaken (L' := [(78, (.bool false)), (80, undef), (83, undef)]) ⟨rfl, rfl, rfl, trivial⟩
           refine s_skip H (wantN H rfl rfl rfl) rfl (lt_ rfl) fun a H => c_nil <| effQ.go [(16, (.bool false)), (17, (.bool false))] H rfl rfl <| StT.last [16, 17] (by kernel_rfl) (by kernel_rfl) (.cons ?_ (.cons ?_ .nil)) ?_
           ·refine Ans.mk rfl rfl fun a H => s_pickF H rfl rfl rfl (lt_ rfl) fun a H => ?_
            exact Ans.fin H rfl
           ·refine Ans.mk rfl rfl fun a H => s_assign H rfl rfl (lt_ rfl) fun a H => ?_
            exact Ans.fin H rfl
           ·intro a H
            replace H := H.weaken (L' := [(0, (.bool false))]) ⟨rfl, trivial⟩
            exact h62 _ _ _ h (H.weaken ⟨rfl, trivial⟩)
        ·refine ⟨_, rfl, fun a H => ?_⟩
         replace h := h.2
         replace H := H.weaken (L' := [(78, (.bool false)), (82, undef)]) ⟨rfl, rfl, trivial⟩
         refine s_skip H (wantN H rfl rfl rfl) rfl (lt_ rfl) fun a H => c_nil <| effQ.go [] H rfl rfl <| StT.more [10] [11] (by kernel_rfl) (by kernel_rfl) (by kernel_rfl) (.cons ?_ .nil) (.cons ?_ .nil)
         ·exact .skip rfl rfl rfl rfl rfl rfl rfl rfl
         ·refine ⟨_, rfl, fun a H => ?_⟩
          replace H := H.weaken (L' := [(78, (.bool false)), (79, undef)]) ⟨rfl, rfl, trivial⟩
          refine s_skip H (wantN H rfl rfl rfl) rfl (lt_ rfl) fun a H => c_nil <| effQ.go [] H rfl rfl <| StT.more [] [15] (by kernel_rfl) (by kernel_rfl) (by kernel_rfl) .nil (.cons ?_ .nil)
          ·refine ⟨_, rfl, fun a H => ?_⟩
           replace H := H.weaken (L' := [(78, (.bool false)), (80, undef), (83, undef)]) ⟨rfl, rfl, rfl, trivial⟩
           refine s_skip H (wantN H rfl rfl rfl) rfl (lt_ rfl) fun a H => c_nil <| effQ.go [(16, (.bool false)), (17, (.bool false))] H rfl rfl <| StT.last [16, 17] (by kernel_rfl) (by kernel_rfl) (.cons ?_ (.cons ?_ .nil)) ?_
           ·refine Ans.mk rfl rfl fun a H => s_pickF H rfl rfl rfl (lt_ rfl) fun a H => ?_
            exact Ans.fin H rfl
           ·refine Ans.mk rfl rfl fun a H => s_assign H rfl rfl (lt_ rfl) fun a H => ?_
            exact Ans.fin H rfl
           ·intro a H
            replace H := H.weaken (L' := [(0, (.bool false))]) ⟨rfl, trivial⟩
            exact h62 _ _ _ h (H.weaken ⟨rfl, trivial⟩)
   clear h150
   replace H := H.weaken (L' := [(1, (.pointer N4)), (3, (.pointer (some (blk b13)))), (4, (.pointer (some (blk b18)))), (5, (.bool A33)), (6, (.i A34)), (7, (.bool A41)), (8, (.i A42))]) ⟨rfl, rfl, rfl, rfl, rfl, rfl, rfl, trivial⟩
   rcases Bool.eq_false_or_eq_true (!A33) with h126 | h126
   ·replace h := h.1 h126
    refine c_any (V := [(0, (.bool A33)), (1, (.bool (!A33))), (2, (.bool (!A33))), (3, undef), (4, undef), (5, (.bool true)), (6, (.bool true)), (7, undef), (8, undef), (9, (.bool true)), (10, (.bool true)), (11, undef), (12, undef), (13, (.bool true)), (14, (.bool true)), (15, undef)]) (⟨[[], [0], [1], [2], [2, 3], [2, 4], [2, 5], [6], [6, 7], [6, 8], [6, 9], [10], [10, 11], [10, 12], [10, 13], [14], [14, 15], [14, 16], [14, 17], [16, 18], [19], [19, 20], [19], [19, 21, 22], [19, 23]], [some 39, some 40, some 41, some 42, some 43, some 44, some 45, some 46, some 47, some 48, some 49, some 50, some 51, some 52, some 53, some 54, some 55, some 56, some 57, some 58, some 59, some 60, some 61, some 62, some 63], [16, 21], [0, 0, 0, 0, 0, 0, 0, 0, 0, 0, 0, 0, 0, 0, 0, 0, 0, 1, 1, 1, 1, 1, 1, 2, 2], [0, 0, 0, 0, 0, 0, 0, 0, 0, 0, 0, 0, 0, 0, 0, 0, 1, 1, 1, 1, 1, 2, 2, 2, 2]⟩ : Rg) [(1, (.pointer N4)), (3, (.pointer (some (blk b13)))), (4, (.pointer (some (blk b18)))), (5, (.bool A33)), (6, (.i A34)), (7, (.bool A41)), (8, (.i A42))] mixed (by kernel_rfl) H ?_
    refine Stg.eff [0, 1, 2, 3, 4, 5, 6, 7, 8, 9, 10, 11, 12, 13, 14, 15] (by kernel_rfl) rfl (.cons ?_ (.cons ?_ (.cons ?_ (.cons ?_ (.cons ?_ (.cons ?_ (.cons ?_ (.cons ?_ (.cons ?_ (.cons ?_ (.cons ?_ (.cons ?_ (.cons ?_ (.cons ?_ (.cons ?_ (.cons ?_ .nil)))))))))))))))) ?_
    ·refine Ans.mk rfl rfl fun a H => s_move H rfl rfl (lt_ rfl) fun a H => ?_
     exact Ans.fin H rfl
    ·refine Ans.mk rfl rfl fun a H => s_un H rfl rfl r_not (lt_ rfl) fun a H => ?_
     exact Ans.fin H rfl
    ·refine Ans.mk rfl rfl fun a H => s_move H rfl rfl (lt_ rfl) fun a H => ?_
     exact Ans.fin H rfl
    ·exact .skip rfl rfl rfl rfl rfl rfl h126 rfl
    ·exact .skip rfl rfl rfl rfl rfl rfl h126 rfl
    ·refine Ans.mk rfl rfl fun a H => ?_
     replace H := H.ch (t := 41) (b := true) rfl h126
     refine s_pickT H rfl rfl rfl (lt_ rfl) fun a H => ?_
     exact Ans.fin H rfl
    ·refine Ans.mk rfl rfl fun a H => s_move H rfl rfl (lt_ rfl) fun a H => ?_
     exact Ans.fin H rfl
    ·exact .skip rfl rfl rfl rfl rfl rfl rfl rfl
    ·exact .skip rfl rfl rfl rfl rfl rfl rfl rfl
    ·refine Ans.mk rfl rfl fun a H => s_pickT H rfl rfl rfl (lt_ rfl) fun a H => ?_
     exact Ans.fin H rfl
    ·refine Ans.mk rfl rfl fun a H => s_move H rfl rfl (lt_ rfl) fun a H => ?_
     exact Ans.fin H rfl
    ·exact .skip rfl rfl rfl rfl rfl rfl rfl rfl
    ·exact .skip rfl rfl rfl rfl rfl rfl rfl rfl
    ·refine Ans.mk rfl rfl fun a H => s_pickT H rfl rfl rfl (lt_ rfl) fun a H => ?_
     exact Ans.fin H rfl
    ·refine Ans.mk rfl rfl fun a H => s_move H rfl rfl (lt_ rfl) fun a H => ?_
     exact Ans.fin H rfl
    ·exact .skip rfl rfl rfl rfl rfl rfl rfl rfl
    ·intro a H
     replace H := H.weaken (L' := [(53, (.bool true)), (54, undef)]) ⟨rfl, rfl, trivial⟩
     refine s_skip H (wantN H rfl rfl rfl) rfl (lt_ rfl) fun a H => c_nil <| effQ.go [(17, undef), (18, (.bool true)), (19, (.bool true)), (20, undef), (22, undef)] H rfl rfl <| Stg.eff [17, 18, 19, 20, 22] (by kernel_rfl) rfl (.cons ?_ (.cons ?_ (.cons ?_ (.cons ?_ (.cons ?_ .nil))))) ?_
     ·exact .skip rfl rfl rfl rfl rfl rfl rfl rfl
     ·refine Ans.mk rfl rfl fun a H => s_pickT H rfl rfl rfl (lt_ rfl) fun a H => ?_
      exact Ans.fin H rfl
     ·refine Ans.mk rfl rfl fun a H => s_move H rfl rfl (lt_ rfl) fun a H => ?_
      exact Ans.fin H rfl
     ·exact .skip rfl rfl rfl rfl rfl rfl rfl rfl
     ·exact .skip rfl rfl rfl rfl rfl rfl rfl rfl
     ·intro a H
      replace H := H.weaken (L' := [(58, (.bool true)), (59, undef)]) ⟨rfl, rfl, trivial⟩
      refine s_skip H (wantN H rfl rfl rfl) rfl (lt_ rfl) fun a H => c_nil <| effQ.go [(23, undef), (24, (.bool true))] H rfl rfl <| Stg.fin [22, 23, 24] (by kernel_rfl) (.cons ?_ (.cons ?_ (.cons ?_ .nil))) ?_
      ·exact .skip rfl rfl rfl rfl rfl rfl rfl rfl
      ·exact .skip rfl rfl rfl rfl rfl rfl rfl rfl
      ·refine Ans.mk rfl rfl fun a H => s_pickT H rfl rfl rfl (lt_ rfl) fun a H => ?_
       exact Ans.fin H rfl
      ·intro a H
       replace H := H.weaken (L' := [(1, (.pointer N4)), (4, (.pointer (some (blk b18)))), (63, (.bool true))]) ⟨rfl, rfl, rfl, trivial⟩
       exact h125 _ _ _ h (H.weaken ⟨rfl, rfl, rfl, trivial⟩)
   ·replace h := h.2 h126
    rcases Bool.eq_false_or_eq_true (!A41) with h127 | h127
    ·replace h := h.1 h127
     refine c_any (V := [(0, (.bool A33)), (1, (.bool (!A33))), (2, (.bool (!A33))), (3, (.bool A41)), (4, (.bool (!A41))), (5, (.bool (!A41))), (6, (.bool (!A41))), (7, undef), (8, undef), (9, (.bool true)), (10, (.bool true)), (11, undef), (12, undef), (13, (.bool true)), (14, (.bool true)), (15, undef)]) (⟨[[], [0], [1], [2], [2, 3], [2, 4], [2, 5], [6], [6, 7], [6, 8], [6, 9], [10], [10, 11], [10, 12], [10, 13], [14], [14, 15], [14, 16], [14, 17], [16, 18], [19], [19, 20], [19], [19, 21, 22], [19, 23]], [some 39, some 40, some 41, some 42, some 43, some 44, some 45, some 46, some 47, some 48, some 49, some 50, some 51, some 52, some 53, some 54, some 55, some 56, some 57, some 58, some 59, some 60, some 61, some 62, some 63], [16, 21], [0, 0, 0, 0, 0, 0, 0, 0, 0, 0, 0, 0, 0, 0, 0, 0, 0, 1, 1, 1, 1, 1, 1, 2, 2], [0, 0, 0, 0, 0, 0, 0, 0, 0, 0, 0, 0, 0, 0, 0, 0, 1, 1, 1, 1, 1, 2, 2, 2, 2]⟩ : Rg) [(1, (.pointer N4)), (3, (.pointer (some (blk b13)))), (4, (.pointer (some (blk b18)))), (5, (.bool A33)), (6, (.i A34)), (7, (.bool A41)), (8, (.i A42))] mixed (by kernel_rfl) H ?_
     refine Stg.eff [0, 1, 2, 3, 4, 5, 6, 7, 8, 9, 10, 11, 12, 13, 14, 15] (by kernel_rfl) rfl (.cons ?_ (.cons ?_ (.cons ?_ (.cons ?_ (.cons ?_ (.cons ?_ (.cons ?_ (.cons ?_ (.cons ?_ (.cons ?_ (.cons ?_ (.cons ?_ (.cons ?_ (.cons ?_ (.cons ?_ (.cons ?_ .nil)))))))))))))))) ?_
     ·refine Ans.mk rfl rfl fun a H => s_move H rfl rfl (lt_ rfl) fun a H => ?_
      exact Ans.fin H rfl
     ·refine Ans.mk rfl rfl fun a H => s_un H rfl rfl r_not (lt_ rfl) fun a H => ?_
      exact Ans.fin H rfl
     ·refine Ans.mk rfl rfl fun a H => s_move H rfl rfl (lt_ rfl) fun a H => ?_
      exact Ans.fin H rfl
     ·refine Ans.mk rfl rfl fun a H => ?_
      replace H := H.ch (t := 41) (b := false) rfl h126
      refine s_move H (wantG H rfl rfl) rfl (lt_ rfl) fun a H => ?_
      exact Ans.fin H rfl
     ·refine Ans.mk rfl rfl fun a H => ?_
      replace H := H.ch (t := 41) (b := false) rfl h126
      refine s_un H (wantG H rfl rfl) rfl r_not (lt_ rfl) fun a H => ?_
      exact Ans.fin H rfl
     ·refine Ans.mk rfl rfl fun a H => ?_
      replace H := H.ch (t := 41) (b := false) rfl h126
      refine s_pickF H rfl rfl rfl (lt_ rfl) fun a H => ?_
      exact Ans.fin H rfl
     ·refine Ans.mk rfl rfl fun a H => s_move H rfl rfl (lt_ rfl) fun a H => ?_
      exact Ans.fin H rfl
     ·exact .skip rfl rfl rfl rfl rfl rfl h127 rfl
     ·exact .skip rfl rfl rfl rfl rfl rfl h127 rfl
     ·refine Ans.mk rfl rfl fun a H => ?_
      replace H := H.ch (t := 45) (b := true) rfl h127
      refine s_pickT H rfl rfl rfl (lt_ rfl) fun a H => ?_
      exact Ans.fin H rfl
     ·refine Ans.mk rfl rfl fun a H => s_move H rfl rfl (lt_ rfl) fun a H => ?_
      exact Ans.fin H rfl
     ·exact .skip rfl rfl rfl rfl rfl rfl rfl rfl
     ·exact .skip rfl rfl rfl rfl rfl rfl rfl rfl
     ·refine Ans.mk rfl rfl fun a H => s_pickT H rfl rfl rfl (lt_ rfl) fun a H => ?_
      exact Ans.fin H rfl
     ·refine Ans.mk rfl rfl fun a H => s_move H rfl rfl (lt_ rfl) fun a H => ?_
      exact Ans.fin H rfl
     ·exact .skip rfl rfl rfl rfl rfl rfl rfl rfl
     ·intro a H
      replace H := H.weaken (L' := [(53, (.bool true)), (54, undef)]) ⟨rfl, rfl, trivial⟩
      refine s_skip H (wantN H rfl rfl rfl) rfl (lt_ rfl) fun a H => c_nil <| effQ.go [(17, undef), (18, (.bool true)), (19, (.bool true)), (20, undef), (22, undef)] H rfl rfl <| Stg.eff [17, 18, 19, 20, 22] (by kernel_rfl) rfl (.cons ?_ (.cons ?_ (.cons ?_ (.cons ?_ (.cons ?_ .nil))))) ?_
      ·exact .skip rfl rfl rfl rfl rfl rfl rfl rfl
      ·refine Ans.mk rfl rfl fun a H => s_pickT H rfl rfl rfl (lt_ rfl) fun a H => ?_
       exact Ans.fin H rfl
      ·refine Ans.mk rfl rfl fun a H => s_move H rfl rfl (lt_ rfl) fun a H => ?_
       exact Ans.fin H rfl
      ·exact .skip rfl rfl rfl rfl rfl rfl rfl rfl
      ·exact .skip rfl rfl rfl rfl rfl rfl rfl rfl
      ·intro a H
       replace H := H.weaken (L' := [(58, (.bool true)), (59, undef)]) ⟨rfl, rfl, trivial⟩
       refine s_skip H (wantN H rfl rfl rfl) rfl (lt_ rfl) fun a H => c_nil <| effQ.go [(23, undef), (24, (.bool true))] H rfl rfl <| Stg.fin [22, 23, 24] (by kernel_rfl) (.cons ?_ (.cons ?_ (.cons ?_ .nil))) ?_
       ·exact .skip rfl rfl rfl rfl rfl rfl rfl rfl
       ·exact .skip rfl rfl rfl rfl rfl rfl rfl rfl
       ·refine Ans.mk rfl rfl fun a H => s_pickT H rfl rfl rfl (lt_ rfl) fun a H => ?_
        exact Ans.fin H rfl
       ·intro a H
        replace H := H.weaken (L' := [(1, (.pointer N4)), (4, (.pointer (some (blk b18)))), (63, (.bool true))]) ⟨rfl, rfl, rfl, trivial⟩
        exact h125 _ _ _ h (H.weaken ⟨rfl, rfl, rfl, trivial⟩)
    ·replace h := h.2 h127
     rcases Bool.eq_false_or_eq_true (decide (A34 ≠ 0)) with h128 | h128
     ·replace h := h.1 h128
      refine c_any (V := [(0, (.bool A33)), (1, (.bool (!A33))), (2, (.bool (!A33))), (3, (.bool A41)), (4, (.bool (!A41))), (5, (.bool (!A41))), (6, (.bool (!A41))), (7, (.i A34)), (8, (.bool (decide (A34 ≠ 0)))), (9, (.bool (decide (A34 ≠ 0)))), (10, (.bool (decide (A34 ≠ 0)))), (11, undef), (12, undef), (13, (.bool true)), (14, (.bool true)), (15, undef)]) (⟨[[], [0], [1], [2], [2, 3], [2, 4], [2, 5], [6], [6, 7], [6, 8], [6, 9], [10], [10, 11], [10, 12], [10, 13], [14], [14, 15], [14, 16], [14, 17], [16, 18], [19], [19, 20], [19], [19, 21, 22], [19, 23]], [some 39, some 40, some 41, some 42, some 43, some 44, some 45, some 46, some 47, some 48, some 49, some 50, some 51, some 52, some 53, some 54, some 55, some 56, some 57, some 58, some 59, some 60, some 61, some 62, some 63], [16, 21], [0, 0, 0, 0, 0, 0, 0, 0, 0, 0, 0, 0, 0, 0, 0, 0, 0, 1, 1, 1, 1, 1, 1, 2, 2], [0, 0, 0, 0, 0, 0, 0, 0, 0, 0, 0, 0, 0, 0, 0, 0, 1, 1, 1, 1, 1, 2, 2, 2, 2]⟩ : Rg) [(1, (.pointer N4)), (3, (.pointer (some (blk b13)))), (4, (.pointer (some (blk b18)))), (5, (.bool A33)), (6, (.i A34)), (7, (.bool A41)), (8, (.i A42))] mixed (by kernel_rfl) H ?_
      refine Stg.eff [0, 1, 2, 3, 4, 5, 6, 7, 8, 9, 10, 11, 12, 13, 14, 15] (by kernel_rfl) rfl (.cons ?_ (.cons ?_ (.cons ?_ (.cons ?_ (.cons ?_ (.cons ?_ (.cons ?_ (.cons ?_ (.cons ?_ (.cons ?_ (.cons ?_ (.cons ?_ (.cons ?_ (.cons ?_ (.cons ?_ (.cons ?_ .nil)))))))))))))))) ?_
      ·refine Ans.mk rfl rfl fun a H => s_move H rfl rfl (lt_ rfl) fun a H => ?_
       exact Ans.fin H rfl
      ·refine Ans.mk rfl rfl fun a H => s_un H rfl rfl r_not (lt_ rfl) fun a H => ?_
       exact Ans.fin H rfl
      ·refine Ans.mk rfl rfl fun a H => s_move H rfl rfl (lt_ rfl) fun a H => ?_
       exact Ans.fin H rfl
      ·refine Ans.mk rfl rfl fun a H => ?_
       replace H := H.ch (t := 41) (b := false) rfl h126
       refine s_move H (wantG H rfl rfl) rfl (lt_ rfl) fun a H => ?_
       exact Ans.fin H rfl
      ·refine Ans.mk rfl rfl fun a H => ?_
       replace H := H.ch (t := 41) (b := false) rfl h126
       refine s_un H (wantG H rfl rfl) rfl r_not (lt_ rfl) fun a H => ?_
       exact Ans.fin H rfl
      ·refine Ans.mk rfl rfl fun a H => ?_
       replace H := H.ch (t := 41) (b := false) rfl h126
       refine s_pickF H rfl rfl rfl (lt_ rfl) fun a H => ?_
       exact Ans.fin H rfl
      ·refine Ans.mk rfl rfl fun a H => s_move H rfl rfl (lt_ rfl) fun a H => ?_
       exact Ans.fin H rfl
      ·refine Ans.mk rfl rfl fun a H => ?_
       replace H := H.ch (t := 45) (b := false) rfl h127
       refine s_move H (wantG H rfl rfl) rfl (lt_ rfl) fun a H => ?_
       exact Ans.fin H rfl
      ·refine Ans.mk rfl rfl fun a H => ?_
       replace H := H.ch (t := 45) (b := false) rfl h127
       refine s_bin H (wantG H rfl rfl) rfl rfl r_neq (lt_ rfl) fun a H => ?_
       exact Ans.fin H rfl
      ·refine Ans.mk rfl rfl fun a H => ?_
       replace H := H.ch (t := 45) (b := false) rfl h127
       refine s_pickF H rfl rfl rfl (lt_ rfl) fun a H => ?_
       exact Ans.fin H rfl
      ·refine Ans.mk rfl rfl fun a H => s_move H rfl rfl (lt_ rfl) fun a H => ?_
       exact Ans.fin H rfl
      ·exact .skip rfl rfl rfl rfl rfl rfl h128 rfl
      ·exact .skip rfl rfl rfl rfl rfl rfl h128 rfl
      ·refine Ans.mk rfl rfl fun a H => ?_
       replace H := H.ch (t := 49) (b := true) rfl h128
       refine s_pickT H rfl rfl rfl (lt_ rfl) fun a H => ?_
       exact Ans.fin H rfl
      ·refine Ans.mk rfl rfl fun a H => s_move H rfl rfl (lt_ rfl) fun a H => ?_
       exact Ans.fin H rfl
      ·exact .skip rfl rfl rfl rfl rfl rfl rfl rfl
      ·intro a H
       replace H := H.weaken (L' := [(53, (.bool true)), (54, undef)]) ⟨rfl, rfl, trivial⟩
       refine s_skip H (wantN H rfl rfl rfl) rfl (lt_ rfl) fun a H => c_nil <| effQ.go [(17, undef), (18, (.bool true)), (19, (.bool true)), (20, undef), (22, undef)] H rfl rfl <| Stg.eff [17, 18, 19, 20, 22] (by kernel_rfl) rfl (.cons ?_ (.cons ?_ (.cons ?_ (.cons ?_ (.cons ?_ .nil))))) ?_
       ·exact .skip rfl rfl rfl rfl rfl rfl rfl rfl
       ·refine Ans.mk rfl rfl fun a H => s_pickT H rfl rfl rfl (lt_ rfl) fun a H => ?_
        exact Ans.fin H rfl
       ·refine Ans.mk rfl rfl fun a H => s_move H rfl rfl (lt_ rfl) fun a H => ?_
        exact Ans.fin H rfl
       ·exact .skip rfl rfl rfl rfl rfl rfl rfl rfl
       ·exact .skip rfl rfl rfl rfl rfl rfl rfl rfl
       ·intro a H
        replace H := H.weaken (L' := [(58, (.bool true)), (59, undef)]) ⟨rfl, rfl, trivial⟩
        refine s_skip H (wantN H rfl rfl rfl) rfl (lt_ rfl) fun a H => c_nil <| effQ.go [(23, undef), (24, (.bool true))] H rfl rfl <| Stg.fin [22, 23, 24] (by kernel_rfl) (.cons ?_ (.cons ?_ (.cons ?_ .nil))) ?_
        ·exact .skip rfl rfl rfl rfl rfl rfl rfl rfl
        ·exact .skip rfl rfl rfl rfl rfl rfl rfl rfl
        ·refine Ans.mk rfl rfl fun a H => s_pickT H rfl rfl rfl (lt_ rfl) fun a H => ?_
         exact Ans.fin H rfl
        ·intro a H
         replace H := H.weaken (L' := [(1, (.pointer N4)), (4, (.pointer (some (blk b18)))), (63, (.bool true))]) ⟨rfl, rfl, rfl, trivial⟩
         exact h125 _ _ _ h (H.weaken ⟨rfl, rfl, rfl, trivial⟩)
     ·replace h := h.2 h128
      rcases Bool.eq_false_or_eq_true (decide (A42 ≠ 0)) with h129 | h129
      ·replace h := h.1 h129
       refine c_any (V := [(0, (.bool A33)), (1, (.bool (!A33))), (2, (.bool (!A33))), (3, (.bool A41)), (4, (.bool (!A41))), (5, (.bool (!A41))), (6, (.bool (!A41))), (7, (.i A34)), (8, (.bool (decide (A34 ≠ 0)))), (9, (.bool (decide (A34 ≠ 0)))), (10, (.bool (decide (A34 ≠ 0)))), (11, (.i A42)), (12, (.bool (decide (A42 ≠ 0)))), (13, (.bool (decide (A42 ≠ 0)))), (14, (.bool (decide (A42 ≠ 0)))), (15, undef)]) (⟨[[], [0], [1], [2], [2, 3], [2, 4], [2, 5], [6], [6, 7], [6, 8], [6, 9], [10], [10, 11], [10, 12], [10, 13], [14], [14, 15], [14, 16], [14, 17], [16, 18], [19], [19, 20], [19], [19, 21, 22], [19, 23]], [some 39, some 40, some 41, some 42, some 43, some 44, some 45, some 46, some 47, some 48, some 49, some 50, some 51, some 52, some 53, some 54, some 55, some 56, some 57, some 58, some 59, some 60, some 61, some 62, some 63], [16, 21], [0, 0, 0, 0, 0, 0, 0, 0, 0, 0, 0, 0, 0, 0, 0, 0, 0, 1, 1, 1, 1, 1, 1, 2, 2], [0, 0, 0, 0, 0, 0, 0, 0, 0, 0, 0, 0, 0, 0, 0, 0, 1, 1, 1, 1, 1, 2, 2, 2, 2]⟩ : Rg) [(1, (.pointer N4)), (3, (.pointer (some (blk b13)))), (4, (.pointer (some (blk b18)))), (5, (.bool A33)), (6, (.i A34)), (7, (.bool A41)), (8, (.i A42))] mixed (by kernel_rfl) H ?_
       refine Stg.eff [0, 1, 2, 3, 4, 5, 6, 7, 8, 9, 10, 11, 12, 13, 14, 15] (by kernel_rfl) rfl (.cons ?_ (.cons ?_ (.cons ?_ (.cons ?_ (.cons ?_ (.cons ?_ (.cons ?_ (.cons ?_ (.cons ?_ (.cons ?_ (.cons ?_ (.cons ?_ (.cons ?_ (.cons ?_ (.cons ?_ (.cons ?_ .nil)))))))))))))))) ?_
       ·refine Ans.mk rfl rfl fun a H => s_move H rfl rfl (lt_ rfl) fun a H => ?_
        exact Ans.fin H rfl
       ·refine Ans.mk rfl rfl fun a H => s_un H rfl rfl r_not (lt_ rfl) fun a H => ?_
        exact Ans.fin H rfl
       ·refine Ans.mk rfl rfl fun a H => s_move H rfl rfl (lt_ rfl) fun a H => ?_
        exact Ans.fin H rfl
       ·refine Ans.mk rfl rfl fun a H => ?_
        replace H := H.ch (t := 41) (b := false) rfl h126
        refine s_move H (wantG H rfl rfl) rfl (lt_ rfl) fun a H => ?_
        exact Ans.fin H rfl
       ·refine Ans.mk rfl rfl fun a H => ?_
        replace H := H.ch (t := 41) (b := false) rfl h126
        refine s_un H (wantG H rfl rfl) rfl r_not (lt_ rfl) fun a H => ?_
        exact Ans.fin H rfl
       ·refine Ans.mk rfl rfl fun a H => ?_
        replace H := H.ch (t := 41) (b := false) rfl h126
        refine s_pickF H rfl rfl rfl (lt_ rfl) fun a H => ?_
        exact Ans.fin H rfl
       ·refine Ans.mk rfl rfl fun a H => s_move H rfl rfl (lt_ rfl) fun a H => ?_
        exact Ans.fin H rfl
       ·refine Ans.mk rfl rfl fun a H => ?_
        replace H := H.ch (t := 45) (b := false) rfl h127
        refine s_move H (wantG H rfl rfl) rfl (lt_ rfl) fun a H => ?_
        exact Ans.fin H rfl
       ·refine Ans.mk rfl rfl fun a H => ?_
        replace H := H.ch (t := 45) (b := false) rfl h127
        refine s_bin H (wantG H rfl rfl) rfl rfl r_neq (lt_ rfl) fun a H => ?_
        exact Ans.fin H rfl
       ·refine Ans.mk rfl rfl fun a H => ?_
        replace H := H.ch (t := 45) (b := false) rfl h127
        refine s_pickF H rfl rfl rfl (lt_ rfl) fun a H => ?_
        exact Ans.fin H rfl
       ·refine Ans.mk rfl rfl fun a H => s_move H rfl rfl (lt_ rfl) fun a H => ?_
        exact Ans.fin H rfl
       ·refine Ans.mk rfl rfl fun a H => ?_
        replace H := H.ch (t := 49) (b := false) rfl h128
        refine s_move H (wantG H rfl rfl) rfl (lt_ rfl) fun a H => ?_
        exact Ans.fin H rfl
       ·refine Ans.mk rfl rfl fun a H => ?_
        replace H := H.ch (t := 49) (b := false) rfl h128
        refine s_bin H (wantG H rfl rfl) rfl rfl r_neq (lt_ rfl) fun a H => ?_
        exact Ans.fin H rfl
       ·refine Ans.mk rfl rfl fun a H => ?_
        replace H := H.ch (t := 49) (b := false) rfl h128
        refine s_pickF H rfl rfl rfl (lt_ rfl) fun a H => ?_
        exact Ans.fin H rfl
       ·refine Ans.mk rfl rfl fun a H => s_move H rfl rfl (lt_ rfl) fun a H => ?_
        exact Ans.fin H rfl
       ·exact .skip rfl rfl rfl rfl rfl rfl h129 rfl
       ·intro a H
        replace H := H.weaken (L' := [(53, (.bool (decide (A42 ≠ 0)))), (54, undef)]) ⟨rfl, rfl, trivial⟩
        replace H := H.ch (t := 53) (b := true) rfl h129
        refine s_skip H (wantN H rfl rfl rfl) rfl (lt_ rfl) fun a H => c_nil <| effQ.go [(17, undef), (18, (.bool true)), (19, (.bool true)), (20, undef), (22, undef)] H rfl rfl <| Stg.eff [17, 18, 19, 20, 22] (by kernel_rfl) rfl (.cons ?_ (.cons ?_ (.cons ?_ (.cons ?_ (.cons ?_ .nil))))) ?_
        ·exact .skip rfl rfl rfl rfl rfl rfl h129 rfl
        ·refine Ans.mk rfl rfl fun a H => ?_
         replace H := H.ch (t := 53) (b := true) rfl h129
         refine s_pickT H rfl rfl rfl (lt_ rfl) fun a H => ?_
         exact Ans.fin H rfl
        ·refine Ans.mk rfl rfl fun a H => s_move H rfl rfl (lt_ rfl) fun a H => ?_
         exact Ans.fin H rfl
        ·exact .skip rfl rfl rfl rfl rfl rfl rfl rfl
        ·exact .skip rfl rfl rfl rfl rfl rfl rfl rfl
        ·intro a H
         replace H := H.weaken (L' := [(58, (.bool true)), (59, undef)]) ⟨rfl, rfl, trivial⟩
         refine s_skip H (wantN H rfl rfl rfl) rfl (lt_ rfl) fun a H => c_nil <| effQ.go [(23, undef), (24, (.bool true))] H rfl rfl <| Stg.fin [22, 23, 24] (by kernel_rfl) (.cons ?_ (.cons ?_ (.cons ?_ .nil))) ?_
         ·exact .skip rfl rfl rfl rfl rfl rfl rfl rfl
         ·exact .skip rfl rfl rfl rfl rfl rfl rfl rfl
         ·refine Ans.mk rfl rfl fun a H => s_pickT H rfl rfl rfl (lt_ rfl) fun a H => ?_
          exact Ans.fin H rfl
         ·intro a H
          replace H := H.weaken (L' := [(1, (.pointer N4)), (4, (.pointer (some (blk b18)))), (63, (.bool true))]) ⟨rfl, rfl, rfl, trivial⟩
          exact h125 _ _ _ h (H.weaken ⟨rfl, rfl, rfl, trivial⟩)
      ·replace h := h.2 h129
       refine c_any (V := [(0, (.bool A33)), (1, (.bool (!A33))), (2, (.bool (!A33))), (3, (.bool A41)), (4, (.bool (!A41))), (5, (.bool (!A41))), (6, (.bool (!A41))), (7, (.i A34)), (8, (.bool (decide (A34 ≠ 0)))), (9, (.bool (decide (A34 ≠ 0)))), (10, (.bool (decide (A34 ≠ 0)))), (11, (.i A42)), (12, (.bool (decide (A42 ≠ 0)))), (13, (.bool (decide (A42 ≠ 0)))), (14, (.bool (decide (A42 ≠ 0)))), (15, (.pointer N4))]) (⟨[[], [0], [1], [2], [2, 3], [2, 4], [2, 5], [6], [6, 7], [6, 8], [6, 9], [10], [10, 11], [10, 12], [10, 13], [14], [14, 15], [14, 16], [14, 17], [16, 18], [19], [19, 20], [19], [19, 21, 22], [19, 23]], [some 39, some 40, some 41, some 42, some 43, some 44, some 45, some 46, some 47, some 48, some 49, some 50, some 51, some 52, some 53, some 54, some 55, some 56, some 57, some 58, some 59, some 60, some 61, some 62, some 63], [16, 21], [0, 0, 0, 0, 0, 0, 0, 0, 0, 0, 0, 0, 0, 0, 0, 0, 0, 1, 1, 1, 1, 1, 1, 2, 2], [0, 0, 0, 0, 0, 0, 0, 0, 0, 0, 0, 0, 0, 0, 0, 0, 1, 1, 1, 1, 1, 2, 2, 2, 2]⟩ : Rg) [(1, (.pointer N4)), (3, (.pointer (some (blk b13)))), (4, (.pointer (some (blk b18)))), (5, (.bool A33)), (6, (.i A34)), (7, (.bool A41)), (8, (.i A42))] mixed (by kernel_rfl) H ?_
       refine Stg.eff [0, 1, 2, 3, 4, 5, 6, 7, 8, 9, 10, 11, 12, 13, 14, 15] (by kernel_rfl) rfl (.cons ?_ (.cons ?_ (.cons ?_ (.cons ?_ (.cons ?_ (.cons ?_ (.cons ?_ (.cons ?_ (.cons ?_ (.cons ?_ (.cons ?_ (.cons ?_ (.cons ?_ (.cons ?_ (.cons ?_ (.cons ?_ .nil)))))))))))))))) ?_
       ·refine Ans.mk rfl rfl fun a H => s_move H rfl rfl (lt_ rfl) fun a H => ?_
        exact Ans.fin H rfl
       ·refine Ans.mk rfl rfl fun a H => s_un H rfl rfl r_not (lt_ rfl) fun a H => ?_
        exact Ans.fin H rfl
       ·refine Ans.mk rfl rfl fun a H => s_move H rfl rfl (lt_ rfl) fun a H => ?_
        exact Ans.fin H rfl
       ·refine Ans.mk rfl rfl fun a H => ?_
        replace H := H.ch (t := 41) (b := false) rfl h126
        refine s_move H (wantG H rfl rfl) rfl (lt_ rfl) fun a H => ?_
        exact Ans.fin H rfl
       ·refine Ans.mk rfl rfl fun a H => ?_
        replace H := H.ch (t := 41) (b := false) rfl h126
        refine s_un H (wantG H rfl rfl) rfl r_not (lt_ rfl) fun a H => ?_
        exact Ans.fin H rfl
       ·refine Ans.mk rfl rfl fun a H => ?_
        replace H := H.ch (t := 41) (b := false) rfl h126
        refine s_pickF H rfl rfl rfl (lt_ rfl) fun a H => ?_
        exact Ans.fin H rfl
       ·refine Ans.mk rfl rfl fun a H => s_move H rfl rfl (lt_ rfl) fun a H => ?_
        exact Ans.fin H rfl
       ·refine Ans.mk rfl rfl fun a H => ?_
        replace H := H.ch (t := 45) (b := false) rfl h127
        refine s_move H (wantG H rfl rfl) rfl (lt_ rfl) fun a H => ?_
        exact Ans.fin H rfl
       ·refine Ans.mk rfl rfl fun a H => ?_
        replace H := H.ch (t := 45) (b := false) rfl h127
        refine s_bin H (wantG H rfl rfl) rfl rfl r_neq (lt_ rfl) fun a H => ?_
        exact Ans.fin H rfl
       ·refine Ans.mk rfl rfl fun a H => ?_
        replace H := H.ch (t := 45) (b := false) rfl h127
        refine s_pickF H rfl rfl rfl (lt_ rfl) fun a H => ?_
        exact Ans.fin H rfl
       ·refine Ans.mk rfl rfl fun a H => s_move H rfl rfl (lt_ rfl) fun a H => ?_
        exact Ans.fin H rfl
       ·refine Ans.mk rfl rfl fun a H => ?_
        replace H := H.ch (t := 49) (b := false) rfl h128
        refine s_move H (wantG H rfl rfl) rfl (lt_ rfl) fun a H => ?_
        exact Ans.fin H rfl
       ·refine Ans.mk rfl rfl fun a H => ?_
        replace H := H.ch (t := 49) (b := false) rfl h128
        refine s_bin H (wantG H rfl rfl) rfl rfl r_neq (lt_ rfl) fun a H => ?_
        exact Ans.fin H rfl
       ·refine Ans.mk rfl rfl fun a H => ?_
        replace H := H.ch (t := 49) (b := false) rfl h128
        refine s_pickF H rfl rfl rfl (lt_ rfl) fun a H => ?_
        exact Ans.fin H rfl
       ·refine Ans.mk rfl rfl fun a H => s_move H rfl rfl (lt_ rfl) fun a H => ?_
        exact Ans.fin H rfl
       ·refine Ans.mk rfl rfl fun a H => ?_
        replace H := H.ch (t := 53) (b := false) rfl h129
        refine s_move H (wantG H rfl rfl) rfl (lt_ rfl) fun a H => ?_
        exact Ans.fin H rfl
       ·intro a H
        replace H := H.weaken (L' := [(53, (.bool (decide (A42 ≠ 0)))), (54, (.pointer N4))]) ⟨rfl, rfl, trivial⟩
        replace H := H.ch (t := 53) (b := false) rfl h129
        refine s_call H (wantG H rfl rfl) body_38 (H.args (vs := [(.pointer N4), (.string (ByteArray.mk #[107]))]) rfl) (lt_ rfl) h ?_ (fun c w' h H => e_panic (P := PP) (fn := Try.f16) H h)
        clear H h a
        rintro _ w130 a ⟨F131, rfl, h⟩ H
        refine c_nil ?_
        rcases Bool.eq_false_or_eq_true (decide (F131 ≠ 1)) with h132 | h132
        ·replace h := h.1 h132
         refine effQ.go [(17, (.bool (decide (F131 ≠ 1)))), (18, (.bool (decide (F131 ≠ 1)))), (19, (.bool (decide (F131 ≠ 1)))), (20, undef), (22, undef)] H rfl rfl <| Stg.eff [17, 18, 19, 20, 22] (by kernel_rfl) rfl (.cons ?_ (.cons ?_ (.cons ?_ (.cons ?_ (.cons ?_ .nil))))) ?_
         ·refine Ans.mk rfl rfl fun a H => ?_
          replace H := H.ch (t := 53) (b := false) rfl h129
          refine s_bin H (wantG H rfl rfl) rfl rfl r_neq (lt_ rfl) fun a H => ?_
          exact Ans.fin H rfl
         ·refine Ans.mk rfl rfl fun a H => ?_
          replace H := H.ch (t := 53) (b := false) rfl h129
          refine s_pickF H rfl rfl rfl (lt_ rfl) fun a H => ?_
          exact Ans.fin H rfl
         ·refine Ans.mk rfl rfl fun a H => s_move H rfl rfl (lt_ rfl) fun a H => ?_
          exact Ans.fin H rfl
         ·exact .skip rfl rfl rfl rfl rfl rfl h132 rfl
         ·exact .skip rfl rfl rfl rfl rfl rfl h132 rfl
         ·intro a H
          replace H := H.weaken (L' := [(58, (.bool (decide (F131 ≠ 1)))), (59, undef)]) ⟨rfl, rfl, trivial⟩
          replace H := H.ch (t := 58) (b := true) rfl h132
          refine s_skip H (wantN H rfl rfl rfl) rfl (lt_ rfl) fun a H => c_nil <| effQ.go [(23, undef), (24, (.bool true))] H rfl rfl <| Stg.fin [22, 23, 24] (by kernel_rfl) (.cons ?_ (.cons ?_ (.cons ?_ .nil))) ?_
          ·exact .skip rfl rfl rfl rfl rfl rfl h132 rfl
          ·exact .skip rfl rfl rfl rfl rfl rfl h132 rfl
          ·refine Ans.mk rfl rfl fun a H => ?_
           replace H := H.ch (t := 58) (b := true) rfl h132
           refine s_pickT H rfl rfl rfl (lt_ rfl) fun a H => ?_
           exact Ans.fin H rfl
          ·intro a H
           replace H := H.weaken (L' := [(1, (.pointer N4)), (4, (.pointer (some (blk b18)))), (63, (.bool true))]) ⟨rfl, rfl, rfl, trivial⟩
           exact h125 _ _ _ h (H.weaken ⟨rfl, rfl, rfl, trivial⟩)
        ·replace h := h.2 h132
         obtain ⟨C133, hc134, C135, hc136, h⟩ := h
         refine effQ.go [(17, (.bool (decide (F131 ≠ 1)))), (18, (.bool (decide (F131 ≠ 1)))), (19, (.bool (decide (F131 ≠ 1)))), (20, (.pointer N4)), (22, (.agg #[(.i C133), (.i C135)]))] H rfl rfl <| Stg.eff [17, 18, 19, 20, 22] (by kernel_rfl) rfl (.cons ?_ (.cons ?_ (.cons ?_ (.cons ?_ (.cons ?_ .nil))))) ?_
         ·refine Ans.mk rfl rfl fun a H => ?_
          replace H := H.ch (t := 53) (b := false) rfl h129
          refine s_bin H (wantG H rfl rfl) rfl rfl r_neq (lt_ rfl) fun a H => ?_
          exact Ans.fin H rfl
         ·refine Ans.mk rfl rfl fun a H => ?_
          replace H := H.ch (t := 53) (b := false) rfl h129
          refine s_pickF H rfl rfl rfl (lt_ rfl) fun a H => ?_
          exact Ans.fin H rfl
         ·refine Ans.mk rfl rfl fun a H => s_move H rfl rfl (lt_ rfl) fun a H => ?_
          exact Ans.fin H rfl
         ·refine Ans.mk rfl rfl fun a H => ?_
          replace H := H.ch (t := 58) (b := false) rfl h132
          refine s_move H (wantG H rfl rfl) rfl (lt_ rfl) fun a H => ?_
          exact Ans.fin H rfl
         ·refine Ans.mk rfl rfl fun a H => ?_
          replace H := H.ch (t := 58) (b := false) rfl h132
          refine s_loadN (l := [(.i C133), (.i C135)]) H (wantG H rfl rfl) rfl agg_29 rfl ⟨hc134, hc136, trivial⟩ (lt_ rfl) fun a H => ?_
          exact Ans.fin H rfl
         ·intro a H
          replace H := H.weaken (L' := [(58, (.bool (decide (F131 ≠ 1)))), (59, (.pointer N4))]) ⟨rfl, rfl, trivial⟩
          replace H := H.ch (t := 58) (b := false) rfl h132
          refine s_call H (wantG H rfl rfl) body_15 (H.args (vs := [(.pointer N4), (.string (ByteArray.mk #[107]))]) rfl) (lt_ rfl) h ?_ (fun c w' h H => e_panic (P := PP) (fn := Try.f16) H h)
          clear H h a
          rintro _ w137 a ⟨C138, C139, rfl, h⟩ H
          refine c_nil ?_
          obtain ⟨hc140, hc141, h⟩ := h
          refine effQ.go [(23, (.bool (!(decide (C138 = C133) && (decide (C139 = C135)))))), (24, (.bool (!(decide (C138 = C133) && (decide (C139 = C135))))))] H rfl rfl <| Stg.fin [22, 23, 24] (by kernel_rfl) (.cons ?_ (.cons ?_ (.cons ?_ .nil))) ?_
          ·refine Ans.mk rfl rfl fun a H => ?_
           replace H := H.ch (t := 58) (b := false) rfl h132
           refine s_loadN (l := [(.i C133), (.i C135)]) H (wantG H rfl rfl) rfl agg_29 rfl ⟨hc140, hc141, trivial⟩ (lt_ rfl) fun a H => ?_
           exact Ans.fin H rfl
          ·refine Ans.mk rfl rfl fun a H => ?_
           replace H := H.ch (t := 58) (b := false) rfl h132
           refine s_bin H (wantG H rfl rfl) rfl rfl (r_nest eqg_29 (eqst_29 0) rfl) (lt_ rfl) fun a H => ?_
           exact Ans.fin H rfl
          ·refine Ans.mk rfl rfl fun a H => ?_
           replace H := H.ch (t := 58) (b := false) rfl h132
           refine s_pickF H rfl rfl rfl (lt_ rfl) fun a H => ?_
           exact Ans.fin H rfl
          ·intro a H
           replace H := H.weaken (L' := [(1, (.pointer N4)), (4, (.pointer (some (blk b18)))), (63, (.bool (!(decide (C138 = C133) && (decide (C139 = C135))))))]) ⟨rfl, rfl, rfl, trivial⟩
           exact h125 _ _ _ h (H.weaken ⟨rfl, rfl, rfl, trivial⟩)

theorem sim_sherdlaw15_sameEntries (a1 b2 : Slc) (w : World) (Q : Ending → World → Prop) (h : vc_sherdlaw15_sameEntries a1 b2 w Q) : Calls PP F_sherdlaw15_sameEntries #[a1.v, b2.v] w Q := by
 unfold vc_sherdlaw15_sameEntries at h
 refine enter (n := 27) Try.func19 rfl rfl (Nat.le_of_ble_eq_true rfl) fun a H => c_seq fun K3 hK3 => c_reg <| s_assign H rfl rfl (lt_ rfl) fun a H => c_nil <| hK3 _ _ <| c_seq fun K4 hK4 => c_seq fun K5 hK5 => c_reg <| s_move H rfl rfl (lt_ rfl) fun a H => s_blt H rfl (H.args (vs := [a1.v]) rfl) (lt_ rfl) (fun cs => b_lenS (z := a1) sl_42) fun a H => s_move H rfl rfl (lt_ rfl) fun a H => s_blt H rfl (H.args (vs := [b2.v]) rfl) (lt_ rfl) (fun cs => b_lenS (z := b2) sl_42) fun a H => ?_
 refine s_bin H rfl rfl rfl r_neq (lt_ rfl) fun a H => c_nil <| hK5 _ _ <| c_cond H rfl (fun h6 => ?_) (fun h6 => ?_)
 ·replace h := h.1 h6
  refine c_seq fun K7 hK7 => c_reg <| s_assign H rfl rfl (lt_ rfl) fun a H => c_nil <| hK7 _ _ <| c_ret ?_
  exact e_ret1 H rfl rfl h
 ·replace h := h.2 h6
  refine c_skip <| hK4 _ _ <| c_seq fun K8 hK8 => c_seq fun K9 hK9 => c_reg <| s_move H rfl rfl (lt_ rfl) fun a H => s_blt H rfl (H.args (vs := [a1.v]) rfl) (lt_ rfl) (fun cs => b_lenS (z := a1) sl_42) fun a H => s_move H rfl rfl (lt_ rfl) fun a H => c_nil <| hK9 _ _ <| c_block ?_
  obtain ⟨I12, m13, h57, h58⟩ := h
  refine c_loop (σ := Int) (fun z w => I12 z w) (fun z w => m13 z w) (fun z => [(0, a1.v), (1, b2.v), (12, (.i (a1.l : Int))), (13, (.i z))]) 0 h57 (H.weaken ⟨rfl, rfl, rfl, rfl, trivial⟩) ?_
  clear H h57
  rintro s10 a w11 h H
  replace h := h58 s10 w11 h
  clear h58
  replace H : Has 27 [] a [(0, a1.v), (1, b2.v), (12, (.i (a1.l : Int))), (13, (.i s10))] := H
  refine c_seq fun K14 hK14 => c_reg <| s_bin H rfl rfl rfl r_lss (lt_ rfl) fun a H => c_nil <| hK14 _ _ <| c_seq fun K15 hK15 => c_cond H rfl (fun h16 => ?_) (fun h16 => ?_)
  ·replace h := h.1 h16
   refine c_skip <| hK15 _ _ <| c_seq fun K17 hK17 => c_block <| c_seq fun K18 hK18 => c_reg <| s_move H rfl rfl (lt_ rfl) fun a H => s_assign H rfl rfl (lt_ rfl) fun a H => c_nil <| hK18 _ _ <| c_seq fun K19 hK19 => ?_
   replace H := H.weaken (L' := [(0, a1.v), (1, b2.v), (5, (.i s10)), (12, (.i (a1.l : Int))), (13, (.i s10))]) ⟨rfl, rfl, rfl, rfl, rfl, trivial⟩
   obtain ⟨a20, h21, h22, h23, C24, hc25, C26, hc27, F28, hc29, H30, hc31, D32, hc33, a34, h35, h36, h37, C38, hc39, C40, hc41, F42, hc43, H44, hc45, D46, hc47, h⟩ := h
   refine c_any (V := [(0, a1.v), (1, (.i s10)), (2, (.pointer (some (a20.add (Int.toNat (s10) * 5))))), (3, (.agg #[(.i C24), (.i C26), (.bool F28), (.bool H30), D32.v])), (4, b2.v), (5, (.i s10)), (6, (.pointer (some (a34.add (Int.toNat (s10) * 5))))), (7, (.agg #[(.i C38), (.i C40), (.bool F42), (.bool H44), D46.v]))]) (⟨[[], [], [0, 1], [2], [], [], [4, 5], [6], [3, 7], [8]], [some 16, some 17, some 18, some 19, some 20, some 21, some 22, some 23, some 24, some 25], [8], [0, 0, 0, 0, 0, 0, 0, 0, 0, 1], [0, 0, 0, 0, 0, 0, 0, 0, 1, 1]⟩ : Rg) [(0, a1.v), (1, b2.v), (5, (.i s10)), (12, (.i (a1.l : Int))), (13, (.i s10))] mixed (by kernel_rfl) H ?_
   refine Stg.eff [0, 1, 2, 3, 4, 5, 6, 7] (by kernel_rfl) rfl (.cons ?_ (.cons ?_ (.cons ?_ (.cons ?_ (.cons ?_ (.cons ?_ (.cons ?_ (.cons ?_ .nil)))))))) ?_
   ·refine Ans.mk rfl rfl fun a H => s_move H rfl rfl (lt_ rfl) fun a H => ?_
    exact Ans.fin H rfl
   ·refine Ans.mk rfl rfl fun a H => s_move H rfl rfl (lt_ rfl) fun a H => ?_
    exact Ans.fin H rfl
   ·refine Ans.mk rfl rfl fun a H => s_idxS (s := a1) H rfl rfl rfl slc_42 h21 h22 h23 (lt_ rfl) fun a H => ?_
    exact Ans.fin H rfl
   ·refine Ans.mk rfl rfl fun a H => s_loadN (l := [(.i C24), (.i C26), (.bool F28), (.bool H30), D32.v]) H rfl rfl agg_37 rfl ⟨hc25, hc27, hc29, hc31, hc33, trivial⟩ (lt_ rfl) fun a H => ?_
    exact Ans.fin H rfl
   ·refine Ans.mk rfl rfl fun a H => s_move H rfl rfl (lt_ rfl) fun a H => ?_
    exact Ans.fin H rfl
   ·refine Ans.mk rfl rfl fun a H => s_move H rfl rfl (lt_ rfl) fun a H => ?_
    exact Ans.fin H rfl
   ·refine Ans.mk rfl rfl fun a H => s_idxS (s := b2) H rfl rfl rfl slc_42 h35 h36 h37 (lt_ rfl) fun a H => ?_
    exact Ans.fin H rfl
   ·refine Ans.mk rfl rfl fun a H => s_loadN (l := [(.i C38), (.i C40), (.bool F42), (.bool H44), D46.v]) H rfl rfl agg_37 rfl ⟨hc39, hc41, hc43, hc45, hc47, trivial⟩ (lt_ rfl) fun a H => ?_
    exact Ans.fin H rfl
   ·intro a H
    replace H := H.weaken (L' := [(19, (.agg #[(.i C24), (.i C26), (.bool F28), (.bool H30), D32.v])), (23, (.agg #[(.i C38), (.i C40), (.bool F42), (.bool H44), D46.v]))]) ⟨rfl, rfl, trivial⟩
    refine s_call H rfl body_40 (H.args (vs := [(.agg #[(.i C24), (.i C26), (.bool F28), (.bool H30), D32.v]), (.agg #[(.i C38), (.i C40), (.bool F42), (.bool H44), D46.v])]) rfl) (lt_ rfl) h ?_ (fun c w' h H => e_panic (P := PP) (fn := Try.f19) H h)
    clear H h a
    rintro _ w48 a ⟨s49, rfl, h⟩ H
    refine c_nil <| effQ.go [(9, (.bool (!s49)))] H rfl rfl <| Stg.fin [9] (by kernel_rfl) (.cons ?_ .nil) ?_
    ·refine Ans.mk rfl rfl fun a H => s_un H rfl rfl r_not (lt_ rfl) fun a H => ?_
     exact Ans.fin H rfl
    ·intro a H
     replace H := H.weaken (L' := [(0, a1.v), (1, b2.v), (12, (.i (a1.l : Int))), (13, (.i s10)), (25, (.bool (!s49)))]) ⟨rfl, rfl, rfl, rfl, rfl, trivial⟩
     refine hK19 _ _ <| c_cond H rfl (fun h50 => ?_) (fun h50 => ?_)
     ·replace h := h.1 h50
      refine c_seq fun K51 hK51 => c_reg <| s_assign H rfl rfl (lt_ rfl) fun a H => c_nil <| hK51 _ _ <| c_ret ?_
      exact e_ret1 H rfl rfl h
     ·replace h := h.2 h50
      refine c_skip <| hK17 _ _ <| c_reg <| s_bin H rfl rfl rfl r_add (lt_ rfl) fun a H => s_move H rfl rfl (lt_ rfl) fun a H => c_nil <| Exists.intro (wr .i64 (s10 + 1)) ⟨h.1, h.2, H.weaken ⟨rfl, rfl, rfl, rfl, trivial⟩⟩
  ·replace h := h.2 h16
   refine c_exit ?_
   first | (simp only [Exit.then, Exit.inBlock, ↓reduceIte]; fail_if_success simp only [Nat.reduceEqDiff]) | simp only [Exit.then, Exit.inBlock, ↓reduceIte, Nat.reduceEqDiff]
   refine hK8 _ _ <| c_seq fun K56 hK56 => c_reg <| s_assign H rfl rfl (lt_ rfl) fun a H => c_nil <| hK56 _ _ <| c_ret ?_
   exact e_ret1 H rfl rfl h
end Go.Proofs.Ytgnceldnfefnmaa
