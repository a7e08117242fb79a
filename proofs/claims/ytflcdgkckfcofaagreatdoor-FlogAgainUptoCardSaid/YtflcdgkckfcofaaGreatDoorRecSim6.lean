/-
  The conditions give the machine's calls; printed by vcgen.py.
-/
import Derived.Test.YtflcdgkckfcofaaGreatDoorRecVc
namespace Go.Proofs.YtflcdgkckfcofaaGreatDoor
open Go Go.Vc
set_option maxRecDepth 100000
set_option maxHeartbeats 4000000
theorem sim_record_Scan (d1 : Slc) (w : World) (Q : Ending → World → Prop) (h : vc_record_Scan d1 w Q) : Calls PP F_record_Scan #[d1.v] w Q := by
 unfold vc_record_Scan at h
 refine enter (n := 49) Tryz.func62 rfl rfl (Nat.le_of_ble_eq_true rfl) fun a H => c_seq fun K2 hK2 => c_reg ?_
 replace h := h.get
 obtain ⟨b3, w4, n5, h⟩ := h
 refine s_box H rfl rfl (lt_ rfl) ?_
 rw [← n5.at_]
 clear H a
 intro a H
 refine n5.go ?_
 replace h := h.get
 obtain ⟨b6, w7, n8, h⟩ := h
 refine s_alloc H rfl zero_28 (lt_ rfl) ?_
 rw [← n8.at_]
 clear H a
 intro a H
 refine n8.go ?_
 iterate 5 refine s_assign H rfl rfl (lt_ rfl) fun a H => ?_
 refine c_nil <| hK2 _ _ <| c_seq fun K9 hK9 => c_reg ?_
 replace h := h.get
 obtain ⟨b10, w11, n12, h⟩ := h
 refine s_alloc H rfl zero_28 (lt_ rfl) ?_
 rw [← n12.at_]
 clear H a
 intro a H
 refine n12.go <| c_nil <| hK9 _ _ <| c_seq fun K13 hK13 => c_reg ?_
 replace h := h.get
 obtain ⟨b14, w15, n16, h⟩ := h
 refine s_alloc H rfl zero_3 (lt_ rfl) ?_
 rw [← n16.at_]
 clear H a
 intro a H
 refine n16.go <| c_nil <| hK13 _ _ <| c_seq fun K17 hK17 => c_seq fun K18 hK18 => c_reg <| s_mkf H rfl (H.args (vs := [(.pointer (some (blk b3))), (.pointer (some (blk b10))), (.pointer (some (blk b14)))]) rfl) (lt_ rfl) fun a H => s_call H rfl body_97 (H.args (vs := [(.func (.func F_record_Scan_c1) #[] #[(.pointer (some (blk b3))), (.pointer (some (blk b10))), (.pointer (some (blk b14)))])]) rfl) (lt_ rfl) h ?_ (fun c w' h H => e_panic (P := PP) (fn := Tryz.f62) H h)
 clear H h a
 rintro _ w19 a ⟨c20, rfl, h⟩ H
 refine s_assign H rfl rfl (lt_ rfl) fun a H => c_nil <| hK18 _ _ <| c_seq fun K21 hK21 => c_reg <| s_move H rfl rfl (lt_ rfl) fun a H => s_bin H rfl rfl rfl r_neq (lt_ rfl) fun a H => c_nil <| hK21 _ _ <| c_cond H rfl (fun h22 => ?_) (fun h22 => ?_)
 ·replace h := h.1 h22
  refine c_seq fun K23 hK23 => c_reg <| s_build H rfl (by rw [H.parts (vs := []) rfl]; exact bd_28 w19) (lt_ rfl) fun a H => s_move H rfl rfl (lt_ rfl) fun a H => s_stoN (l := [(.i 0), (.i 0), (.i 0), (.i 0)]) H rfl rfl rfl rfl agg_28 rfl rfl h ?_
  clear h H
  intro w24 h H
  iterate 5 refine s_assign H rfl rfl (lt_ rfl) fun a H => ?_
  refine c_nil <| hK23 _ _ <| c_ret ?_
  obtain ⟨N25, hc26, K27, hc28, D29, hc30, S31, hc32, h⟩ := h
  exact e_ret6 H rfl ⟨_, rfl, run_loadN (l := [(.i N25), (.i K27), (.i D29), (.i S31)]) agg_28 rfl ⟨hc26, hc28, hc30, hc32, trivial⟩⟩ rfl rfl rfl rfl rfl h
 ·replace h := h.2 h22
  refine c_skip <| hK17 _ _ <| c_seq fun K33 hK33 => ?_
  replace H := H.weaken (L' := [(1, (.pointer (some (blk b3)))), (2, (.pointer (some (blk b6)))), (8, (.pointer (some (blk b10)))), (9, (.pointer (some (blk b14))))]) ⟨rfl, rfl, rfl, rfl, trivial⟩
  obtain ⟨l36, l39, l42, l45, l48, h51, h52, h53, l54, h⟩ := h
  obtain ⟨R34, h141, h38, h41, h44, h47, h50, h56, h133, h134, h135, h136, h137, h138, h139⟩ := h
  refine c_anyF (V := [(0, l36.v), (1, (.i l39)), (2, l42.v), (3, (.i l45)), (4, (.i (wr .i64 (l45 - 4)))), (5, (.i l48)), (6, (Slc.v (l42.cut 1 (Int.toNat (wr .i64 (l45 - 4))) (Int.toNat (l48))))), (10, (.i l54))]) 6 (⟨⟨[[], [], [], [], [3], [], [2, 4, 5], [6], [7], [8], [], [10], [0, 1, 9, 11], [12], [], [0, 1, 2, 3, 4, 5, 6, 7, 8, 9, 10, 11, 12, 13, 14]], [some 19, some 20, some 21, some 22, some 23, some 24, some 25, some 26, some 27, some 28, some 29, some 30, some 31, some 32, some 11, none], [7, 9, 11, 13, 14, 15], [], []⟩, [[], [], [], [], [], [], [], [], [7], [7], [], [], [7, 9, 11], [7, 9, 11], [], [7, 9, 11, 13, 14]], [[13, 15], [13, 15], [7, 9, 13, 15], [7, 9, 13, 15], [7, 9, 13, 15], [7, 9, 13, 15], [7, 9, 13, 15], [9, 13, 15], [9, 13, 15], [13, 15], [11, 13, 15], [13, 15], [13, 15], [15], [15], []]⟩ : Rh) [(1, (.pointer (some (blk b3)))), (2, (.pointer (some (blk b6)))), (8, (.pointer (some (blk b10)))), (9, (.pointer (some (blk b14))))] mixed (by kernel_rfl) H fun F142 h140 => ?_
  clear H a
  have st_7_9_11_13_14_15 : ∀ (C58 : Slc) (b63 : Nat) (b66 : Nat) (b69 : Nat) (b72 : Nat) (w35 : World), R34 (some C58) (some b63) (some b66) (some b69) (some b72) (some ()) w35 → F142 0 [7, 9, 11, 13, 14, 15] [(0, l36.v), (1, (.i l39)), (2, l42.v), (3, (.i l45)), (4, (.i (wr .i64 (l45 - 4)))), (5, (.i l48)), (6, (Slc.v (l42.cut 1 (Int.toNat (wr .i64 (l45 - 4))) (Int.toNat (l48))))), (7, C58.v), (8, (.agg #[C58.v, (.i 0)])), (9, (.pointer (some (blk b63)))), (10, (.i l54)), (11, (Slc.v (Slc.mk (some (blk b66)) 1 1))), (12, (.agg #[l36.v, (.i l39), (.pointer (some (blk b63))), Slc.nil.v, (Slc.v (Slc.mk (some (blk b66)) 1 1))])), (13, (.pointer (some (blk b69)))), (14, (.pointer (some (blk b72)))), (15, undef)] w35 := by
   intro C58 b63 b66 b69 b72 w35 hr
   rw [h140]
   refine StT.last [] (by kernel_rfl) (by kernel_rfl) .nil ?_
   ·intro a H
    have h := h139 C58 b63 b66 b69 b72 w35 hr
    replace H := H.weaken (L' := [(1, (.pointer (some (blk b3)))), (2, (.pointer (some (blk b6)))), (8, (.pointer (some (blk b10)))), (11, (.pointer (some (blk b72))))]) ⟨rfl, rfl, rfl, rfl, trivial⟩
    refine hK33 _ _ <| c_seq fun K84 hK84 => c_reg <| s_mkf H rfl (H.args (vs := [(.pointer (some (blk b72))), (.pointer (some (blk b3)))]) rfl) (lt_ rfl) fun a H => s_call H rfl body_97 (H.args (vs := [(.func (.func F_record_Scan_c2) #[] #[(.pointer (some (blk b72))), (.pointer (some (blk b3)))])]) rfl) (lt_ rfl) h ?_ (fun c w' h H => e_panic (P := PP) (fn := Tryz.f62) H h)
    clear H h a
    rintro _ w85 a ⟨c86, rfl, h⟩ H
    refine s_assign H rfl rfl (lt_ rfl) fun a H => c_nil <| hK84 _ _ <| c_seq fun K87 hK87 => ?_
    replace H := H.weaken (L' := [(2, (.pointer (some (blk b6)))), (8, (.pointer (some (blk b10)))), (11, (.pointer (some (blk b72)))), (12, (.i c86))]) ⟨rfl, rfl, rfl, rfl, trivial⟩
    obtain ⟨N88, hc89, K90, hc91, D92, hc93, S94, hc95, l96, hc97, a98, h99, h⟩ := h
    revert H
    subst h99
    intro H
    obtain ⟨l100, hc101, l102, hc103, a104, h105, h⟩ := h
    revert H
    subst h105
    intro H
    obtain ⟨l106, hc107, l108, hc109, a110, h111, h⟩ := h
    revert H
    subst h111
    intro H
    obtain ⟨l112, hc113, h⟩ := h
    refine c_any (V := [(0, (.agg #[(.i N88), (.i K90), (.i D92), (.i S94)])), (1, (.pointer (some a98))), (2, (.pointer (some a98))), (3, (.pointer (some (a98.add 3)))), (4, l100.v), (5, (.pointer (some a104))), (6, (.pointer (some a104))), (7, (.pointer (some (a104.add 4)))), (8, l106.v), (9, (.i c86)), (10, (.pointer (some a110))), (11, (.pointer (some a110))), (12, (.pointer (some (a110.add 2)))), (13, (.pointer l112))]) (⟨[[], [], [1], [2], [3], [], [5], [6], [7], [], [], [10], [11], [12], [0], [0, 1, 2, 3, 4, 14], [0, 1, 2, 3, 4, 5, 6, 7, 8, 14, 15], [0, 1, 2, 3, 4, 5, 6, 7, 8, 9, 14, 15, 16], [0, 1, 2, 3, 4, 5, 6, 7, 8, 9, 10, 11, 12, 13, 14, 15, 16, 17], [0, 1, 2, 3, 4, 5, 6, 7, 8, 9, 10, 11, 12, 13, 14, 15, 16, 17, 18]], [some 35, some 36, some 37, some 38, some 39, some 40, some 41, some 42, some 43, some 44, some 45, some 46, some 47, some 48, none, some 3, some 4, some 5, some 6, some 7], [14], [0, 0, 0, 0, 0, 0, 0, 0, 0, 0, 0, 0, 0, 0, 0, 1, 1, 1, 1, 1], [0, 1, 1, 1, 1, 1, 1, 1, 1, 1, 1, 1, 1, 1, 1, 1, 1, 1, 1, 1]⟩ : Rg) [(2, (.pointer (some (blk b6)))), (8, (.pointer (some (blk b10)))), (11, (.pointer (some (blk b72)))), (12, (.i c86))] mixed (by kernel_rfl) H ?_
    refine Stg.eff [0, 1, 2, 3, 4, 5, 6, 7, 8, 9, 10, 11, 12, 13] (by kernel_rfl) rfl (.cons ?_ (.cons ?_ (.cons ?_ (.cons ?_ (.cons ?_ (.cons ?_ (.cons ?_ (.cons ?_ (.cons ?_ (.cons ?_ (.cons ?_ (.cons ?_ (.cons ?_ (.cons ?_ .nil)))))))))))))) ?_
    ·refine Ans.mk rfl rfl fun a H => s_loadN (l := [(.i N88), (.i K90), (.i D92), (.i S94)]) H rfl rfl agg_28 rfl ⟨hc89, hc91, hc93, hc95, trivial⟩ (lt_ rfl) fun a H => ?_
     exact Ans.fin H rfl
    ·refine Ans.mk rfl rfl fun a H => s_load (v := (.pointer (some a98))) H rfl rfl one_161 hc97 (lt_ rfl) fun a H => ?_
     exact Ans.fin H rfl
    ·refine Ans.mk rfl rfl fun a H => s_nil H rfl rfl (lt_ rfl) fun a H => ?_
     exact Ans.fin H rfl
    ·refine Ans.mk rfl rfl fun a H => s_fld H rfl rfl fld_163_3 (lt_ rfl) fun a H => ?_
     exact Ans.fin H rfl
    ·refine Ans.mk rfl rfl fun a H => s_load (v := l100.v) H rfl rfl one_23 hc101 (lt_ rfl) fun a H => ?_
     exact Ans.fin H rfl
    ·refine Ans.mk rfl rfl fun a H => s_load (v := (.pointer (some a104))) H rfl rfl one_161 hc103 (lt_ rfl) fun a H => ?_
     exact Ans.fin H rfl
    ·refine Ans.mk rfl rfl fun a H => s_nil H rfl rfl (lt_ rfl) fun a H => ?_
     exact Ans.fin H rfl
    ·refine Ans.mk rfl rfl fun a H => s_fld H rfl rfl fld_163_4 (lt_ rfl) fun a H => ?_
     exact Ans.fin H rfl
    ·refine Ans.mk rfl rfl fun a H => s_load (v := l106.v) H rfl rfl one_24 hc107 (lt_ rfl) fun a H => ?_
     exact Ans.fin H rfl
    ·refine Ans.mk rfl rfl fun a H => s_move H rfl rfl (lt_ rfl) fun a H => ?_
     exact Ans.fin H rfl
    ·refine Ans.mk rfl rfl fun a H => s_load (v := (.pointer (some a110))) H rfl rfl one_161 hc109 (lt_ rfl) fun a H => ?_
     exact Ans.fin H rfl
    ·refine Ans.mk rfl rfl fun a H => s_nil H rfl rfl (lt_ rfl) fun a H => ?_
     exact Ans.fin H rfl
    ·refine Ans.mk rfl rfl fun a H => s_fld H rfl rfl fld_163_2 (lt_ rfl) fun a H => ?_
     exact Ans.fin H rfl
    ·refine Ans.mk rfl rfl fun a H => s_load (v := (.pointer l112)) H rfl rfl one_93 hc113 (lt_ rfl) fun a H => ?_
     exact Ans.fin H rfl
    ·intro a H
     replace H := H.weaken (L' := [(2, (.pointer (some (blk b6)))), (35, (.agg #[(.i N88), (.i K90), (.i D92), (.i S94)]))]) ⟨rfl, rfl, trivial⟩
     refine s_stoN (l := [(.i N88), (.i K90), (.i D92), (.i S94)]) H rfl rfl rfl rfl agg_28 rfl rfl h ?_
     clear h H
     intro w114 h H
     refine c_nil ?_
     obtain ⟨hc115, hc116, hc117, hc118, hc119, hc120, h⟩ := h
     refine effQ.go0 [(15, l100.v), (16, l106.v), (17, (.i c86)), (18, (.pointer l112)), (19, (.i 0))] H rfl rfl <| Stg.fin [1, 2, 3, 4, 5, 6, 7, 8, 9, 10, 11, 12, 13, 15, 16, 17, 18, 19] (by kernel_rfl) (.cons ?_ (.cons ?_ (.cons ?_ (.cons ?_ (.cons ?_ (.cons ?_ (.cons ?_ (.cons ?_ (.cons ?_ (.cons ?_ (.cons ?_ (.cons ?_ (.cons ?_ (.cons ?_ (.cons ?_ (.cons ?_ (.cons ?_ (.cons ?_ .nil)))))))))))))))))) ?_
     ·refine Ans.mk rfl rfl fun a H => s_load (v := (.pointer (some a98))) H rfl rfl one_161 hc115 (lt_ rfl) fun a H => ?_
      exact Ans.fin H rfl
     ·refine Ans.mk rfl rfl fun a H => s_nil H rfl rfl (lt_ rfl) fun a H => ?_
      exact Ans.fin H rfl
     ·refine Ans.mk rfl rfl fun a H => s_fld H rfl rfl fld_163_3 (lt_ rfl) fun a H => ?_
      exact Ans.fin H rfl
     ·refine Ans.mk rfl rfl fun a H => s_load (v := l100.v) H rfl rfl one_23 hc116 (lt_ rfl) fun a H => ?_
      exact Ans.fin H rfl
     ·refine Ans.mk rfl rfl fun a H => s_load (v := (.pointer (some a104))) H rfl rfl one_161 hc117 (lt_ rfl) fun a H => ?_
      exact Ans.fin H rfl
     ·refine Ans.mk rfl rfl fun a H => s_nil H rfl rfl (lt_ rfl) fun a H => ?_
      exact Ans.fin H rfl
     ·refine Ans.mk rfl rfl fun a H => s_fld H rfl rfl fld_163_4 (lt_ rfl) fun a H => ?_
      exact Ans.fin H rfl
     ·refine Ans.mk rfl rfl fun a H => s_load (v := l106.v) H rfl rfl one_24 hc118 (lt_ rfl) fun a H => ?_
      exact Ans.fin H rfl
     ·refine Ans.mk rfl rfl fun a H => s_move H rfl rfl (lt_ rfl) fun a H => ?_
      exact Ans.fin H rfl
     ·refine Ans.mk rfl rfl fun a H => s_load (v := (.pointer (some a110))) H rfl rfl one_161 hc119 (lt_ rfl) fun a H => ?_
      exact Ans.fin H rfl
     ·refine Ans.mk rfl rfl fun a H => s_nil H rfl rfl (lt_ rfl) fun a H => ?_
      exact Ans.fin H rfl
     ·refine Ans.mk rfl rfl fun a H => s_fld H rfl rfl fld_163_2 (lt_ rfl) fun a H => ?_
      exact Ans.fin H rfl
     ·refine Ans.mk rfl rfl fun a H => s_load (v := (.pointer l112)) H rfl rfl one_93 hc120 (lt_ rfl) fun a H => ?_
      exact Ans.fin H rfl
     ·refine Ans.mk rfl rfl fun a H => s_assign H rfl rfl (lt_ rfl) fun a H => ?_
      exact Ans.fin H rfl
     ·refine Ans.mk rfl rfl fun a H => s_assign H rfl rfl (lt_ rfl) fun a H => ?_
      exact Ans.fin H rfl
     ·refine Ans.mk rfl rfl fun a H => s_assign H rfl rfl (lt_ rfl) fun a H => ?_
      exact Ans.fin H rfl
     ·refine Ans.mk rfl rfl fun a H => s_assign H rfl rfl (lt_ rfl) fun a H => ?_
      exact Ans.fin H rfl
     ·refine Ans.mk rfl rfl fun a H => s_assign H rfl rfl (lt_ rfl) fun a H => ?_
      exact Ans.fin H rfl
     ·intro a H
      replace H := H.weaken (L' := [(2, (.pointer (some (blk b6)))), (3, l100.v), (4, l106.v), (5, (.i c86)), (6, (.pointer l112)), (7, (.i 0))]) ⟨rfl, rfl, rfl, rfl, rfl, rfl, trivial⟩
      refine hK87 _ _ <| c_ret ?_
      obtain ⟨N121, hc122, K123, hc124, D125, hc126, S127, hc128, h⟩ := h
      exact e_ret6 H rfl ⟨_, rfl, run_loadN (l := [(.i N121), (.i K123), (.i D125), (.i S127)]) agg_28 rfl ⟨hc122, hc124, hc126, hc128, trivial⟩⟩ rfl rfl rfl rfl rfl h
  have st_7_9_11_13_14 : ∀ (C58 : Slc) (b63 : Nat) (b66 : Nat) (b69 : Nat) (b72 : Nat) (w35 : World), R34 (some C58) (some b63) (some b66) (some b69) (some b72) none w35 → F142 1 [7, 9, 11, 13, 14] [(0, l36.v), (1, (.i l39)), (2, l42.v), (3, (.i l45)), (4, (.i (wr .i64 (l45 - 4)))), (5, (.i l48)), (6, (Slc.v (l42.cut 1 (Int.toNat (wr .i64 (l45 - 4))) (Int.toNat (l48))))), (7, C58.v), (8, (.agg #[C58.v, (.i 0)])), (9, (.pointer (some (blk b63)))), (10, (.i l54)), (11, (Slc.v (Slc.mk (some (blk b66)) 1 1))), (12, (.agg #[l36.v, (.i l39), (.pointer (some (blk b63))), Slc.nil.v, (Slc.v (Slc.mk (some (blk b66)) 1 1))])), (13, (.pointer (some (blk b69)))), (14, (.pointer (some (blk b72))))] w35 := by
   intro C58 b63 b66 b69 b72 w35 hr
   rw [h140]
   refine StT.more [] [15] (by kernel_rfl) (by kernel_rfl) (by kernel_rfl) .nil (.cons ?_ .nil)
   ·refine ⟨_, rfl, fun a H => ?_⟩
    replace H := H.weaken (L' := [(11, (.pointer (some (blk b72)))), (32, (.pointer (some (blk b69))))]) ⟨rfl, rfl, trivial⟩
    have h := h138 C58 b63 b66 b69 b72 w35 hr
    obtain ⟨h76, h77, h⟩ := h
    refine s_sto (p := blk b72) (v := (.pointer (some (blk b69)))) H rfl rfl rfl rfl one_161 rfl h76 h77 ?_
    clear H
    intro H
    generalize hww75 : World.setCell w35 (blk b72) (.pointer (some (blk b69))) = w75 at h ⊢
    have w75S : SetAt w35 (blk b72) (.pointer (some (blk b69))) w75 := ⟨hww75.symm⟩
    clear hww75 h76 h77
    refine c_nil ?_
    refine effQ.ok (v := undef) (H.weaken (L' := []) trivial) ⟨[(0, l36.v), (1, (.i l39)), (2, l42.v), (3, (.i l45)), (4, (.i (wr .i64 (l45 - 4)))), (5, (.i l48)), (6, (Slc.v (l42.cut 1 (Int.toNat (wr .i64 (l45 - 4))) (Int.toNat (l48))))), (7, C58.v), (8, (.agg #[C58.v, (.i 0)])), (9, (.pointer (some (blk b63)))), (10, (.i l54)), (11, (Slc.v (Slc.mk (some (blk b66)) 1 1))), (12, (.agg #[l36.v, (.i l39), (.pointer (some (blk b63))), Slc.nil.v, (Slc.v (Slc.mk (some (blk b66)) 1 1))])), (13, (.pointer (some (blk b69)))), (14, (.pointer (some (blk b72)))), (15, undef)], ⟨rfl, rfl, rfl, rfl, rfl, rfl, rfl, rfl, rfl, rfl, rfl, rfl, rfl, rfl, rfl, rfl, trivial⟩, ?_⟩
    have hx := st_7_9_11_13_14_15 C58 b63 b66 b69 b72 w75 h
    rw [h140] at hx
    exact hx
  have st_7_9_11_13 : ∀ (C58 : Slc) (b63 : Nat) (b66 : Nat) (b69 : Nat) (w35 : World), R34 (some C58) (some b63) (some b66) (some b69) none none w35 → F142 2 [7, 9, 11, 13] [(0, l36.v), (1, (.i l39)), (2, l42.v), (3, (.i l45)), (4, (.i (wr .i64 (l45 - 4)))), (5, (.i l48)), (6, (Slc.v (l42.cut 1 (Int.toNat (wr .i64 (l45 - 4))) (Int.toNat (l48))))), (7, C58.v), (8, (.agg #[C58.v, (.i 0)])), (9, (.pointer (some (blk b63)))), (10, (.i l54)), (11, (Slc.v (Slc.mk (some (blk b66)) 1 1))), (12, (.agg #[l36.v, (.i l39), (.pointer (some (blk b63))), Slc.nil.v, (Slc.v (Slc.mk (some (blk b66)) 1 1))])), (13, (.pointer (some (blk b69))))] w35 := by
   intro C58 b63 b66 b69 w35 hr
   rw [h140]
   refine StT.more [] [14] (by kernel_rfl) (by kernel_rfl) (by kernel_rfl) .nil (.cons ?_ .nil)
   ·refine ⟨_, rfl, fun a H => ?_⟩
    replace H := H.weaken (L' := []) trivial
    have h := h137 (some C58) (some b63) (some b66) (some b69) w35 hr
    replace h := h.get
    obtain ⟨b72, w73, n74, h⟩ := h
    refine s_alloc H rfl zero_161 (lt_ rfl) ?_
    rw [← n74.at_]
    clear H a
    intro a H
    refine n74.go <| c_nil ?_
    refine effQ.ok (v := (.pointer (some (blk b72)))) (H.weaken (L' := [(11, (.pointer (some (blk b72))))]) ⟨rfl, trivial⟩) ⟨[(0, l36.v), (1, (.i l39)), (2, l42.v), (3, (.i l45)), (4, (.i (wr .i64 (l45 - 4)))), (5, (.i l48)), (6, (Slc.v (l42.cut 1 (Int.toNat (wr .i64 (l45 - 4))) (Int.toNat (l48))))), (7, C58.v), (8, (.agg #[C58.v, (.i 0)])), (9, (.pointer (some (blk b63)))), (10, (.i l54)), (11, (Slc.v (Slc.mk (some (blk b66)) 1 1))), (12, (.agg #[l36.v, (.i l39), (.pointer (some (blk b63))), Slc.nil.v, (Slc.v (Slc.mk (some (blk b66)) 1 1))])), (13, (.pointer (some (blk b69)))), (14, (.pointer (some (blk b72))))], ⟨rfl, rfl, rfl, rfl, rfl, rfl, rfl, rfl, rfl, rfl, rfl, rfl, rfl, rfl, rfl, trivial⟩, ?_⟩
    have hx := st_7_9_11_13_14 C58 b63 b66 b69 b72 w73 h
    rw [h140] at hx
    exact hx
  have st_7_9_11_14 : ∀ (C58 : Slc) (b63 : Nat) (b66 : Nat) (b72 : Nat) (w35 : World), R34 (some C58) (some b63) (some b66) none (some b72) none w35 → F142 2 [7, 9, 11, 14] [(0, l36.v), (1, (.i l39)), (2, l42.v), (3, (.i l45)), (4, (.i (wr .i64 (l45 - 4)))), (5, (.i l48)), (6, (Slc.v (l42.cut 1 (Int.toNat (wr .i64 (l45 - 4))) (Int.toNat (l48))))), (7, C58.v), (8, (.agg #[C58.v, (.i 0)])), (9, (.pointer (some (blk b63)))), (10, (.i l54)), (11, (Slc.v (Slc.mk (some (blk b66)) 1 1))), (12, (.agg #[l36.v, (.i l39), (.pointer (some (blk b63))), Slc.nil.v, (Slc.v (Slc.mk (some (blk b66)) 1 1))])), (14, (.pointer (some (blk b72))))] w35 := by
   intro C58 b63 b66 b72 w35 hr
   rw [h140]
   refine StT.more [0, 1, 12] [13] (by kernel_rfl) (by kernel_rfl) (by kernel_rfl) (.cons ?_ (.cons ?_ (.cons ?_ .nil))) (.cons ?_ .nil)
   ·refine Ans.mk rfl rfl fun a H => ?_
    replace H := H.weaken (L' := [(1, (.pointer (some (blk b3))))]) ⟨rfl, trivial⟩
    obtain hc37 := h38 (some C58) (some b63) (some b66) (some b72) w35 hr
    refine s_load (v := l36.v) H rfl rfl one_51 hc37 (lt_ rfl) fun a H => c_nil ⟨rfl, rfl, H.weaken (L' := [(19, l36.v)]) ⟨rfl, trivial⟩⟩
   ·refine Ans.mk rfl rfl fun a H => ?_
    replace H := H.weaken (L' := [(9, (.pointer (some (blk b14))))]) ⟨rfl, trivial⟩
    obtain hc40 := h41 (some C58) (some b63) (some b66) (some b72) w35 hr
    refine s_load (v := (.i l39)) H rfl rfl one_3 hc40 (lt_ rfl) fun a H => c_nil ⟨rfl, rfl, H.weaken (L' := [(20, (.i l39))]) ⟨rfl, trivial⟩⟩
   ·refine Ans.mk rfl rfl fun a H => ?_
    replace H := H.weaken (L' := [(19, l36.v), (20, (.i l39)), (28, (.pointer (some (blk b63)))), (30, (Slc.v (Slc.mk (some (blk b66)) 1 1)))]) ⟨rfl, rfl, rfl, rfl, trivial⟩
    refine s_build H rfl (by rw [H.parts (vs := [(0, l36.v), (1, (.i l39)), (2, (.pointer (some (blk b63)))), (4, (Slc.v (Slc.mk (some (blk b66)) 1 1)))]) rfl]; exact bd_163_s0_ii641_p2_s4 w35 l36 l39 (some (blk b63)) (Slc.mk (some (blk b66)) 1 1)) (lt_ rfl) fun a H => c_nil ⟨rfl, rfl, H.weaken (L' := [(31, (.agg #[l36.v, (.i l39), (.pointer (some (blk b63))), Slc.nil.v, (Slc.v (Slc.mk (some (blk b66)) 1 1))]))]) ⟨rfl, trivial⟩⟩
   ·refine ⟨_, rfl, fun a H => ?_⟩
    replace H := H.weaken (L' := [(31, (.agg #[l36.v, (.i l39), (.pointer (some (blk b63))), Slc.nil.v, (Slc.v (Slc.mk (some (blk b66)) 1 1))]))]) ⟨rfl, trivial⟩
    have h := h136 C58 b63 b66 (some b72) w35 hr
    replace h := h.get
    obtain ⟨b69, w70, n71, h⟩ := h
    refine s_box H rfl rfl (lt_ rfl) ?_
    rw [← n71.at_]
    clear H a
    intro a H
    refine n71.go <| c_nil ?_
    refine effQ.ok (v := (.pointer (some (blk b69)))) (H.weaken (L' := [(32, (.pointer (some (blk b69))))]) ⟨rfl, trivial⟩) ⟨[(0, l36.v), (1, (.i l39)), (2, l42.v), (3, (.i l45)), (4, (.i (wr .i64 (l45 - 4)))), (5, (.i l48)), (6, (Slc.v (l42.cut 1 (Int.toNat (wr .i64 (l45 - 4))) (Int.toNat (l48))))), (7, C58.v), (8, (.agg #[C58.v, (.i 0)])), (9, (.pointer (some (blk b63)))), (10, (.i l54)), (11, (Slc.v (Slc.mk (some (blk b66)) 1 1))), (12, (.agg #[l36.v, (.i l39), (.pointer (some (blk b63))), Slc.nil.v, (Slc.v (Slc.mk (some (blk b66)) 1 1))])), (13, (.pointer (some (blk b69)))), (14, (.pointer (some (blk b72))))], ⟨rfl, rfl, rfl, rfl, rfl, rfl, rfl, rfl, rfl, rfl, rfl, rfl, rfl, rfl, rfl, trivial⟩, ?_⟩
    have hx := st_7_9_11_13_14 C58 b63 b66 b69 b72 w70 h
    rw [h140] at hx
    exact hx
  have st_7_9_11 : ∀ (C58 : Slc) (b63 : Nat) (b66 : Nat) (w35 : World), R34 (some C58) (some b63) (some b66) none none none w35 → F142 3 [7, 9, 11] [(0, l36.v), (1, (.i l39)), (2, l42.v), (3, (.i l45)), (4, (.i (wr .i64 (l45 - 4)))), (5, (.i l48)), (6, (Slc.v (l42.cut 1 (Int.toNat (wr .i64 (l45 - 4))) (Int.toNat (l48))))), (7, C58.v), (8, (.agg #[C58.v, (.i 0)])), (9, (.pointer (some (blk b63)))), (10, (.i l54)), (11, (Slc.v (Slc.mk (some (blk b66)) 1 1))), (12, (.agg #[l36.v, (.i l39), (.pointer (some (blk b63))), Slc.nil.v, (Slc.v (Slc.mk (some (blk b66)) 1 1))]))] w35 := by
   intro C58 b63 b66 w35 hr
   rw [h140]
   refine StT.more [0, 1, 12] [13, 14] (by kernel_rfl) (by kernel_rfl) (by kernel_rfl) (.cons ?_ (.cons ?_ (.cons ?_ .nil))) (.cons ?_ (.cons ?_ .nil))
   ·refine Ans.mk rfl rfl fun a H => ?_
    replace H := H.weaken (L' := [(1, (.pointer (some (blk b3))))]) ⟨rfl, trivial⟩
    obtain hc37 := h38 (some C58) (some b63) (some b66) none w35 hr
    refine s_load (v := l36.v) H rfl rfl one_51 hc37 (lt_ rfl) fun a H => c_nil ⟨rfl, rfl, H.weaken (L' := [(19, l36.v)]) ⟨rfl, trivial⟩⟩
   ·refine Ans.mk rfl rfl fun a H => ?_
    replace H := H.weaken (L' := [(9, (.pointer (some (blk b14))))]) ⟨rfl, trivial⟩
    obtain hc40 := h41 (some C58) (some b63) (some b66) none w35 hr
    refine s_load (v := (.i l39)) H rfl rfl one_3 hc40 (lt_ rfl) fun a H => c_nil ⟨rfl, rfl, H.weaken (L' := [(20, (.i l39))]) ⟨rfl, trivial⟩⟩
   ·refine Ans.mk rfl rfl fun a H => ?_
    replace H := H.weaken (L' := [(19, l36.v), (20, (.i l39)), (28, (.pointer (some (blk b63)))), (30, (Slc.v (Slc.mk (some (blk b66)) 1 1)))]) ⟨rfl, rfl, rfl, rfl, trivial⟩
    refine s_build H rfl (by rw [H.parts (vs := [(0, l36.v), (1, (.i l39)), (2, (.pointer (some (blk b63)))), (4, (Slc.v (Slc.mk (some (blk b66)) 1 1)))]) rfl]; exact bd_163_s0_ii641_p2_s4 w35 l36 l39 (some (blk b63)) (Slc.mk (some (blk b66)) 1 1)) (lt_ rfl) fun a H => c_nil ⟨rfl, rfl, H.weaken (L' := [(31, (.agg #[l36.v, (.i l39), (.pointer (some (blk b63))), Slc.nil.v, (Slc.v (Slc.mk (some (blk b66)) 1 1))]))]) ⟨rfl, trivial⟩⟩
   ·refine ⟨_, rfl, fun a H => ?_⟩
    replace H := H.weaken (L' := [(31, (.agg #[l36.v, (.i l39), (.pointer (some (blk b63))), Slc.nil.v, (Slc.v (Slc.mk (some (blk b66)) 1 1))]))]) ⟨rfl, trivial⟩
    have h := h136 C58 b63 b66 none w35 hr
    replace h := h.get
    obtain ⟨b69, w70, n71, h⟩ := h
    refine s_box H rfl rfl (lt_ rfl) ?_
    rw [← n71.at_]
    clear H a
    intro a H
    refine n71.go <| c_nil ?_
    refine effQ.ok (v := (.pointer (some (blk b69)))) (H.weaken (L' := [(32, (.pointer (some (blk b69))))]) ⟨rfl, trivial⟩) ⟨[(0, l36.v), (1, (.i l39)), (2, l42.v), (3, (.i l45)), (4, (.i (wr .i64 (l45 - 4)))), (5, (.i l48)), (6, (Slc.v (l42.cut 1 (Int.toNat (wr .i64 (l45 - 4))) (Int.toNat (l48))))), (7, C58.v), (8, (.agg #[C58.v, (.i 0)])), (9, (.pointer (some (blk b63)))), (10, (.i l54)), (11, (Slc.v (Slc.mk (some (blk b66)) 1 1))), (12, (.agg #[l36.v, (.i l39), (.pointer (some (blk b63))), Slc.nil.v, (Slc.v (Slc.mk (some (blk b66)) 1 1))])), (13, (.pointer (some (blk b69))))], ⟨rfl, rfl, rfl, rfl, rfl, rfl, rfl, rfl, rfl, rfl, rfl, rfl, rfl, rfl, trivial⟩, ?_⟩
    have hx := st_7_9_11_13 C58 b63 b66 b69 w70 h
    rw [h140] at hx
    exact hx
   ·refine ⟨_, rfl, fun a H => ?_⟩
    replace H := H.weaken (L' := []) trivial
    have h := h137 (some C58) (some b63) (some b66) none w35 hr
    replace h := h.get
    obtain ⟨b72, w73, n74, h⟩ := h
    refine s_alloc H rfl zero_161 (lt_ rfl) ?_
    rw [← n74.at_]
    clear H a
    intro a H
    refine n74.go <| c_nil ?_
    refine effQ.ok (v := (.pointer (some (blk b72)))) (H.weaken (L' := [(11, (.pointer (some (blk b72))))]) ⟨rfl, trivial⟩) ⟨[(0, l36.v), (1, (.i l39)), (2, l42.v), (3, (.i l45)), (4, (.i (wr .i64 (l45 - 4)))), (5, (.i l48)), (6, (Slc.v (l42.cut 1 (Int.toNat (wr .i64 (l45 - 4))) (Int.toNat (l48))))), (7, C58.v), (8, (.agg #[C58.v, (.i 0)])), (9, (.pointer (some (blk b63)))), (10, (.i l54)), (11, (Slc.v (Slc.mk (some (blk b66)) 1 1))), (12, (.agg #[l36.v, (.i l39), (.pointer (some (blk b63))), Slc.nil.v, (Slc.v (Slc.mk (some (blk b66)) 1 1))])), (14, (.pointer (some (blk b72))))], ⟨rfl, rfl, rfl, rfl, rfl, rfl, rfl, rfl, rfl, rfl, rfl, rfl, rfl, rfl, trivial⟩, ?_⟩
    have hx := st_7_9_11_14 C58 b63 b66 b72 w73 h
    rw [h140] at hx
    exact hx
  have st_7_9_14 : ∀ (C58 : Slc) (b63 : Nat) (b72 : Nat) (w35 : World), R34 (some C58) (some b63) none none (some b72) none w35 → F142 3 [7, 9, 14] [(0, l36.v), (1, (.i l39)), (2, l42.v), (3, (.i l45)), (4, (.i (wr .i64 (l45 - 4)))), (5, (.i l48)), (6, (Slc.v (l42.cut 1 (Int.toNat (wr .i64 (l45 - 4))) (Int.toNat (l48))))), (7, C58.v), (8, (.agg #[C58.v, (.i 0)])), (9, (.pointer (some (blk b63)))), (10, (.i l54)), (14, (.pointer (some (blk b72))))] w35 := by
   intro C58 b63 b72 w35 hr
   rw [h140]
   refine StT.more [0, 1, 10] [11] (by kernel_rfl) (by kernel_rfl) (by kernel_rfl) (.cons ?_ (.cons ?_ (.cons ?_ .nil))) (.cons ?_ .nil)
   ·refine Ans.mk rfl rfl fun a H => ?_
    replace H := H.weaken (L' := [(1, (.pointer (some (blk b3))))]) ⟨rfl, trivial⟩
    obtain hc37 := h38 (some C58) (some b63) none (some b72) w35 hr
    refine s_load (v := l36.v) H rfl rfl one_51 hc37 (lt_ rfl) fun a H => c_nil ⟨rfl, rfl, H.weaken (L' := [(19, l36.v)]) ⟨rfl, trivial⟩⟩
   ·refine Ans.mk rfl rfl fun a H => ?_
    replace H := H.weaken (L' := [(9, (.pointer (some (blk b14))))]) ⟨rfl, trivial⟩
    obtain hc40 := h41 (some C58) (some b63) none (some b72) w35 hr
    refine s_load (v := (.i l39)) H rfl rfl one_3 hc40 (lt_ rfl) fun a H => c_nil ⟨rfl, rfl, H.weaken (L' := [(20, (.i l39))]) ⟨rfl, trivial⟩⟩
   ·refine Ans.mk rfl rfl fun a H => ?_
    replace H := H.weaken (L' := [(9, (.pointer (some (blk b14))))]) ⟨rfl, trivial⟩
    obtain hc55 := h56 (some C58) (some b63) (some b72) w35 hr
    refine s_load (v := (.i l54)) H rfl rfl one_3 hc55 (lt_ rfl) fun a H => c_nil ⟨rfl, rfl, H.weaken (L' := [(29, (.i l54))]) ⟨rfl, trivial⟩⟩
   ·refine ⟨_, rfl, fun a H => ?_⟩
    replace H := H.weaken (L' := [(29, (.i l54))]) ⟨rfl, trivial⟩
    have h := h135 (some C58) (some b63) (some b72) w35 hr
    replace h := h.get
    obtain ⟨b66, w67, n68, h⟩ := h
    refine s_bslc H rfl (by rw [H.parts (vs := [(0, (.i l54))]) rfl]; exact bs_24_1_ii640 w35 l54) (lt_ rfl) ?_
    rw [← n68.at_]
    clear H a
    intro a H
    refine n68.go <| c_nil ?_
    refine effQ.ok (v := (Slc.v (Slc.mk (some (blk b66)) 1 1))) (H.weaken (L' := [(30, (Slc.v (Slc.mk (some (blk b66)) 1 1)))]) ⟨rfl, trivial⟩) ⟨[(0, l36.v), (1, (.i l39)), (2, l42.v), (3, (.i l45)), (4, (.i (wr .i64 (l45 - 4)))), (5, (.i l48)), (6, (Slc.v (l42.cut 1 (Int.toNat (wr .i64 (l45 - 4))) (Int.toNat (l48))))), (7, C58.v), (8, (.agg #[C58.v, (.i 0)])), (9, (.pointer (some (blk b63)))), (10, (.i l54)), (11, (Slc.v (Slc.mk (some (blk b66)) 1 1))), (12, (.agg #[l36.v, (.i l39), (.pointer (some (blk b63))), Slc.nil.v, (Slc.v (Slc.mk (some (blk b66)) 1 1))])), (14, (.pointer (some (blk b72))))], ⟨rfl, rfl, rfl, rfl, rfl, rfl, rfl, rfl, rfl, rfl, rfl, rfl, rfl, trivial⟩, ?_⟩
    have hx := st_7_9_11_14 C58 b63 b66 b72 w67 h
    rw [h140] at hx
    exact hx
  have st_7_11_14 : ∀ (C58 : Slc) (b66 : Nat) (b72 : Nat) (w35 : World), R34 (some C58) none (some b66) none (some b72) none w35 → F142 3 [7, 11, 14] [(0, l36.v), (1, (.i l39)), (2, l42.v), (3, (.i l45)), (4, (.i (wr .i64 (l45 - 4)))), (5, (.i l48)), (6, (Slc.v (l42.cut 1 (Int.toNat (wr .i64 (l45 - 4))) (Int.toNat (l48))))), (7, C58.v), (8, (.agg #[C58.v, (.i 0)])), (10, (.i l54)), (11, (Slc.v (Slc.mk (some (blk b66)) 1 1))), (14, (.pointer (some (blk b72))))] w35 := by
   intro C58 b66 b72 w35 hr
   rw [h140]
   refine StT.more [0, 1, 8] [9] (by kernel_rfl) (by kernel_rfl) (by kernel_rfl) (.cons ?_ (.cons ?_ (.cons ?_ .nil))) (.cons ?_ .nil)
   ·refine Ans.mk rfl rfl fun a H => ?_
    replace H := H.weaken (L' := [(1, (.pointer (some (blk b3))))]) ⟨rfl, trivial⟩
    obtain hc37 := h38 (some C58) none (some b66) (some b72) w35 hr
    refine s_load (v := l36.v) H rfl rfl one_51 hc37 (lt_ rfl) fun a H => c_nil ⟨rfl, rfl, H.weaken (L' := [(19, l36.v)]) ⟨rfl, trivial⟩⟩
   ·refine Ans.mk rfl rfl fun a H => ?_
    replace H := H.weaken (L' := [(9, (.pointer (some (blk b14))))]) ⟨rfl, trivial⟩
    obtain hc40 := h41 (some C58) none (some b66) (some b72) w35 hr
    refine s_load (v := (.i l39)) H rfl rfl one_3 hc40 (lt_ rfl) fun a H => c_nil ⟨rfl, rfl, H.weaken (L' := [(20, (.i l39))]) ⟨rfl, trivial⟩⟩
   ·refine Ans.mk rfl rfl fun a H => ?_
    replace H := H.weaken (L' := [(26, C58.v)]) ⟨rfl, trivial⟩
    refine s_build H rfl (by rw [H.parts (vs := [(0, C58.v)]) rfl]; exact bd_101_s0 w35 C58) (lt_ rfl) fun a H => c_nil ⟨rfl, rfl, H.weaken (L' := [(27, (.agg #[C58.v, (.i 0)]))]) ⟨rfl, trivial⟩⟩
   ·refine ⟨_, rfl, fun a H => ?_⟩
    replace H := H.weaken (L' := [(27, (.agg #[C58.v, (.i 0)]))]) ⟨rfl, trivial⟩
    have h := h134 C58 (some b66) (some b72) w35 hr
    replace h := h.get
    obtain ⟨b63, w64, n65, h⟩ := h
    refine s_box H rfl rfl (lt_ rfl) ?_
    rw [← n65.at_]
    clear H a
    intro a H
    refine n65.go <| c_nil ?_
    refine effQ.ok (v := (.pointer (some (blk b63)))) (H.weaken (L' := [(28, (.pointer (some (blk b63))))]) ⟨rfl, trivial⟩) ⟨[(0, l36.v), (1, (.i l39)), (2, l42.v), (3, (.i l45)), (4, (.i (wr .i64 (l45 - 4)))), (5, (.i l48)), (6, (Slc.v (l42.cut 1 (Int.toNat (wr .i64 (l45 - 4))) (Int.toNat (l48))))), (7, C58.v), (8, (.agg #[C58.v, (.i 0)])), (9, (.pointer (some (blk b63)))), (10, (.i l54)), (11, (Slc.v (Slc.mk (some (blk b66)) 1 1))), (12, (.agg #[l36.v, (.i l39), (.pointer (some (blk b63))), Slc.nil.v, (Slc.v (Slc.mk (some (blk b66)) 1 1))])), (14, (.pointer (some (blk b72))))], ⟨rfl, rfl, rfl, rfl, rfl, rfl, rfl, rfl, rfl, rfl, rfl, rfl, rfl, trivial⟩, ?_⟩
    have hx := st_7_9_11_14 C58 b63 b66 b72 w64 h
    rw [h140] at hx
    exact hx
  have st_7_9 : ∀ (C58 : Slc) (b63 : Nat) (w35 : World), R34 (some C58) (some b63) none none none none w35 → F142 4 [7, 9] [(0, l36.v), (1, (.i l39)), (2, l42.v), (3, (.i l45)), (4, (.i (wr .i64 (l45 - 4)))), (5, (.i l48)), (6, (Slc.v (l42.cut 1 (Int.toNat (wr .i64 (l45 - 4))) (Int.toNat (l48))))), (7, C58.v), (8, (.agg #[C58.v, (.i 0)])), (9, (.pointer (some (blk b63)))), (10, (.i l54))] w35 := by
   intro C58 b63 w35 hr
   rw [h140]
   refine StT.more [0, 1, 10] [11, 14] (by kernel_rfl) (by kernel_rfl) (by kernel_rfl) (.cons ?_ (.cons ?_ (.cons ?_ .nil))) (.cons ?_ (.cons ?_ .nil))
   ·refine Ans.mk rfl rfl fun a H => ?_
    replace H := H.weaken (L' := [(1, (.pointer (some (blk b3))))]) ⟨rfl, trivial⟩
    obtain hc37 := h38 (some C58) (some b63) none none w35 hr
    refine s_load (v := l36.v) H rfl rfl one_51 hc37 (lt_ rfl) fun a H => c_nil ⟨rfl, rfl, H.weaken (L' := [(19, l36.v)]) ⟨rfl, trivial⟩⟩
   ·refine Ans.mk rfl rfl fun a H => ?_
    replace H := H.weaken (L' := [(9, (.pointer (some (blk b14))))]) ⟨rfl, trivial⟩
    obtain hc40 := h41 (some C58) (some b63) none none w35 hr
    refine s_load (v := (.i l39)) H rfl rfl one_3 hc40 (lt_ rfl) fun a H => c_nil ⟨rfl, rfl, H.weaken (L' := [(20, (.i l39))]) ⟨rfl, trivial⟩⟩
   ·refine Ans.mk rfl rfl fun a H => ?_
    replace H := H.weaken (L' := [(9, (.pointer (some (blk b14))))]) ⟨rfl, trivial⟩
    obtain hc55 := h56 (some C58) (some b63) none w35 hr
    refine s_load (v := (.i l54)) H rfl rfl one_3 hc55 (lt_ rfl) fun a H => c_nil ⟨rfl, rfl, H.weaken (L' := [(29, (.i l54))]) ⟨rfl, trivial⟩⟩
   ·refine ⟨_, rfl, fun a H => ?_⟩
    replace H := H.weaken (L' := [(29, (.i l54))]) ⟨rfl, trivial⟩
    have h := h135 (some C58) (some b63) none w35 hr
    replace h := h.get
    obtain ⟨b66, w67, n68, h⟩ := h
    refine s_bslc H rfl (by rw [H.parts (vs := [(0, (.i l54))]) rfl]; exact bs_24_1_ii640 w35 l54) (lt_ rfl) ?_
    rw [← n68.at_]
    clear H a
    intro a H
    refine n68.go <| c_nil ?_
    refine effQ.ok (v := (Slc.v (Slc.mk (some (blk b66)) 1 1))) (H.weaken (L' := [(30, (Slc.v (Slc.mk (some (blk b66)) 1 1)))]) ⟨rfl, trivial⟩) ⟨[(0, l36.v), (1, (.i l39)), (2, l42.v), (3, (.i l45)), (4, (.i (wr .i64 (l45 - 4)))), (5, (.i l48)), (6, (Slc.v (l42.cut 1 (Int.toNat (wr .i64 (l45 - 4))) (Int.toNat (l48))))), (7, C58.v), (8, (.agg #[C58.v, (.i 0)])), (9, (.pointer (some (blk b63)))), (10, (.i l54)), (11, (Slc.v (Slc.mk (some (blk b66)) 1 1))), (12, (.agg #[l36.v, (.i l39), (.pointer (some (blk b63))), Slc.nil.v, (Slc.v (Slc.mk (some (blk b66)) 1 1))]))], ⟨rfl, rfl, rfl, rfl, rfl, rfl, rfl, rfl, rfl, rfl, rfl, rfl, trivial⟩, ?_⟩
    have hx := st_7_9_11 C58 b63 b66 w67 h
    rw [h140] at hx
    exact hx
   ·refine ⟨_, rfl, fun a H => ?_⟩
    replace H := H.weaken (L' := []) trivial
    have h := h137 (some C58) (some b63) none none w35 hr
    replace h := h.get
    obtain ⟨b72, w73, n74, h⟩ := h
    refine s_alloc H rfl zero_161 (lt_ rfl) ?_
    rw [← n74.at_]
    clear H a
    intro a H
    refine n74.go <| c_nil ?_
    refine effQ.ok (v := (.pointer (some (blk b72)))) (H.weaken (L' := [(11, (.pointer (some (blk b72))))]) ⟨rfl, trivial⟩) ⟨[(0, l36.v), (1, (.i l39)), (2, l42.v), (3, (.i l45)), (4, (.i (wr .i64 (l45 - 4)))), (5, (.i l48)), (6, (Slc.v (l42.cut 1 (Int.toNat (wr .i64 (l45 - 4))) (Int.toNat (l48))))), (7, C58.v), (8, (.agg #[C58.v, (.i 0)])), (9, (.pointer (some (blk b63)))), (10, (.i l54)), (14, (.pointer (some (blk b72))))], ⟨rfl, rfl, rfl, rfl, rfl, rfl, rfl, rfl, rfl, rfl, rfl, rfl, trivial⟩, ?_⟩
    have hx := st_7_9_14 C58 b63 b72 w73 h
    rw [h140] at hx
    exact hx
  have st_7_11 : ∀ (C58 : Slc) (b66 : Nat) (w35 : World), R34 (some C58) none (some b66) none none none w35 → F142 4 [7, 11] [(0, l36.v), (1, (.i l39)), (2, l42.v), (3, (.i l45)), (4, (.i (wr .i64 (l45 - 4)))), (5, (.i l48)), (6, (Slc.v (l42.cut 1 (Int.toNat (wr .i64 (l45 - 4))) (Int.toNat (l48))))), (7, C58.v), (8, (.agg #[C58.v, (.i 0)])), (10, (.i l54)), (11, (Slc.v (Slc.mk (some (blk b66)) 1 1)))] w35 := by
   intro C58 b66 w35 hr
   rw [h140]
   refine StT.more [0, 1, 8] [9, 14] (by kernel_rfl) (by kernel_rfl) (by kernel_rfl) (.cons ?_ (.cons ?_ (.cons ?_ .nil))) (.cons ?_ (.cons ?_ .nil))
   ·refine Ans.mk rfl rfl fun a H => ?_
    replace H := H.weaken (L' := [(1, (.pointer (some (blk b3))))]) ⟨rfl, trivial⟩
    obtain hc37 := h38 (some C58) none (some b66) none w35 hr
    refine s_load (v := l36.v) H rfl rfl one_51 hc37 (lt_ rfl) fun a H => c_nil ⟨rfl, rfl, H.weaken (L' := [(19, l36.v)]) ⟨rfl, trivial⟩⟩
   ·refine Ans.mk rfl rfl fun a H => ?_
    replace H := H.weaken (L' := [(9, (.pointer (some (blk b14))))]) ⟨rfl, trivial⟩
    obtain hc40 := h41 (some C58) none (some b66) none w35 hr
    refine s_load (v := (.i l39)) H rfl rfl one_3 hc40 (lt_ rfl) fun a H => c_nil ⟨rfl, rfl, H.weaken (L' := [(20, (.i l39))]) ⟨rfl, trivial⟩⟩
   ·refine Ans.mk rfl rfl fun a H => ?_
    replace H := H.weaken (L' := [(26, C58.v)]) ⟨rfl, trivial⟩
    refine s_build H rfl (by rw [H.parts (vs := [(0, C58.v)]) rfl]; exact bd_101_s0 w35 C58) (lt_ rfl) fun a H => c_nil ⟨rfl, rfl, H.weaken (L' := [(27, (.agg #[C58.v, (.i 0)]))]) ⟨rfl, trivial⟩⟩
   ·refine ⟨_, rfl, fun a H => ?_⟩
    replace H := H.weaken (L' := [(27, (.agg #[C58.v, (.i 0)]))]) ⟨rfl, trivial⟩
    have h := h134 C58 (some b66) none w35 hr
    replace h := h.get
    obtain ⟨b63, w64, n65, h⟩ := h
    refine s_box H rfl rfl (lt_ rfl) ?_
    rw [← n65.at_]
    clear H a
    intro a H
    refine n65.go <| c_nil ?_
    refine effQ.ok (v := (.pointer (some (blk b63)))) (H.weaken (L' := [(28, (.pointer (some (blk b63))))]) ⟨rfl, trivial⟩) ⟨[(0, l36.v), (1, (.i l39)), (2, l42.v), (3, (.i l45)), (4, (.i (wr .i64 (l45 - 4)))), (5, (.i l48)), (6, (Slc.v (l42.cut 1 (Int.toNat (wr .i64 (l45 - 4))) (Int.toNat (l48))))), (7, C58.v), (8, (.agg #[C58.v, (.i 0)])), (9, (.pointer (some (blk b63)))), (10, (.i l54)), (11, (Slc.v (Slc.mk (some (blk b66)) 1 1))), (12, (.agg #[l36.v, (.i l39), (.pointer (some (blk b63))), Slc.nil.v, (Slc.v (Slc.mk (some (blk b66)) 1 1))]))], ⟨rfl, rfl, rfl, rfl, rfl, rfl, rfl, rfl, rfl, rfl, rfl, rfl, trivial⟩, ?_⟩
    have hx := st_7_9_11 C58 b63 b66 w64 h
    rw [h140] at hx
    exact hx
   ·refine ⟨_, rfl, fun a H => ?_⟩
    replace H := H.weaken (L' := []) trivial
    have h := h137 (some C58) none (some b66) none w35 hr
    replace h := h.get
    obtain ⟨b72, w73, n74, h⟩ := h
    refine s_alloc H rfl zero_161 (lt_ rfl) ?_
    rw [← n74.at_]
    clear H a
    intro a H
    refine n74.go <| c_nil ?_
    refine effQ.ok (v := (.pointer (some (blk b72)))) (H.weaken (L' := [(11, (.pointer (some (blk b72))))]) ⟨rfl, trivial⟩) ⟨[(0, l36.v), (1, (.i l39)), (2, l42.v), (3, (.i l45)), (4, (.i (wr .i64 (l45 - 4)))), (5, (.i l48)), (6, (Slc.v (l42.cut 1 (Int.toNat (wr .i64 (l45 - 4))) (Int.toNat (l48))))), (7, C58.v), (8, (.agg #[C58.v, (.i 0)])), (10, (.i l54)), (11, (Slc.v (Slc.mk (some (blk b66)) 1 1))), (14, (.pointer (some (blk b72))))], ⟨rfl, rfl, rfl, rfl, rfl, rfl, rfl, rfl, rfl, rfl, rfl, rfl, trivial⟩, ?_⟩
    have hx := st_7_11_14 C58 b66 b72 w73 h
    rw [h140] at hx
    exact hx
  have st_7_14 : ∀ (C58 : Slc) (b72 : Nat) (w35 : World), R34 (some C58) none none none (some b72) none w35 → F142 4 [7, 14] [(0, l36.v), (1, (.i l39)), (2, l42.v), (3, (.i l45)), (4, (.i (wr .i64 (l45 - 4)))), (5, (.i l48)), (6, (Slc.v (l42.cut 1 (Int.toNat (wr .i64 (l45 - 4))) (Int.toNat (l48))))), (7, C58.v), (8, (.agg #[C58.v, (.i 0)])), (10, (.i l54)), (14, (.pointer (some (blk b72))))] w35 := by
   intro C58 b72 w35 hr
   rw [h140]
   refine StT.more [0, 1, 8, 10] [9, 11] (by kernel_rfl) (by kernel_rfl) (by kernel_rfl) (.cons ?_ (.cons ?_ (.cons ?_ (.cons ?_ .nil)))) (.cons ?_ (.cons ?_ .nil))
   ·refine Ans.mk rfl rfl fun a H => ?_
    replace H := H.weaken (L' := [(1, (.pointer (some (blk b3))))]) ⟨rfl, trivial⟩
    obtain hc37 := h38 (some C58) none none (some b72) w35 hr
    refine s_load (v := l36.v) H rfl rfl one_51 hc37 (lt_ rfl) fun a H => c_nil ⟨rfl, rfl, H.weaken (L' := [(19, l36.v)]) ⟨rfl, trivial⟩⟩
   ·refine Ans.mk rfl rfl fun a H => ?_
    replace H := H.weaken (L' := [(9, (.pointer (some (blk b14))))]) ⟨rfl, trivial⟩
    obtain hc40 := h41 (some C58) none none (some b72) w35 hr
    refine s_load (v := (.i l39)) H rfl rfl one_3 hc40 (lt_ rfl) fun a H => c_nil ⟨rfl, rfl, H.weaken (L' := [(20, (.i l39))]) ⟨rfl, trivial⟩⟩
   ·refine Ans.mk rfl rfl fun a H => ?_
    replace H := H.weaken (L' := [(26, C58.v)]) ⟨rfl, trivial⟩
    refine s_build H rfl (by rw [H.parts (vs := [(0, C58.v)]) rfl]; exact bd_101_s0 w35 C58) (lt_ rfl) fun a H => c_nil ⟨rfl, rfl, H.weaken (L' := [(27, (.agg #[C58.v, (.i 0)]))]) ⟨rfl, trivial⟩⟩
   ·refine Ans.mk rfl rfl fun a H => ?_
    replace H := H.weaken (L' := [(9, (.pointer (some (blk b14))))]) ⟨rfl, trivial⟩
    obtain hc55 := h56 (some C58) none (some b72) w35 hr
    refine s_load (v := (.i l54)) H rfl rfl one_3 hc55 (lt_ rfl) fun a H => c_nil ⟨rfl, rfl, H.weaken (L' := [(29, (.i l54))]) ⟨rfl, trivial⟩⟩
   ·refine ⟨_, rfl, fun a H => ?_⟩
    replace H := H.weaken (L' := [(27, (.agg #[C58.v, (.i 0)]))]) ⟨rfl, trivial⟩
    have h := h134 C58 none (some b72) w35 hr
    replace h := h.get
    obtain ⟨b63, w64, n65, h⟩ := h
    refine s_box H rfl rfl (lt_ rfl) ?_
    rw [← n65.at_]
    clear H a
    intro a H
    refine n65.go <| c_nil ?_
    refine effQ.ok (v := (.pointer (some (blk b63)))) (H.weaken (L' := [(28, (.pointer (some (blk b63))))]) ⟨rfl, trivial⟩) ⟨[(0, l36.v), (1, (.i l39)), (2, l42.v), (3, (.i l45)), (4, (.i (wr .i64 (l45 - 4)))), (5, (.i l48)), (6, (Slc.v (l42.cut 1 (Int.toNat (wr .i64 (l45 - 4))) (Int.toNat (l48))))), (7, C58.v), (8, (.agg #[C58.v, (.i 0)])), (9, (.pointer (some (blk b63)))), (10, (.i l54)), (14, (.pointer (some (blk b72))))], ⟨rfl, rfl, rfl, rfl, rfl, rfl, rfl, rfl, rfl, rfl, rfl, rfl, trivial⟩, ?_⟩
    have hx := st_7_9_14 C58 b63 b72 w64 h
    rw [h140] at hx
    exact hx
   ·refine ⟨_, rfl, fun a H => ?_⟩
    replace H := H.weaken (L' := [(29, (.i l54))]) ⟨rfl, trivial⟩
    have h := h135 (some C58) none (some b72) w35 hr
    replace h := h.get
    obtain ⟨b66, w67, n68, h⟩ := h
    refine s_bslc H rfl (by rw [H.parts (vs := [(0, (.i l54))]) rfl]; exact bs_24_1_ii640 w35 l54) (lt_ rfl) ?_
    rw [← n68.at_]
    clear H a
    intro a H
    refine n68.go <| c_nil ?_
    refine effQ.ok (v := (Slc.v (Slc.mk (some (blk b66)) 1 1))) (H.weaken (L' := [(30, (Slc.v (Slc.mk (some (blk b66)) 1 1)))]) ⟨rfl, trivial⟩) ⟨[(0, l36.v), (1, (.i l39)), (2, l42.v), (3, (.i l45)), (4, (.i (wr .i64 (l45 - 4)))), (5, (.i l48)), (6, (Slc.v (l42.cut 1 (Int.toNat (wr .i64 (l45 - 4))) (Int.toNat (l48))))), (7, C58.v), (8, (.agg #[C58.v, (.i 0)])), (10, (.i l54)), (11, (Slc.v (Slc.mk (some (blk b66)) 1 1))), (14, (.pointer (some (blk b72))))], ⟨rfl, rfl, rfl, rfl, rfl, rfl, rfl, rfl, rfl, rfl, rfl, rfl, trivial⟩, ?_⟩
    have hx := st_7_11_14 C58 b66 b72 w67 h
    rw [h140] at hx
    exact hx
  have st_11_14 : ∀ (b66 : Nat) (b72 : Nat) (w35 : World), R34 none none (some b66) none (some b72) none w35 → F142 4 [11, 14] [(0, l36.v), (1, (.i l39)), (2, l42.v), (3, (.i l45)), (4, (.i (wr .i64 (l45 - 4)))), (5, (.i l48)), (6, (Slc.v (l42.cut 1 (Int.toNat (wr .i64 (l45 - 4))) (Int.toNat (l48))))), (10, (.i l54)), (11, (Slc.v (Slc.mk (some (blk b66)) 1 1))), (14, (.pointer (some (blk b72))))] w35 := by
   intro b66 b72 w35 hr
   rw [h140]
   refine StT.more [0, 1, 2, 3, 4, 5, 6] [7] (by kernel_rfl) (by kernel_rfl) (by kernel_rfl) (.cons ?_ (.cons ?_ (.cons ?_ (.cons ?_ (.cons ?_ (.cons ?_ (.cons ?_ .nil))))))) (.cons ?_ .nil)
   ·refine Ans.mk rfl rfl fun a H => ?_
    replace H := H.weaken (L' := [(1, (.pointer (some (blk b3))))]) ⟨rfl, trivial⟩
    obtain hc37 := h38 none none (some b66) (some b72) w35 hr
    refine s_load (v := l36.v) H rfl rfl one_51 hc37 (lt_ rfl) fun a H => c_nil ⟨rfl, rfl, H.weaken (L' := [(19, l36.v)]) ⟨rfl, trivial⟩⟩
   ·refine Ans.mk rfl rfl fun a H => ?_
    replace H := H.weaken (L' := [(9, (.pointer (some (blk b14))))]) ⟨rfl, trivial⟩
    obtain hc40 := h41 none none (some b66) (some b72) w35 hr
    refine s_load (v := (.i l39)) H rfl rfl one_3 hc40 (lt_ rfl) fun a H => c_nil ⟨rfl, rfl, H.weaken (L' := [(20, (.i l39))]) ⟨rfl, trivial⟩⟩
   ·refine Ans.mk rfl rfl fun a H => ?_
    replace H := H.weaken (L' := [(1, (.pointer (some (blk b3))))]) ⟨rfl, trivial⟩
    obtain hc43 := h44 (some b66) (some b72) w35 hr
    refine s_load (v := l42.v) H rfl rfl one_51 hc43 (lt_ rfl) fun a H => c_nil ⟨rfl, rfl, H.weaken (L' := [(21, l42.v)]) ⟨rfl, trivial⟩⟩
   ·refine Ans.mk rfl rfl fun a H => ?_
    replace H := H.weaken (L' := [(9, (.pointer (some (blk b14))))]) ⟨rfl, trivial⟩
    obtain hc46 := h47 (some b66) (some b72) w35 hr
    refine s_load (v := (.i l45)) H rfl rfl one_3 hc46 (lt_ rfl) fun a H => c_nil ⟨rfl, rfl, H.weaken (L' := [(22, (.i l45))]) ⟨rfl, trivial⟩⟩
   ·refine Ans.mk rfl rfl fun a H => ?_
    replace H := H.weaken (L' := [(22, (.i l45))]) ⟨rfl, trivial⟩
    refine s_bin H rfl rfl rfl r_sub (lt_ rfl) fun a H => c_nil ⟨rfl, rfl, H.weaken (L' := [(23, (.i (wr .i64 (l45 - 4))))]) ⟨rfl, trivial⟩⟩
   ·refine Ans.mk rfl rfl fun a H => ?_
    replace H := H.weaken (L' := [(9, (.pointer (some (blk b14))))]) ⟨rfl, trivial⟩
    obtain hc49 := h50 (some b66) (some b72) w35 hr
    refine s_load (v := (.i l48)) H rfl rfl one_3 hc49 (lt_ rfl) fun a H => c_nil ⟨rfl, rfl, H.weaken (L' := [(24, (.i l48))]) ⟨rfl, trivial⟩⟩
   ·refine Ans.mk rfl rfl fun a H => ?_
    replace H := H.weaken (L' := [(21, l42.v), (23, (.i (wr .i64 (l45 - 4)))), (24, (.i l48))]) ⟨rfl, rfl, rfl, trivial⟩
    refine s_slice (v := (Slc.v (l42.cut 1 (Int.toNat (wr .i64 (l45 - 4))) (Int.toNat (l48))))) H rfl rfl ⟨rfl, rfl⟩ ⟨rfl, rfl⟩ ⟨rfl, rfl⟩ (r_sliceSlc (lo := (some (.i64, wr .i64 (l45 - 4)))) (hi := (some (.i64, l48))) slc_51 rfl rfl h51 h52 h53) (lt_ rfl) fun a H => c_nil ⟨rfl, rfl, H.weaken (L' := [(25, (Slc.v (l42.cut 1 (Int.toNat (wr .i64 (l45 - 4))) (Int.toNat (l48)))))]) ⟨rfl, trivial⟩⟩
   ·refine ⟨_, rfl, fun a H => ?_⟩
    replace H := H.weaken (L' := [(25, (Slc.v (l42.cut 1 (Int.toNat (wr .i64 (l45 - 4))) (Int.toNat (l48)))))]) ⟨rfl, trivial⟩
    have h := h133 (some b66) (some b72) w35 hr
    refine s_call H rfl body_47 (H.args (vs := [(Slc.v (l42.cut 1 (Int.toNat (wr .i64 (l45 - 4))) (Int.toNat (l48))))]) rfl) (lt_ rfl) h ?_ (fun c w' h H => e_panic (P := PP) (fn := Tryz.f62) H h)
    clear H h a
    rintro _ w57 a ⟨C58, rfl, h⟩ H
    refine c_nil <| effQ.ok (v := C58.v) (H.weaken (L' := [(26, C58.v)]) ⟨rfl, trivial⟩) ⟨[(0, l36.v), (1, (.i l39)), (2, l42.v), (3, (.i l45)), (4, (.i (wr .i64 (l45 - 4)))), (5, (.i l48)), (6, (Slc.v (l42.cut 1 (Int.toNat (wr .i64 (l45 - 4))) (Int.toNat (l48))))), (7, C58.v), (8, (.agg #[C58.v, (.i 0)])), (10, (.i l54)), (11, (Slc.v (Slc.mk (some (blk b66)) 1 1))), (14, (.pointer (some (blk b72))))], ⟨rfl, rfl, rfl, rfl, rfl, rfl, rfl, rfl, rfl, rfl, rfl, trivial⟩, ?_⟩
    have hx := st_7_11_14 C58 b66 b72 w57 h
    rw [h140] at hx
    exact hx
  have st_7 : ∀ (C58 : Slc) (w35 : World), R34 (some C58) none none none none none w35 → F142 5 [7] [(0, l36.v), (1, (.i l39)), (2, l42.v), (3, (.i l45)), (4, (.i (wr .i64 (l45 - 4)))), (5, (.i l48)), (6, (Slc.v (l42.cut 1 (Int.toNat (wr .i64 (l45 - 4))) (Int.toNat (l48))))), (7, C58.v), (8, (.agg #[C58.v, (.i 0)])), (10, (.i l54))] w35 := by
   intro C58 w35 hr
   rw [h140]
   refine StT.more [0, 1, 8, 10] [9, 11, 14] (by kernel_rfl) (by kernel_rfl) (by kernel_rfl) (.cons ?_ (.cons ?_ (.cons ?_ (.cons ?_ .nil)))) (.cons ?_ (.cons ?_ (.cons ?_ .nil)))
   ·refine Ans.mk rfl rfl fun a H => ?_
    replace H := H.weaken (L' := [(1, (.pointer (some (blk b3))))]) ⟨rfl, trivial⟩
    obtain hc37 := h38 (some C58) none none none w35 hr
    refine s_load (v := l36.v) H rfl rfl one_51 hc37 (lt_ rfl) fun a H => c_nil ⟨rfl, rfl, H.weaken (L' := [(19, l36.v)]) ⟨rfl, trivial⟩⟩
   ·refine Ans.mk rfl rfl fun a H => ?_
    replace H := H.weaken (L' := [(9, (.pointer (some (blk b14))))]) ⟨rfl, trivial⟩
    obtain hc40 := h41 (some C58) none none none w35 hr
    refine s_load (v := (.i l39)) H rfl rfl one_3 hc40 (lt_ rfl) fun a H => c_nil ⟨rfl, rfl, H.weaken (L' := [(20, (.i l39))]) ⟨rfl, trivial⟩⟩
   ·refine Ans.mk rfl rfl fun a H => ?_
    replace H := H.weaken (L' := [(26, C58.v)]) ⟨rfl, trivial⟩
    refine s_build H rfl (by rw [H.parts (vs := [(0, C58.v)]) rfl]; exact bd_101_s0 w35 C58) (lt_ rfl) fun a H => c_nil ⟨rfl, rfl, H.weaken (L' := [(27, (.agg #[C58.v, (.i 0)]))]) ⟨rfl, trivial⟩⟩
   ·refine Ans.mk rfl rfl fun a H => ?_
    replace H := H.weaken (L' := [(9, (.pointer (some (blk b14))))]) ⟨rfl, trivial⟩
    obtain hc55 := h56 (some C58) none none w35 hr
    refine s_load (v := (.i l54)) H rfl rfl one_3 hc55 (lt_ rfl) fun a H => c_nil ⟨rfl, rfl, H.weaken (L' := [(29, (.i l54))]) ⟨rfl, trivial⟩⟩
   ·refine ⟨_, rfl, fun a H => ?_⟩
    replace H := H.weaken (L' := [(27, (.agg #[C58.v, (.i 0)]))]) ⟨rfl, trivial⟩
    have h := h134 C58 none none w35 hr
    replace h := h.get
    obtain ⟨b63, w64, n65, h⟩ := h
    refine s_box H rfl rfl (lt_ rfl) ?_
    rw [← n65.at_]
    clear H a
    intro a H
    refine n65.go <| c_nil <| effQ.ok (v := (.pointer (some (blk b63)))) (H.weaken (L' := [(28, (.pointer (some (blk b63))))]) ⟨rfl, trivial⟩) ⟨[(0, l36.v), (1, (.i l39)), (2, l42.v), (3, (.i l45)), (4, (.i (wr .i64 (l45 - 4)))), (5, (.i l48)), (6, (Slc.v (l42.cut 1 (Int.toNat (wr .i64 (l45 - 4))) (Int.toNat (l48))))), (7, C58.v), (8, (.agg #[C58.v, (.i 0)])), (9, (.pointer (some (blk b63)))), (10, (.i l54))], ⟨rfl, rfl, rfl, rfl, rfl, rfl, rfl, rfl, rfl, rfl, rfl, trivial⟩, ?_⟩
    have hx := st_7_9 C58 b63 w64 h
    rw [h140] at hx
    exact hx
   ·refine ⟨_, rfl, fun a H => ?_⟩
    replace H := H.weaken (L' := [(29, (.i l54))]) ⟨rfl, trivial⟩
    have h := h135 (some C58) none none w35 hr
    replace h := h.get
    obtain ⟨b66, w67, n68, h⟩ := h
    refine s_bslc H rfl (by rw [H.parts (vs := [(0, (.i l54))]) rfl]; exact bs_24_1_ii640 w35 l54) (lt_ rfl) ?_
    rw [← n68.at_]
    clear H a
    intro a H
    refine n68.go <| c_nil ?_
    refine effQ.ok (v := (Slc.v (Slc.mk (some (blk b66)) 1 1))) (H.weaken (L' := [(30, (Slc.v (Slc.mk (some (blk b66)) 1 1)))]) ⟨rfl, trivial⟩) ⟨[(0, l36.v), (1, (.i l39)), (2, l42.v), (3, (.i l45)), (4, (.i (wr .i64 (l45 - 4)))), (5, (.i l48)), (6, (Slc.v (l42.cut 1 (Int.toNat (wr .i64 (l45 - 4))) (Int.toNat (l48))))), (7, C58.v), (8, (.agg #[C58.v, (.i 0)])), (10, (.i l54)), (11, (Slc.v (Slc.mk (some (blk b66)) 1 1)))], ⟨rfl, rfl, rfl, rfl, rfl, rfl, rfl, rfl, rfl, rfl, rfl, trivial⟩, ?_⟩
    have hx := st_7_11 C58 b66 w67 h
    rw [h140] at hx
    exact hx
   ·refine ⟨_, rfl, fun a H => ?_⟩
    replace H := H.weaken (L' := []) trivial
    have h := h137 (some C58) none none none w35 hr
    replace h := h.get
    obtain ⟨b72, w73, n74, h⟩ := h
    refine s_alloc H rfl zero_161 (lt_ rfl) ?_
    rw [← n74.at_]
    clear H a
    intro a H
    refine n74.go <| c_nil <| effQ.ok (v := (.pointer (some (blk b72)))) (H.weaken (L' := [(11, (.pointer (some (blk b72))))]) ⟨rfl, trivial⟩) ⟨[(0, l36.v), (1, (.i l39)), (2, l42.v), (3, (.i l45)), (4, (.i (wr .i64 (l45 - 4)))), (5, (.i l48)), (6, (Slc.v (l42.cut 1 (Int.toNat (wr .i64 (l45 - 4))) (Int.toNat (l48))))), (7, C58.v), (8, (.agg #[C58.v, (.i 0)])), (10, (.i l54)), (14, (.pointer (some (blk b72))))], ⟨rfl, rfl, rfl, rfl, rfl, rfl, rfl, rfl, rfl, rfl, rfl, trivial⟩, ?_⟩
    have hx := st_7_14 C58 b72 w73 h
    rw [h140] at hx
    exact hx
  have st_11 : ∀ (b66 : Nat) (w35 : World), R34 none none (some b66) none none none w35 → F142 5 [11] [(0, l36.v), (1, (.i l39)), (2, l42.v), (3, (.i l45)), (4, (.i (wr .i64 (l45 - 4)))), (5, (.i l48)), (6, (Slc.v (l42.cut 1 (Int.toNat (wr .i64 (l45 - 4))) (Int.toNat (l48))))), (10, (.i l54)), (11, (Slc.v (Slc.mk (some (blk b66)) 1 1)))] w35 := by
   intro b66 w35 hr
   rw [h140]
   refine StT.more [0, 1, 2, 3, 4, 5, 6] [7, 14] (by kernel_rfl) (by kernel_rfl) (by kernel_rfl) (.cons ?_ (.cons ?_ (.cons ?_ (.cons ?_ (.cons ?_ (.cons ?_ (.cons ?_ .nil))))))) (.cons ?_ (.cons ?_ .nil))
   ·refine Ans.mk rfl rfl fun a H => ?_
    replace H := H.weaken (L' := [(1, (.pointer (some (blk b3))))]) ⟨rfl, trivial⟩
    obtain hc37 := h38 none none (some b66) none w35 hr
    refine s_load (v := l36.v) H rfl rfl one_51 hc37 (lt_ rfl) fun a H => c_nil ⟨rfl, rfl, H.weaken (L' := [(19, l36.v)]) ⟨rfl, trivial⟩⟩
   ·refine Ans.mk rfl rfl fun a H => ?_
    replace H := H.weaken (L' := [(9, (.pointer (some (blk b14))))]) ⟨rfl, trivial⟩
    obtain hc40 := h41 none none (some b66) none w35 hr
    refine s_load (v := (.i l39)) H rfl rfl one_3 hc40 (lt_ rfl) fun a H => c_nil ⟨rfl, rfl, H.weaken (L' := [(20, (.i l39))]) ⟨rfl, trivial⟩⟩
   ·refine Ans.mk rfl rfl fun a H => ?_
    replace H := H.weaken (L' := [(1, (.pointer (some (blk b3))))]) ⟨rfl, trivial⟩
    obtain hc43 := h44 (some b66) none w35 hr
    refine s_load (v := l42.v) H rfl rfl one_51 hc43 (lt_ rfl) fun a H => c_nil ⟨rfl, rfl, H.weaken (L' := [(21, l42.v)]) ⟨rfl, trivial⟩⟩
   ·refine Ans.mk rfl rfl fun a H => ?_
    replace H := H.weaken (L' := [(9, (.pointer (some (blk b14))))]) ⟨rfl, trivial⟩
    obtain hc46 := h47 (some b66) none w35 hr
    refine s_load (v := (.i l45)) H rfl rfl one_3 hc46 (lt_ rfl) fun a H => c_nil ⟨rfl, rfl, H.weaken (L' := [(22, (.i l45))]) ⟨rfl, trivial⟩⟩
   ·refine Ans.mk rfl rfl fun a H => ?_
    replace H := H.weaken (L' := [(22, (.i l45))]) ⟨rfl, trivial⟩
    refine s_bin H rfl rfl rfl r_sub (lt_ rfl) fun a H => c_nil ⟨rfl, rfl, H.weaken (L' := [(23, (.i (wr .i64 (l45 - 4))))]) ⟨rfl, trivial⟩⟩
   ·refine Ans.mk rfl rfl fun a H => ?_
    replace H := H.weaken (L' := [(9, (.pointer (some (blk b14))))]) ⟨rfl, trivial⟩
    obtain hc49 := h50 (some b66) none w35 hr
    refine s_load (v := (.i l48)) H rfl rfl one_3 hc49 (lt_ rfl) fun a H => c_nil ⟨rfl, rfl, H.weaken (L' := [(24, (.i l48))]) ⟨rfl, trivial⟩⟩
   ·refine Ans.mk rfl rfl fun a H => ?_
    replace H := H.weaken (L' := [(21, l42.v), (23, (.i (wr .i64 (l45 - 4)))), (24, (.i l48))]) ⟨rfl, rfl, rfl, trivial⟩
    refine s_slice (v := (Slc.v (l42.cut 1 (Int.toNat (wr .i64 (l45 - 4))) (Int.toNat (l48))))) H rfl rfl ⟨rfl, rfl⟩ ⟨rfl, rfl⟩ ⟨rfl, rfl⟩ (r_sliceSlc (lo := (some (.i64, wr .i64 (l45 - 4)))) (hi := (some (.i64, l48))) slc_51 rfl rfl h51 h52 h53) (lt_ rfl) fun a H => c_nil ⟨rfl, rfl, H.weaken (L' := [(25, (Slc.v (l42.cut 1 (Int.toNat (wr .i64 (l45 - 4))) (Int.toNat (l48)))))]) ⟨rfl, trivial⟩⟩
   ·refine ⟨_, rfl, fun a H => ?_⟩
    replace H := H.weaken (L' := [(25, (Slc.v (l42.cut 1 (Int.toNat (wr .i64 (l45 - 4))) (Int.toNat (l48)))))]) ⟨rfl, trivial⟩
    have h := h133 (some b66) none w35 hr
    refine s_call H rfl body_47 (H.args (vs := [(Slc.v (l42.cut 1 (Int.toNat (wr .i64 (l45 - 4))) (Int.toNat (l48))))]) rfl) (lt_ rfl) h ?_ (fun c w' h H => e_panic (P := PP) (fn := Tryz.f62) H h)
    clear H h a
    rintro _ w57 a ⟨C58, rfl, h⟩ H
    refine c_nil <| effQ.ok (v := C58.v) (H.weaken (L' := [(26, C58.v)]) ⟨rfl, trivial⟩) ⟨[(0, l36.v), (1, (.i l39)), (2, l42.v), (3, (.i l45)), (4, (.i (wr .i64 (l45 - 4)))), (5, (.i l48)), (6, (Slc.v (l42.cut 1 (Int.toNat (wr .i64 (l45 - 4))) (Int.toNat (l48))))), (7, C58.v), (8, (.agg #[C58.v, (.i 0)])), (10, (.i l54)), (11, (Slc.v (Slc.mk (some (blk b66)) 1 1)))], ⟨rfl, rfl, rfl, rfl, rfl, rfl, rfl, rfl, rfl, rfl, trivial⟩, ?_⟩
    have hx := st_7_11 C58 b66 w57 h
    rw [h140] at hx
    exact hx
   ·refine ⟨_, rfl, fun a H => ?_⟩
    replace H := H.weaken (L' := []) trivial
    have h := h137 none none (some b66) none w35 hr
    replace h := h.get
    obtain ⟨b72, w73, n74, h⟩ := h
    refine s_alloc H rfl zero_161 (lt_ rfl) ?_
    rw [← n74.at_]
    clear H a
    intro a H
    refine n74.go <| c_nil <| effQ.ok (v := (.pointer (some (blk b72)))) (H.weaken (L' := [(11, (.pointer (some (blk b72))))]) ⟨rfl, trivial⟩) ⟨[(0, l36.v), (1, (.i l39)), (2, l42.v), (3, (.i l45)), (4, (.i (wr .i64 (l45 - 4)))), (5, (.i l48)), (6, (Slc.v (l42.cut 1 (Int.toNat (wr .i64 (l45 - 4))) (Int.toNat (l48))))), (10, (.i l54)), (11, (Slc.v (Slc.mk (some (blk b66)) 1 1))), (14, (.pointer (some (blk b72))))], ⟨rfl, rfl, rfl, rfl, rfl, rfl, rfl, rfl, rfl, rfl, trivial⟩, ?_⟩
    have hx := st_11_14 b66 b72 w73 h
    rw [h140] at hx
    exact hx
  have st_14 : ∀ (b72 : Nat) (w35 : World), R34 none none none none (some b72) none w35 → F142 5 [14] [(0, l36.v), (1, (.i l39)), (2, l42.v), (3, (.i l45)), (4, (.i (wr .i64 (l45 - 4)))), (5, (.i l48)), (6, (Slc.v (l42.cut 1 (Int.toNat (wr .i64 (l45 - 4))) (Int.toNat (l48))))), (10, (.i l54)), (14, (.pointer (some (blk b72))))] w35 := by
   intro b72 w35 hr
   rw [h140]
   refine StT.more [0, 1, 2, 3, 4, 5, 6, 10] [7, 11] (by kernel_rfl) (by kernel_rfl) (by kernel_rfl) (.cons ?_ (.cons ?_ (.cons ?_ (.cons ?_ (.cons ?_ (.cons ?_ (.cons ?_ (.cons ?_ .nil)))))))) (.cons ?_ (.cons ?_ .nil))
   ·refine Ans.mk rfl rfl fun a H => ?_
    replace H := H.weaken (L' := [(1, (.pointer (some (blk b3))))]) ⟨rfl, trivial⟩
    obtain hc37 := h38 none none none (some b72) w35 hr
    refine s_load (v := l36.v) H rfl rfl one_51 hc37 (lt_ rfl) fun a H => c_nil ⟨rfl, rfl, H.weaken (L' := [(19, l36.v)]) ⟨rfl, trivial⟩⟩
   ·refine Ans.mk rfl rfl fun a H => ?_
    replace H := H.weaken (L' := [(9, (.pointer (some (blk b14))))]) ⟨rfl, trivial⟩
    obtain hc40 := h41 none none none (some b72) w35 hr
    refine s_load (v := (.i l39)) H rfl rfl one_3 hc40 (lt_ rfl) fun a H => c_nil ⟨rfl, rfl, H.weaken (L' := [(20, (.i l39))]) ⟨rfl, trivial⟩⟩
   ·refine Ans.mk rfl rfl fun a H => ?_
    replace H := H.weaken (L' := [(1, (.pointer (some (blk b3))))]) ⟨rfl, trivial⟩
    obtain hc43 := h44 none (some b72) w35 hr
    refine s_load (v := l42.v) H rfl rfl one_51 hc43 (lt_ rfl) fun a H => c_nil ⟨rfl, rfl, H.weaken (L' := [(21, l42.v)]) ⟨rfl, trivial⟩⟩
   ·refine Ans.mk rfl rfl fun a H => ?_
    replace H := H.weaken (L' := [(9, (.pointer (some (blk b14))))]) ⟨rfl, trivial⟩
    obtain hc46 := h47 none (some b72) w35 hr
    refine s_load (v := (.i l45)) H rfl rfl one_3 hc46 (lt_ rfl) fun a H => c_nil ⟨rfl, rfl, H.weaken (L' := [(22, (.i l45))]) ⟨rfl, trivial⟩⟩
   ·refine Ans.mk rfl rfl fun a H => ?_
    replace H := H.weaken (L' := [(22, (.i l45))]) ⟨rfl, trivial⟩
    refine s_bin H rfl rfl rfl r_sub (lt_ rfl) fun a H => c_nil ⟨rfl, rfl, H.weaken (L' := [(23, (.i (wr .i64 (l45 - 4))))]) ⟨rfl, trivial⟩⟩
   ·refine Ans.mk rfl rfl fun a H => ?_
    replace H := H.weaken (L' := [(9, (.pointer (some (blk b14))))]) ⟨rfl, trivial⟩
    obtain hc49 := h50 none (some b72) w35 hr
    refine s_load (v := (.i l48)) H rfl rfl one_3 hc49 (lt_ rfl) fun a H => c_nil ⟨rfl, rfl, H.weaken (L' := [(24, (.i l48))]) ⟨rfl, trivial⟩⟩
   ·refine Ans.mk rfl rfl fun a H => ?_
    replace H := H.weaken (L' := [(21, l42.v), (23, (.i (wr .i64 (l45 - 4)))), (24, (.i l48))]) ⟨rfl, rfl, rfl, trivial⟩
    refine s_slice (v := (Slc.v (l42.cut 1 (Int.toNat (wr .i64 (l45 - 4))) (Int.toNat (l48))))) H rfl rfl ⟨rfl, rfl⟩ ⟨rfl, rfl⟩ ⟨rfl, rfl⟩ (r_sliceSlc (lo := (some (.i64, wr .i64 (l45 - 4)))) (hi := (some (.i64, l48))) slc_51 rfl rfl h51 h52 h53) (lt_ rfl) fun a H => c_nil ⟨rfl, rfl, H.weaken (L' := [(25, (Slc.v (l42.cut 1 (Int.toNat (wr .i64 (l45 - 4))) (Int.toNat (l48)))))]) ⟨rfl, trivial⟩⟩
   ·refine Ans.mk rfl rfl fun a H => ?_
    replace H := H.weaken (L' := [(9, (.pointer (some (blk b14))))]) ⟨rfl, trivial⟩
    obtain hc55 := h56 none none (some b72) w35 hr
    refine s_load (v := (.i l54)) H rfl rfl one_3 hc55 (lt_ rfl) fun a H => c_nil ⟨rfl, rfl, H.weaken (L' := [(29, (.i l54))]) ⟨rfl, trivial⟩⟩
   ·refine ⟨_, rfl, fun a H => ?_⟩
    replace H := H.weaken (L' := [(25, (Slc.v (l42.cut 1 (Int.toNat (wr .i64 (l45 - 4))) (Int.toNat (l48)))))]) ⟨rfl, trivial⟩
    have h := h133 none (some b72) w35 hr
    refine s_call H rfl body_47 (H.args (vs := [(Slc.v (l42.cut 1 (Int.toNat (wr .i64 (l45 - 4))) (Int.toNat (l48))))]) rfl) (lt_ rfl) h ?_ (fun c w' h H => e_panic (P := PP) (fn := Tryz.f62) H h)
    clear H h a
    rintro _ w57 a ⟨C58, rfl, h⟩ H
    refine c_nil <| effQ.ok (v := C58.v) (H.weaken (L' := [(26, C58.v)]) ⟨rfl, trivial⟩) ⟨[(0, l36.v), (1, (.i l39)), (2, l42.v), (3, (.i l45)), (4, (.i (wr .i64 (l45 - 4)))), (5, (.i l48)), (6, (Slc.v (l42.cut 1 (Int.toNat (wr .i64 (l45 - 4))) (Int.toNat (l48))))), (7, C58.v), (8, (.agg #[C58.v, (.i 0)])), (10, (.i l54)), (14, (.pointer (some (blk b72))))], ⟨rfl, rfl, rfl, rfl, rfl, rfl, rfl, rfl, rfl, rfl, trivial⟩, ?_⟩
    have hx := st_7_14 C58 b72 w57 h
    rw [h140] at hx
    exact hx
   ·refine ⟨_, rfl, fun a H => ?_⟩
    replace H := H.weaken (L' := [(29, (.i l54))]) ⟨rfl, trivial⟩
    have h := h135 none none (some b72) w35 hr
    replace h := h.get
    obtain ⟨b66, w67, n68, h⟩ := h
    refine s_bslc H rfl (by rw [H.parts (vs := [(0, (.i l54))]) rfl]; exact bs_24_1_ii640 w35 l54) (lt_ rfl) ?_
    rw [← n68.at_]
    clear H a
    intro a H
    refine n68.go <| c_nil ?_
    refine effQ.ok (v := (Slc.v (Slc.mk (some (blk b66)) 1 1))) (H.weaken (L' := [(30, (Slc.v (Slc.mk (some (blk b66)) 1 1)))]) ⟨rfl, trivial⟩) ⟨[(0, l36.v), (1, (.i l39)), (2, l42.v), (3, (.i l45)), (4, (.i (wr .i64 (l45 - 4)))), (5, (.i l48)), (6, (Slc.v (l42.cut 1 (Int.toNat (wr .i64 (l45 - 4))) (Int.toNat (l48))))), (10, (.i l54)), (11, (Slc.v (Slc.mk (some (blk b66)) 1 1))), (14, (.pointer (some (blk b72))))], ⟨rfl, rfl, rfl, rfl, rfl, rfl, rfl, rfl, rfl, rfl, trivial⟩, ?_⟩
    have hx := st_11_14 b66 b72 w67 h
    rw [h140] at hx
    exact hx
  have st_ : ∀ (w35 : World), R34 none none none none none none w35 → F142 6 [] [(0, l36.v), (1, (.i l39)), (2, l42.v), (3, (.i l45)), (4, (.i (wr .i64 (l45 - 4)))), (5, (.i l48)), (6, (Slc.v (l42.cut 1 (Int.toNat (wr .i64 (l45 - 4))) (Int.toNat (l48))))), (10, (.i l54))] w35 := by
   intro w35 hr
   rw [h140]
   refine StT.more [0, 1, 2, 3, 4, 5, 6, 10] [7, 11, 14] (by kernel_rfl) (by kernel_rfl) (by kernel_rfl) (.cons ?_ (.cons ?_ (.cons ?_ (.cons ?_ (.cons ?_ (.cons ?_ (.cons ?_ (.cons ?_ .nil)))))))) (.cons ?_ (.cons ?_ (.cons ?_ .nil)))
   ·refine Ans.mk rfl rfl fun a H => ?_
    replace H := H.weaken (L' := [(1, (.pointer (some (blk b3))))]) ⟨rfl, trivial⟩
    obtain hc37 := h38 none none none none w35 hr
    refine s_load (v := l36.v) H rfl rfl one_51 hc37 (lt_ rfl) fun a H => c_nil ⟨rfl, rfl, H.weaken (L' := [(19, l36.v)]) ⟨rfl, trivial⟩⟩
   ·refine Ans.mk rfl rfl fun a H => ?_
    replace H := H.weaken (L' := [(9, (.pointer (some (blk b14))))]) ⟨rfl, trivial⟩
    obtain hc40 := h41 none none none none w35 hr
    refine s_load (v := (.i l39)) H rfl rfl one_3 hc40 (lt_ rfl) fun a H => c_nil ⟨rfl, rfl, H.weaken (L' := [(20, (.i l39))]) ⟨rfl, trivial⟩⟩
   ·refine Ans.mk rfl rfl fun a H => ?_
    replace H := H.weaken (L' := [(1, (.pointer (some (blk b3))))]) ⟨rfl, trivial⟩
    obtain hc43 := h44 none none w35 hr
    refine s_load (v := l42.v) H rfl rfl one_51 hc43 (lt_ rfl) fun a H => c_nil ⟨rfl, rfl, H.weaken (L' := [(21, l42.v)]) ⟨rfl, trivial⟩⟩
   ·refine Ans.mk rfl rfl fun a H => ?_
    replace H := H.weaken (L' := [(9, (.pointer (some (blk b14))))]) ⟨rfl, trivial⟩
    obtain hc46 := h47 none none w35 hr
    refine s_load (v := (.i l45)) H rfl rfl one_3 hc46 (lt_ rfl) fun a H => c_nil ⟨rfl, rfl, H.weaken (L' := [(22, (.i l45))]) ⟨rfl, trivial⟩⟩
   ·refine Ans.mk rfl rfl fun a H => ?_
    replace H := H.weaken (L' := [(22, (.i l45))]) ⟨rfl, trivial⟩
    refine s_bin H rfl rfl rfl r_sub (lt_ rfl) fun a H => c_nil ⟨rfl, rfl, H.weaken (L' := [(23, (.i (wr .i64 (l45 - 4))))]) ⟨rfl, trivial⟩⟩
   ·refine Ans.mk rfl rfl fun a H => ?_
    replace H := H.weaken (L' := [(9, (.pointer (some (blk b14))))]) ⟨rfl, trivial⟩
    obtain hc49 := h50 none none w35 hr
    refine s_load (v := (.i l48)) H rfl rfl one_3 hc49 (lt_ rfl) fun a H => c_nil ⟨rfl, rfl, H.weaken (L' := [(24, (.i l48))]) ⟨rfl, trivial⟩⟩
   ·refine Ans.mk rfl rfl fun a H => ?_
    replace H := H.weaken (L' := [(21, l42.v), (23, (.i (wr .i64 (l45 - 4)))), (24, (.i l48))]) ⟨rfl, rfl, rfl, trivial⟩
    refine s_slice (v := (Slc.v (l42.cut 1 (Int.toNat (wr .i64 (l45 - 4))) (Int.toNat (l48))))) H rfl rfl ⟨rfl, rfl⟩ ⟨rfl, rfl⟩ ⟨rfl, rfl⟩ (r_sliceSlc (lo := (some (.i64, wr .i64 (l45 - 4)))) (hi := (some (.i64, l48))) slc_51 rfl rfl h51 h52 h53) (lt_ rfl) fun a H => c_nil ⟨rfl, rfl, H.weaken (L' := [(25, (Slc.v (l42.cut 1 (Int.toNat (wr .i64 (l45 - 4))) (Int.toNat (l48)))))]) ⟨rfl, trivial⟩⟩
   ·refine Ans.mk rfl rfl fun a H => ?_
    replace H := H.weaken (L' := [(9, (.pointer (some (blk b14))))]) ⟨rfl, trivial⟩
    obtain hc55 := h56 none none none w35 hr
    refine s_load (v := (.i l54)) H rfl rfl one_3 hc55 (lt_ rfl) fun a H => c_nil ⟨rfl, rfl, H.weaken (L' := [(29, (.i l54))]) ⟨rfl, trivial⟩⟩
   ·refine ⟨_, rfl, fun a H => ?_⟩
    replace H := H.weaken (L' := [(25, (Slc.v (l42.cut 1 (Int.toNat (wr .i64 (l45 - 4))) (Int.toNat (l48)))))]) ⟨rfl, trivial⟩
    have h := h133 none none w35 hr
    refine s_call H rfl body_47 (H.args (vs := [(Slc.v (l42.cut 1 (Int.toNat (wr .i64 (l45 - 4))) (Int.toNat (l48))))]) rfl) (lt_ rfl) h ?_ (fun c w' h H => e_panic (P := PP) (fn := Tryz.f62) H h)
    clear H h a
    rintro _ w57 a ⟨C58, rfl, h⟩ H
    refine c_nil <| effQ.ok (v := C58.v) (H.weaken (L' := [(26, C58.v)]) ⟨rfl, trivial⟩) ⟨[(0, l36.v), (1, (.i l39)), (2, l42.v), (3, (.i l45)), (4, (.i (wr .i64 (l45 - 4)))), (5, (.i l48)), (6, (Slc.v (l42.cut 1 (Int.toNat (wr .i64 (l45 - 4))) (Int.toNat (l48))))), (7, C58.v), (8, (.agg #[C58.v, (.i 0)])), (10, (.i l54))], ⟨rfl, rfl, rfl, rfl, rfl, rfl, rfl, rfl, rfl, trivial⟩, ?_⟩
    have hx := st_7 C58 w57 h
    rw [h140] at hx
    exact hx
   ·refine ⟨_, rfl, fun a H => ?_⟩
    replace H := H.weaken (L' := [(29, (.i l54))]) ⟨rfl, trivial⟩
    have h := h135 none none none w35 hr
    replace h := h.get
    obtain ⟨b66, w67, n68, h⟩ := h
    refine s_bslc H rfl (by rw [H.parts (vs := [(0, (.i l54))]) rfl]; exact bs_24_1_ii640 w35 l54) (lt_ rfl) ?_
    rw [← n68.at_]
    clear H a
    intro a H
    refine n68.go <| c_nil <| effQ.ok (v := (Slc.v (Slc.mk (some (blk b66)) 1 1))) (H.weaken (L' := [(30, (Slc.v (Slc.mk (some (blk b66)) 1 1)))]) ⟨rfl, trivial⟩) ⟨[(0, l36.v), (1, (.i l39)), (2, l42.v), (3, (.i l45)), (4, (.i (wr .i64 (l45 - 4)))), (5, (.i l48)), (6, (Slc.v (l42.cut 1 (Int.toNat (wr .i64 (l45 - 4))) (Int.toNat (l48))))), (10, (.i l54)), (11, (Slc.v (Slc.mk (some (blk b66)) 1 1)))], ⟨rfl, rfl, rfl, rfl, rfl, rfl, rfl, rfl, rfl, trivial⟩, ?_⟩
    have hx := st_11 b66 w67 h
    rw [h140] at hx
    exact hx
   ·refine ⟨_, rfl, fun a H => ?_⟩
    replace H := H.weaken (L' := []) trivial
    have h := h137 none none none none w35 hr
    replace h := h.get
    obtain ⟨b72, w73, n74, h⟩ := h
    refine s_alloc H rfl zero_161 (lt_ rfl) ?_
    rw [← n74.at_]
    clear H a
    intro a H
    refine n74.go <| c_nil <| effQ.ok (v := (.pointer (some (blk b72)))) (H.weaken (L' := [(11, (.pointer (some (blk b72))))]) ⟨rfl, trivial⟩) ⟨[(0, l36.v), (1, (.i l39)), (2, l42.v), (3, (.i l45)), (4, (.i (wr .i64 (l45 - 4)))), (5, (.i l48)), (6, (Slc.v (l42.cut 1 (Int.toNat (wr .i64 (l45 - 4))) (Int.toNat (l48))))), (10, (.i l54)), (14, (.pointer (some (blk b72))))], ⟨rfl, rfl, rfl, rfl, rfl, rfl, rfl, rfl, rfl, trivial⟩, ?_⟩
    have hx := st_14 b72 w73 h
    rw [h140] at hx
    exact hx
  exact st_ _ h141

theorem sim_disk_Disk_Wipe (d1 : Option Addr) (s2 : Int) (w : World) (Q : Ending → World → Prop) (h : vc_disk_Disk_Wipe d1 s2 w Q) : Calls PP F_disk_Disk_Wipe #[(.pointer d1), (.i s2)] w Q := by
 unfold vc_disk_Disk_Wipe at h
 refine enter (n := 8) Tryz.func65 rfl rfl (Nat.le_of_ble_eq_true rfl) fun a H => c_seq fun K3 hK3 => c_reg <| s_assign H rfl rfl (lt_ rfl) fun a H => c_nil <| hK3 _ _ <| c_seq fun K4 hK4 => c_reg <| s_move H rfl rfl (lt_ rfl) fun a H => s_move H rfl rfl (lt_ rfl) fun a H => s_call H rfl body_76 (H.args (vs := [(.pointer d1), (.i s2), (.bool true), (.func (.func 106) #[] #[])]) rfl) (lt_ rfl) h ?_ (fun c w' h H => e_panic (P := PP) (fn := Tryz.f65) H h)
 clear H h a
 rintro _ w5 a ⟨a6, rfl, h⟩ H
 refine s_assign H rfl rfl (lt_ rfl) fun a H => c_nil <| hK4 _ _ <| c_ret ?_
 exact e_ret1 H rfl rfl h

theorem sim_disk_Disk_Switch (d1 : Option Addr) (a2 : Int) (w : World) (Q : Ending → World → Prop) (h : vc_disk_Disk_Switch d1 a2 w Q) : Calls PP F_disk_Disk_Switch #[(.pointer d1), (.i a2)] w Q := by
 unfold vc_disk_Disk_Switch at h
 refine enter (n := 9) Tryz.func66 rfl rfl (Nat.le_of_ble_eq_true rfl) fun a H => c_seq fun K3 hK3 => c_reg ?_
 replace h := h.get
 obtain ⟨b4, w5, n6, h⟩ := h
 refine s_box H rfl rfl (lt_ rfl) ?_
 rw [← n6.at_]
 clear H a
 intro a H
 refine n6.go ?_
 replace h := h.get
 obtain ⟨b7, w8, n9, h⟩ := h
 refine s_box H rfl rfl (lt_ rfl) ?_
 rw [← n9.at_]
 clear H a
 intro a H
 refine n9.go <| s_assign H rfl rfl (lt_ rfl) fun a H => c_nil <| hK3 _ _ <| c_seq fun K10 hK10 => c_reg <| s_load (v := (.pointer d1)) H rfl rfl one_33 (n9.old (n6.cell (i := 0) rfl)) (lt_ rfl) fun a H => s_load (v := (.i a2)) H rfl rfl one_3 (n9.cell (i := 0) rfl) (lt_ rfl) fun a H => s_mkf H rfl (H.args (vs := [(.pointer (some (blk b7))), (.pointer (some (blk b4)))]) rfl) (lt_ rfl) fun a H => ?_
 refine s_call H rfl body_76 (H.args (vs := [(.pointer d1), (.i a2), (.bool false), (.func (.func F_disk_Disk_Switch_c1) #[] #[(.pointer (some (blk b7))), (.pointer (some (blk b4)))])]) rfl) (lt_ rfl) h ?_ (fun c w' h H => e_panic (P := PP) (fn := Tryz.f66) H h)
 clear H h a
 rintro _ w11 a ⟨a12, rfl, h⟩ H
 refine s_assign H rfl rfl (lt_ rfl) fun a H => c_nil <| hK10 _ _ <| c_ret ?_
 exact e_ret1 H rfl rfl h

theorem sim_record_may (K1 : Int) (K2 : ByteArray) (C3 C4 : Int) (F5 H6 : Bool) (D7 : Slc) (w : World) (Q : Ending → World → Prop) (h : vc_record_may K1 K2 C3 C4 F5 H6 D7 w Q) : Calls PP F_record_may #[(.agg #[(.i K1), (.string K2), (.i C3), (.i C4), (.bool F5), (.bool H6), D7.v])] w Q := by
 unfold vc_record_may at h
 refine enter (n := 74) Tryz.func67 rfl rfl (Nat.le_of_ble_eq_true rfl) fun a H => c_seq fun K8 hK8 => c_reg ?_
 replace h := h.get
 obtain ⟨b9, w10, n11, h⟩ := h
 refine s_box H rfl rfl (lt_ rfl) ?_
 rw [← n11.at_]
 clear H a
 intro a H
 refine n11.go <| s_assign H rfl rfl (lt_ rfl) fun a H => c_nil <| hK8 _ _ <| c_seq fun K12 hK12 => c_reg <| s_fld H rfl rfl fld_92_0 (lt_ rfl) fun a H => s_load (v := (.i K1)) H rfl rfl one_3 (n11.cell (i := 0) rfl) (lt_ rfl) fun a H => s_bin H rfl rfl rfl r_eql (lt_ rfl) fun a H => s_move H rfl rfl (lt_ rfl) fun a H => ?_
 refine g_join (n := 74) [(16, (.bool ((decide (K1 = 1)) || ((decide (K1 = 3)) && H6)))), (1, (.pointer (some (blk b9))))] (.succ (.succ (.succ (.succ (.succ (.succ (.succ (.succ (.succ (.zero _)))))))))) ?_ ?_
 ·intro h14
  try clear h
  rcases Bool.eq_false_or_eq_true (decide (K1 = 1)) with h13 | h13
  ·replace H := H.ch (t := 7) (b := true) rfl h13
   iterate 4 refine s_skip H (wantN H rfl rfl rfl) rfl (lt_ rfl) fun a H => ?_
   iterate 3 refine s_skip H (wantU H rfl rfl) rfl (lt_ rfl) fun a H => ?_
   refine s_skip H (wantN H rfl rfl rfl) rfl (lt_ rfl) fun a H => s_pickT H rfl rfl rfl (lt_ rfl) fun a H => ?_
   exact h14 _ (H.weaken ⟨by rw [h13]; rfl, rfl, trivial⟩)
  ·replace H := H.ch (t := 7) (b := false) rfl h13
   refine s_fld H (wantG H rfl rfl) rfl fld_92_0 (lt_ rfl) fun a H => s_load (v := (.i K1)) H (wantG H rfl rfl) rfl one_3 (n11.cell (i := 0) rfl) (lt_ rfl) fun a H => s_bin H (wantG H rfl rfl) rfl rfl r_eql (lt_ rfl) fun a H => s_move H (wantG H rfl rfl) rfl (lt_ rfl) fun a H => g_join (n := 74) [(15, (.bool ((decide (K1 = 3)) && H6))), (1, (.pointer (some (blk b9)))), (7, (.bool false))] (.succ (.succ (.succ (.succ (.zero _))))) ?_ ?_
   ·intro h16
    try clear h
    rcases Bool.eq_false_or_eq_true (decide (K1 = 3)) with h15 | h15
    ·replace H := H.ch (t := 11) (b := true) rfl h15
     refine s_fld H (wantG H rfl rfl) rfl fld_92_2 (lt_ rfl) fun a H => s_fld H (wantG H rfl rfl) rfl fld_90_2 (lt_ rfl) fun a H => s_load (v := (.bool H6)) H (wantG H rfl rfl) rfl one_4 (n11.cell (i := 5) rfl) (lt_ rfl) fun a H => s_pickT H (wantG H rfl rfl) rfl rfl (lt_ rfl) fun a H => ?_
     exact h16 _ (H.weaken ⟨by rw [h15]; rfl, rfl, rfl, trivial⟩)
    ·replace H := H.ch (t := 11) (b := false) rfl h15
     iterate 3 refine s_skip H (wantN H rfl rfl rfl) rfl (lt_ rfl) fun a H => ?_
     refine s_pickF H (wantG H rfl rfl) rfl rfl (lt_ rfl) fun a H => ?_
     exact h16 _ (H.weaken ⟨by rw [h15]; rfl, rfl, rfl, trivial⟩)
   ·clear H a
    intro a H
    refine s_pickF H rfl rfl rfl (lt_ rfl) fun a H => ?_
    exact h14 _ (H.weaken ⟨by rw [h13]; rfl, rfl, trivial⟩)
 ·clear H a
  intro a H
  refine s_assign H rfl rfl (lt_ rfl) fun a H => c_nil <| hK12 _ _ <| c_seq fun K17 hK17 => c_block <| c_seq fun K18 hK18 => c_reg <| s_fld H rfl rfl fld_92_0 (lt_ rfl) fun a H => s_load (v := (.i K1)) H rfl rfl one_3 (n11.cell (i := 0) rfl) (lt_ rfl) fun a H => s_bin H rfl rfl rfl r_lss (lt_ rfl) fun a H => s_move H rfl rfl (lt_ rfl) fun a H => ?_
  refine g_join (n := 74) [(25, (.bool ((decide (K1 < 1)) || (decide (3 < K1))))), (1, (.pointer (some (blk b9)))), (3, (.bool ((decide (K1 = 1)) || ((decide (K1 = 3)) && H6))))] (.succ (.succ (.succ (.succ (.zero _))))) ?_ ?_
  ·intro h20
   try clear h
   rcases Bool.eq_false_or_eq_true (decide (K1 < 1)) with h19 | h19
   ·replace H := H.ch (t := 21) (b := true) rfl h19
    iterate 3 refine s_skip H (wantN H rfl rfl rfl) rfl (lt_ rfl) fun a H => ?_
    refine s_pickT H rfl rfl rfl (lt_ rfl) fun a H => ?_
    exact h20 _ (H.weaken ⟨by rw [h19]; rfl, rfl, rfl, trivial⟩)
   ·replace H := H.ch (t := 21) (b := false) rfl h19
    refine s_fld H (wantG H rfl rfl) rfl fld_92_0 (lt_ rfl) fun a H => s_load (v := (.i K1)) H (wantG H rfl rfl) rfl one_3 (n11.cell (i := 0) rfl) (lt_ rfl) fun a H => s_bin H (wantG H rfl rfl) rfl rfl r_gtr (lt_ rfl) fun a H => s_pickF H rfl rfl rfl (lt_ rfl) fun a H => ?_
    exact h20 _ (H.weaken ⟨by rw [h19]; rfl, rfl, rfl, trivial⟩)
  ·clear H a
   intro a H
   refine s_assign H rfl rfl (lt_ rfl) fun a H => c_nil <| hK18 _ _ <| c_cond H rfl (fun h21 => ?_) (fun h21 => ?_)
   ·replace h := h.1 h21
    refine c_seq fun K22 hK22 => c_reg <| s_assign H rfl rfl (lt_ rfl) fun a H => c_nil <| hK22 _ _ <| c_ret ?_
    exact e_ret1 H rfl rfl h
   ·replace h := h.2 h21
    refine c_seq fun K23 hK23 => c_reg <| s_fld H rfl rfl fld_92_1 (lt_ rfl) fun a H => s_load (v := (.string K2)) H rfl rfl one_9 (n11.cell (i := 1) rfl) (lt_ rfl) fun a H => s_blt H rfl (H.args (vs := [(.string K2)]) rfl) (lt_ rfl) (fun cs => b_lenT str_9) fun a H => s_bin H rfl rfl rfl r_lss (lt_ rfl) fun a H => s_move H rfl rfl (lt_ rfl) fun a H => ?_
    refine g_join (n := 74) [(36, (.bool ((decide ((K2.size : Int) < 1)) || (decide (64 < (K2.size : Int)))))), (1, (.pointer (some (blk b9)))), (3, (.bool ((decide (K1 = 1)) || ((decide (K1 = 3)) && H6))))] (.succ (.succ (.succ (.succ (.succ (.zero _)))))) ?_ ?_
    ·intro h25
     try clear h
     rcases Bool.eq_false_or_eq_true (decide ((K2.size : Int) < 1)) with h24 | h24
     ·replace H := H.ch (t := 31) (b := true) rfl h24
      iterate 4 refine s_skip H (wantN H rfl rfl rfl) rfl (lt_ rfl) fun a H => ?_
      refine s_pickT H rfl rfl rfl (lt_ rfl) fun a H => ?_
      exact h25 _ (H.weaken ⟨by rw [h24]; rfl, rfl, rfl, trivial⟩)
     ·replace H := H.ch (t := 31) (b := false) rfl h24
      refine s_fld H (wantG H rfl rfl) rfl fld_92_1 (lt_ rfl) fun a H => s_load (v := (.string K2)) H (wantG H rfl rfl) rfl one_9 (n11.cell (i := 1) rfl) (lt_ rfl) fun a H => s_blt H (wantG H rfl rfl) (H.args (vs := [(.string K2)]) rfl) (lt_ rfl) (fun cs => b_lenT str_9) fun a H => s_bin H (wantG H rfl rfl) rfl rfl r_gtr (lt_ rfl) fun a H => s_pickF H rfl rfl rfl (lt_ rfl) fun a H => ?_
      exact h25 _ (H.weaken ⟨by rw [h24]; rfl, rfl, rfl, trivial⟩)
    ·clear H a
     intro a H
     refine s_assign H rfl rfl (lt_ rfl) fun a H => c_nil <| hK23 _ _ <| c_cond H rfl (fun h26 => ?_) (fun h26 => ?_)
     ·replace h := h.1 h26
      refine c_seq fun K27 hK27 => c_reg <| s_assign H rfl rfl (lt_ rfl) fun a H => c_nil <| hK27 _ _ <| c_ret ?_
      exact e_ret1 H rfl rfl h
     ·replace h := h.2 h26
      refine c_seq fun K28 hK28 => c_reg <| s_fld H rfl rfl fld_92_2 (lt_ rfl) fun a H => s_fld H rfl rfl fld_90_0 (lt_ rfl) fun a H => s_loadN (l := [(.i C3), (.i C4)]) H rfl rfl agg_88 rfl ⟨(n11.cell (i := 2) rfl), (n11.cell (i := 3) rfl), trivial⟩ (lt_ rfl) fun a H => s_call H rfl body_108 (H.args (vs := [(.agg #[(.i C3), (.i C4)])]) rfl) (lt_ rfl) h ?_ (fun c w' h H => e_panic (P := PP) (fn := Tryz.f67) H h)
      clear H h a
      rintro _ w29 a ⟨Z30, rfl, h⟩ H
      refine s_move H rfl rfl (lt_ rfl) fun a H => ?_
      obtain ⟨R33, h, h78⟩ := h
      refine g_joinW (n := 74) R33 (fun x34 => [(48, (.bool x34)), (1, (.pointer (some (blk b9)))), (3, (.bool ((decide (K1 = 1)) || ((decide (K1 = 3)) && H6))))]) (.succ (.succ (.succ (.succ (.succ (.succ (.zero _))))))) ?_ ?_
      ·intro h32
       clear h78
       rcases Bool.eq_false_or_eq_true Z30 with h31 | h31
       ·replace H := H.ch (t := 42) (b := true) rfl h31
        replace h := h.2 h31
        iterate 5 refine s_skip H (wantN H rfl rfl rfl) rfl (lt_ rfl) fun a H => ?_
        refine s_pickT H rfl rfl rfl (lt_ rfl) fun a H => ?_
        exact h32 _ _ _ h (H.weaken ⟨rfl, rfl, rfl, trivial⟩)
       ·replace H := H.ch (t := 42) (b := false) rfl h31
        replace h := h.1 h31
        refine s_fld H (wantG H rfl rfl) rfl fld_92_2 (lt_ rfl) fun a H => s_fld H (wantG H rfl rfl) rfl fld_90_0 (lt_ rfl) fun a H => ?_
        obtain ⟨C36, hc37, C38, hc39, h⟩ := h
        refine s_loadN (l := [(.i C36), (.i C38)]) H (wantG H rfl rfl) rfl agg_88 rfl ⟨hc37, hc39, trivial⟩ (lt_ rfl) fun a H => s_call H (wantG H rfl rfl) body_109 (H.args (vs := [(.agg #[(.i C36), (.i C38)])]) rfl) (lt_ rfl) h ?_ (fun c w' h H => e_panic (P := PP) (fn := Tryz.f67) H h)
        clear H h a
        rintro _ w40 a ⟨V41, rfl, h⟩ H
        refine s_un H (wantG H rfl rfl) rfl r_not (lt_ rfl) fun a H => s_pickF H rfl rfl rfl (lt_ rfl) fun a H => ?_
        exact h32 _ _ _ h (H.weaken ⟨rfl, rfl, rfl, trivial⟩)
      ·clear H a h
       intro a x34 w35 h H
       replace h := h78 x34 w35 h
       clear h78
       refine s_assign H rfl rfl (lt_ rfl) fun a H => c_nil <| hK28 _ _ <| c_cond H rfl (fun h46 => ?_) (fun h46 => ?_)
       ·replace h := h.1 h46
        refine c_seq fun K47 hK47 => c_reg <| s_assign H rfl rfl (lt_ rfl) fun a H => c_nil <| hK47 _ _ <| c_ret ?_
        exact e_ret1 H rfl rfl h
       ·replace h := h.2 h46
        refine c_seq fun K48 hK48 => c_reg <| s_fld H rfl rfl fld_92_0 (lt_ rfl) fun a H => ?_
        obtain ⟨l49, hc50, h⟩ := h
        refine s_load (v := (.i l49)) H rfl rfl one_3 hc50 (lt_ rfl) fun a H => s_bin H rfl rfl rfl r_eql (lt_ rfl) fun a H => s_move H rfl rfl (lt_ rfl) fun a H => ?_
        obtain ⟨x55, h56, h57, h⟩ := h
        refine g_join (n := 74) [(58, (.bool x55)), (1, (.pointer (some (blk b9)))), (3, (.bool ((decide (K1 = 1)) || ((decide (K1 = 3)) && H6))))] (.succ (.succ (.succ (.succ (.succ (.zero _)))))) ?_ ?_
        ·intro h52
         try clear h
         rcases Bool.eq_false_or_eq_true (decide (l49 = 3)) with h51 | h51
         ·replace H := H.ch (t := 53) (b := true) rfl h51
          replace h := h56 h51
          refine s_fld H (wantG H rfl rfl) rfl fld_92_2 (lt_ rfl) fun a H => s_fld H (wantG H rfl rfl) rfl fld_90_1 (lt_ rfl) fun a H => ?_
          obtain ⟨l53, hc54, h⟩ := h
          refine s_load (v := (.bool l53)) H (wantG H rfl rfl) rfl one_4 hc54 (lt_ rfl) fun a H => s_un H (wantG H rfl rfl) rfl r_not (lt_ rfl) fun a H => s_pickT H rfl rfl rfl (lt_ rfl) fun a H => ?_
          subst h
          exact h52 _ (H.weaken ⟨rfl, rfl, rfl, trivial⟩)
         ·replace H := H.ch (t := 53) (b := false) rfl h51
          iterate 4 refine s_skip H (wantN H rfl rfl rfl) rfl (lt_ rfl) fun a H => ?_
          refine s_pickF H rfl rfl rfl (lt_ rfl) fun a H => ?_
          replace h := h57 h51
          subst h
          exact h52 _ (H.weaken ⟨rfl, rfl, rfl, trivial⟩)
        ·clear H a
         clear h56 h57
         intro a H
         refine s_move H rfl rfl (lt_ rfl) fun a H => ?_
         obtain ⟨x62, h63, h64, h⟩ := h
         refine g_join (n := 74) [(64, (.bool x62)), (1, (.pointer (some (blk b9)))), (3, (.bool ((decide (K1 = 1)) || ((decide (K1 = 3)) && H6))))] (.succ (.succ (.succ (.succ (.succ (.zero _)))))) ?_ ?_
         ·intro h59
          try clear h
          rcases Bool.eq_false_or_eq_true x55 with h58 | h58
          ·replace H := H.ch (t := 59) (b := true) rfl h58
           replace h := h63 h58
           refine s_fld H (wantG H rfl rfl) rfl fld_92_2 (lt_ rfl) fun a H => s_fld H (wantG H rfl rfl) rfl fld_90_2 (lt_ rfl) fun a H => ?_
           obtain ⟨l60, hc61, h⟩ := h
           refine s_load (v := (.bool l60)) H (wantG H rfl rfl) rfl one_4 hc61 (lt_ rfl) fun a H => s_un H (wantG H rfl rfl) rfl r_not (lt_ rfl) fun a H => s_pickT H rfl rfl rfl (lt_ rfl) fun a H => ?_
           subst h
           exact h59 _ (H.weaken ⟨rfl, rfl, rfl, trivial⟩)
          ·replace H := H.ch (t := 59) (b := false) rfl h58
           iterate 4 refine s_skip H (wantN H rfl rfl rfl) rfl (lt_ rfl) fun a H => ?_
           refine s_pickF H rfl rfl rfl (lt_ rfl) fun a H => ?_
           replace h := h64 h58
           subst h
           exact h59 _ (H.weaken ⟨rfl, rfl, rfl, trivial⟩)
         ·clear H a
          clear h63 h64
          intro a H
          refine s_assign H rfl rfl (lt_ rfl) fun a H => c_nil <| hK48 _ _ <| c_cond H rfl (fun h65 => ?_) (fun h65 => ?_)
          ·replace h := h.1 h65
           refine c_seq fun K66 hK66 => c_reg <| s_assign H rfl rfl (lt_ rfl) fun a H => c_nil <| hK66 _ _ <| c_ret ?_
           exact e_ret1 H rfl rfl h
          ·replace h := h.2 h65
           refine c_seq fun K67 hK67 => c_reg <| s_move H rfl rfl (lt_ rfl) fun a H => s_move H rfl rfl (lt_ rfl) fun a H => ?_
           obtain ⟨x72, h73, h74, h⟩ := h
           refine g_join (n := 74) [(73, (.bool x72))] (.succ (.succ (.succ (.succ (.succ (.succ (.zero _))))))) ?_ ?_
           ·intro h69
            try clear h
            rcases Bool.eq_false_or_eq_true ((decide (K1 = 1)) || ((decide (K1 = 3)) && H6)) with h68 | h68
            ·replace H := H.ch (t := 67) (b := true) rfl h68
             replace h := h73 h68
             refine s_fld H (wantG H rfl rfl) rfl fld_92_2 (lt_ rfl) fun a H => s_fld H (wantG H rfl rfl) rfl fld_90_3 (lt_ rfl) fun a H => ?_
             obtain ⟨l70, hc71, h⟩ := h
             refine s_load (v := l70.v) H (wantG H rfl rfl) rfl one_51 hc71 (lt_ rfl) fun a H => s_blt H (wantG H rfl rfl) (H.args (vs := [l70.v]) rfl) (lt_ rfl) (fun cs => b_lenS (z := l70) sl_51) fun a H => s_bin H (wantG H rfl rfl) rfl rfl r_gtr (lt_ rfl) fun a H => s_pickT H rfl rfl rfl (lt_ rfl) fun a H => ?_
             subst h
             exact h69 _ (H.weaken ⟨rfl, trivial⟩)
            ·replace H := H.ch (t := 67) (b := false) rfl h68
             iterate 5 refine s_skip H (wantN H rfl rfl rfl) rfl (lt_ rfl) fun a H => ?_
             refine s_pickF H rfl rfl rfl (lt_ rfl) fun a H => ?_
             replace h := h74 h68
             subst h
             exact h69 _ (H.weaken ⟨rfl, trivial⟩)
           ·clear H a
            clear h73 h74
            intro a H
            refine s_assign H rfl rfl (lt_ rfl) fun a H => c_nil <| hK67 _ _ <| c_cond H rfl (fun h75 => ?_) (fun h75 => ?_)
            ·replace h := h.1 h75
             refine c_seq fun K76 hK76 => c_reg <| s_assign H rfl rfl (lt_ rfl) fun a H => c_nil <| hK76 _ _ <| c_ret ?_
             exact e_ret1 H rfl rfl h
            ·replace h := h.2 h75
             refine c_skip <| hK17 _ _ <| c_seq fun K77 hK77 => c_reg <| s_assign H rfl rfl (lt_ rfl) fun a H => c_nil <| hK77 _ _ <| c_ret ?_
             exact e_ret1 H rfl rfl h

theorem sim_pack_NewWriter (w : World) (Q : Ending → World → Prop) (h : vc_pack_NewWriter w Q) : Calls PP F_pack_NewWriter #[] w Q := by
 unfold vc_pack_NewWriter at h
 refine enter (n := 3) Tryz.func68 rfl rfl (Nat.le_of_ble_eq_true rfl) fun a H => c_seq fun K1 hK1 => c_reg <| s_assign H rfl rfl (lt_ rfl) fun a H => c_nil <| hK1 _ _ <| c_seq fun K2 hK2 => c_reg <| s_build H rfl (by rw [H.parts (vs := []) rfl]; exact bd_180 w) (lt_ rfl) fun a H => ?_
 replace h := h.get
 obtain ⟨b3, w4, n5, h⟩ := h
 refine s_box H rfl rfl (lt_ rfl) ?_
 rw [← n5.at_]
 clear H a
 intro a H
 refine n5.go <| s_assign H rfl rfl (lt_ rfl) fun a H => c_nil <| hK2 _ _ <| c_ret ?_
 exact e_ret1 H rfl rfl h

theorem sim_pack_Writer_Byte (w1 : Option Addr) (b2 : Int) (w : World) (Q : Ending → World → Prop) (h : vc_pack_Writer_Byte w1 b2 w Q) : Calls PP F_pack_Writer_Byte #[(.pointer w1), (.int .u8 b2)] w Q := by
 unfold vc_pack_Writer_Byte at h
 refine enter (n := 8) Tryz.func69 rfl rfl (Nat.le_of_ble_eq_true rfl) fun a H => c_reg <| s_move H rfl rfl (lt_ rfl) fun a H => s_move H rfl rfl (lt_ rfl) fun a H => ?_
 replace h := h.get
 obtain ⟨b3, w4, n5, h⟩ := h
 refine s_bslc H rfl (by rw [H.parts (vs := [(0, (.int .u8 b2))]) rfl]; exact bs_51_1_iu80 w b2) (lt_ rfl) ?_
 rw [← n5.at_]
 clear H a
 intro a H
 refine n5.go <| s_call H rfl body_110 (H.args (vs := [(.pointer w1), (Slc.v (Slc.mk (some (blk b3)) 1 1))]) rfl) (lt_ rfl) h ?_ (fun c w' h H => e_panic (P := PP) (fn := Tryz.f69) H h)
 clear H h a
 rintro _ w6 a ⟨rfl, h⟩ H
 refine c_nil ?_
 exact e_ret0 H rfl h

theorem sim_pack_Writer_Bytes (w1 : Option Addr) (b2 : Slc) (w : World) (Q : Ending → World → Prop) (h : vc_pack_Writer_Bytes w1 b2 w Q) : Calls PP F_pack_Writer_Bytes #[(.pointer w1), b2.v] w Q := by
 unfold vc_pack_Writer_Bytes at h
 refine enter (n := 11) Tryz.func70 rfl rfl (Nat.le_of_ble_eq_true rfl) fun a H => c_seq fun K3 hK3 => c_reg <| s_move H rfl rfl (lt_ rfl) fun a H => s_move H rfl rfl (lt_ rfl) fun a H => s_blt H rfl (H.args (vs := [b2.v]) rfl) (lt_ rfl) (fun cs => b_lenS (z := b2) sl_51) fun a H => s_call H rfl body_111 (H.args (vs := [(.pointer w1), (.i (b2.l : Int))]) rfl) (lt_ rfl) h ?_ (fun c w' h H => e_panic (P := PP) (fn := Tryz.f70) H h)
 clear H h a
 rintro _ w4 a ⟨rfl, h⟩ H
 refine c_nil <| hK3 _ _ <| c_reg <| s_move H rfl rfl (lt_ rfl) fun a H => s_move H rfl rfl (lt_ rfl) fun a H => s_call H rfl body_110 (H.args (vs := [(.pointer w1), b2.v]) rfl) (lt_ rfl) h ?_ (fun c w' h H => e_panic (P := PP) (fn := Tryz.f70) H h)
 clear H h a
 rintro _ w5 a ⟨rfl, h⟩ H
 refine c_nil ?_
 exact e_ret0 H rfl h

theorem sim_record_body (K1 : Int) (K2 : ByteArray) (C3 C4 : Int) (F5 H6 : Bool) (D7 : Slc) (w : World) (Q : Ending → World → Prop) (h : vc_record_body K1 K2 C3 C4 F5 H6 D7 w Q) : Calls PP F_record_body #[(.agg #[(.i K1), (.string K2), (.i C3), (.i C4), (.bool F5), (.bool H6), D7.v])] w Q := by
 unfold vc_record_body at h
 refine enter (n := 54) Tryz.func71 rfl rfl (Nat.le_of_ble_eq_true rfl) fun a H => c_seq fun K8 hK8 => c_reg ?_
 replace h := h.get
 obtain ⟨b9, w10, n11, h⟩ := h
 refine s_box H rfl rfl (lt_ rfl) ?_
 rw [← n11.at_]
 clear H a
 intro a H
 refine n11.go <| s_assign H rfl rfl (lt_ rfl) fun a H => c_nil <| hK8 _ _ <| c_seq fun K12 hK12 => c_reg <| s_call H rfl body_68 (H.args (vs := []) rfl) (lt_ rfl) h ?_ (fun c w' h H => e_panic (P := PP) (fn := Tryz.f71) H h)
 clear H h a
 rintro _ w13 a ⟨N14, rfl, h⟩ H
 refine s_assign H rfl rfl (lt_ rfl) fun a H => c_nil <| hK12 _ _ <| c_seq fun K15 hK15 => c_reg <| s_move H rfl rfl (lt_ rfl) fun a H => s_fld H rfl rfl fld_92_0 (lt_ rfl) fun a H => ?_
 obtain ⟨l16, hc17, h⟩ := h
 refine s_load (v := (.i l16)) H rfl rfl one_3 hc17 (lt_ rfl) fun a H => s_cv H rfl rfl (r_cvI some_3 int_5) (lt_ rfl) fun a H => s_call H rfl body_69 (H.args (vs := [(.pointer N14), (.int .u8 (wr .u8 l16))]) rfl) (lt_ rfl) h ?_ (fun c w' h H => e_panic (P := PP) (fn := Tryz.f71) H h)
 clear H h a
 rintro _ w18 a ⟨rfl, h⟩ H
 refine c_nil <| hK15 _ _ <| c_seq fun K19 hK19 => c_reg <| s_move H rfl rfl (lt_ rfl) fun a H => s_fld H rfl rfl fld_92_1 (lt_ rfl) fun a H => ?_
 obtain ⟨l20, hc21, h⟩ := h
 refine s_load (v := (.string l20)) H rfl rfl one_9 hc21 (lt_ rfl) fun a H => s_call H rfl body_112 (H.args (vs := [(.pointer N14), (.string l20)]) rfl) (lt_ rfl) h ?_ (fun c w' h H => e_panic (P := PP) (fn := Tryz.f71) H h)
 clear H h a
 rintro _ w22 a ⟨rfl, h⟩ H
 refine c_nil <| hK19 _ _ <| c_seq fun K23 hK23 => c_reg <| s_move H rfl rfl (lt_ rfl) fun a H => s_fld H rfl rfl fld_92_2 (lt_ rfl) fun a H => s_fld H rfl rfl fld_90_0 (lt_ rfl) fun a H => s_fld H rfl rfl fld_88_0 (lt_ rfl) fun a H => ?_
 obtain ⟨l24, hc25, h⟩ := h
 refine s_load (v := (.i l24)) H rfl rfl one_2 hc25 (lt_ rfl) fun a H => s_call H rfl body_111 (H.args (vs := [(.pointer N14), (.i l24)]) rfl) (lt_ rfl) h ?_ (fun c w' h H => e_panic (P := PP) (fn := Tryz.f71) H h)
 clear H h a
 rintro _ w26 a ⟨rfl, h⟩ H
 refine c_nil <| hK23 _ _ <| c_seq fun K27 hK27 => c_reg <| s_move H rfl rfl (lt_ rfl) fun a H => s_fld H rfl rfl fld_92_2 (lt_ rfl) fun a H => s_fld H rfl rfl fld_90_0 (lt_ rfl) fun a H => s_fld H rfl rfl fld_88_1 (lt_ rfl) fun a H => ?_
 obtain ⟨l28, hc29, h⟩ := h
 refine s_load (v := (.i l28)) H rfl rfl one_3 hc29 (lt_ rfl) fun a H => s_call H rfl body_111 (H.args (vs := [(.pointer N14), (.i l28)]) rfl) (lt_ rfl) h ?_ (fun c w' h H => e_panic (P := PP) (fn := Tryz.f71) H h)
 clear H h a
 rintro _ w30 a ⟨rfl, h⟩ H
 refine c_nil <| hK27 _ _ <| c_seq fun K31 hK31 => c_reg <| s_fld H rfl rfl fld_92_0 (lt_ rfl) fun a H => ?_
 obtain ⟨l32, hc33, h⟩ := h
 refine s_load (v := (.i l32)) H rfl rfl one_3 hc33 (lt_ rfl) fun a H => s_bin H rfl rfl rfl r_eql (lt_ rfl) fun a H => s_assign H rfl rfl (lt_ rfl) fun a H => c_nil <| hK31 _ _ <| c_seq fun K34 hK34 => ?_
 obtain ⟨R36, h, h82⟩ := h
 have h59 : ∀ (a : Act) (h35 : Bool) (w37 : World), R36 h35 w37 → Has 54 [] a [(1, (.pointer (some (blk b9)))), (3, (.pointer N14)), (4, (.bool h35))] → K34 a w37 := by
  clear h
  intro a h35 w37 h H
  replace h := h82 h35 w37 h
  refine hK34 _ _ <| c_seq fun K38 hK38 => ?_
  obtain ⟨R39, h, h58⟩ := h
  have h48 : ∀ (a : Act) (w40 : World), R39 w40 → Has 54 [] a [(3, (.pointer N14))] → K38 a w40 := by
   clear h
   intro a w40 h H
   replace h := h58 w40 h
   refine hK38 _ _ <| c_seq fun K41 hK41 => c_reg <| s_move H rfl rfl (lt_ rfl) fun a H => s_call H rfl body_72 (H.args (vs := [(.pointer N14)]) rfl) (lt_ rfl) h ?_ (fun c w' h H => e_panic (P := PP) (fn := Tryz.f71) H h)
   clear H h a
   rintro _ w42 a ⟨D43, rfl, h⟩ H
   refine s_assign H rfl rfl (lt_ rfl) fun a H => c_nil <| hK41 _ _ <| c_ret ?_
   exact e_ret1 H rfl rfl h
  clear h58
  refine c_seq fun K49 hK49 => c_reg <| s_move H rfl rfl (lt_ rfl) fun a H => c_nil <| hK49 _ _ <| c_cond H rfl (fun h50 => ?_) (fun h50 => ?_)
  ·replace h := h.1 h50
   refine c_reg <| s_move H rfl rfl (lt_ rfl) fun a H => s_fld H rfl rfl fld_92_2 (lt_ rfl) fun a H => s_fld H rfl rfl fld_90_3 (lt_ rfl) fun a H => ?_
   obtain ⟨l51, hc52, h⟩ := h
   refine s_load (v := l51.v) H rfl rfl one_51 hc52 (lt_ rfl) fun a H => s_call H rfl body_70 (H.args (vs := [(.pointer N14), l51.v]) rfl) (lt_ rfl) h ?_ (fun c w' h H => e_panic (P := PP) (fn := Tryz.f71) H h)
   clear H h a
   rintro _ w53 a ⟨rfl, h⟩ H
   refine c_nil ?_
   exact h48 _ _ h (H.weaken ⟨rfl, trivial⟩)
  ·replace h := h.2 h50
   refine c_skip ?_
   exact h48 _ _ h (H.weaken ⟨rfl, trivial⟩)
 clear h82
 refine c_seq fun K60 hK60 => c_reg <| s_fld H rfl rfl fld_92_0 (lt_ rfl) fun a H => ?_
 obtain ⟨l61, hc62, h⟩ := h
 refine s_load (v := (.i l61)) H rfl rfl one_3 hc62 (lt_ rfl) fun a H => s_bin H rfl rfl rfl r_eql (lt_ rfl) fun a H => c_nil <| hK60 _ _ <| c_cond H rfl (fun h63 => ?_) (fun h63 => ?_)
 ·replace h := h.1 h63
  refine c_seq fun K64 hK64 => c_reg <| s_move H rfl rfl (lt_ rfl) fun a H => s_fld H rfl rfl fld_92_2 (lt_ rfl) fun a H => s_fld H rfl rfl fld_90_1 (lt_ rfl) fun a H => ?_
  obtain ⟨l65, hc66, h⟩ := h
  refine s_load (v := (.bool l65)) H rfl rfl one_4 hc66 (lt_ rfl) fun a H => s_call H rfl body_113 (H.args (vs := [(.pointer N14), (.bool l65)]) rfl) (lt_ rfl) h ?_ (fun c w' h H => e_panic (P := PP) (fn := Tryz.f71) H h)
  clear H h a
  rintro _ w67 a ⟨rfl, h⟩ H
  refine c_nil <| hK64 _ _ <| c_seq fun K68 hK68 => c_reg <| s_move H rfl rfl (lt_ rfl) fun a H => s_fld H rfl rfl fld_92_2 (lt_ rfl) fun a H => s_fld H rfl rfl fld_90_2 (lt_ rfl) fun a H => ?_
  obtain ⟨l69, hc70, h⟩ := h
  refine s_load (v := (.bool l69)) H rfl rfl one_4 hc70 (lt_ rfl) fun a H => s_call H rfl body_113 (H.args (vs := [(.pointer N14), (.bool l69)]) rfl) (lt_ rfl) h ?_ (fun c w' h H => e_panic (P := PP) (fn := Tryz.f71) H h)
  clear H h a
  rintro _ w71 a ⟨rfl, h⟩ H
  refine c_nil <| hK68 _ _ <| c_reg <| s_fld H rfl rfl fld_92_2 (lt_ rfl) fun a H => s_fld H rfl rfl fld_90_2 (lt_ rfl) fun a H => ?_
  obtain ⟨l72, hc73, h⟩ := h
  refine s_load (v := (.bool l72)) H rfl rfl one_4 hc73 (lt_ rfl) fun a H => s_assign H rfl rfl (lt_ rfl) fun a H => c_nil ?_
  exact h59 _ _ _ h (H.weaken ⟨rfl, rfl, rfl, trivial⟩)
 ·replace h := h.2 h63
  refine c_skip ?_
  exact h59 _ _ _ h (H.weaken ⟨rfl, rfl, rfl, trivial⟩)

theorem sim_pack_Writer_Data (w1 : Option Addr) (w : World) (Q : Ending → World → Prop) (h : vc_pack_Writer_Data w1 w Q) : Calls PP F_pack_Writer_Data #[(.pointer w1)] w Q := by
 unfold vc_pack_Writer_Data at h
 refine enter (n := 18) Tryz.func72 rfl rfl (Nat.le_of_ble_eq_true rfl) fun a H => c_seq fun K2 hK2 => c_reg <| s_assign H rfl rfl (lt_ rfl) fun a H => c_nil <| hK2 _ _ <| c_seq fun K3 hK3 => c_seq fun K4 hK4 => c_reg <| s_move H rfl rfl (lt_ rfl) fun a H => s_bin H rfl rfl rfl (r_eqP0 ptr_132) (lt_ rfl) fun a H => s_move H rfl rfl (lt_ rfl) fun a H => ?_
 obtain ⟨x11, h12, h13, h⟩ := h
 refine g_join (n := 18) [(12, (.bool x11)), (0, (.pointer w1))] (.succ (.succ (.succ (.succ (.succ (.succ (.succ (.zero _)))))))) ?_ ?_
 ·intro h6
  try clear h
  rcases Bool.eq_false_or_eq_true w1.isNone with h5 | h5
  ·replace H := H.ch (t := 5) (b := true) rfl h5
   iterate 6 refine s_skip H (wantN H rfl rfl rfl) rfl (lt_ rfl) fun a H => ?_
   refine s_pickT H rfl rfl rfl (lt_ rfl) fun a H => ?_
   replace h := h13 h5
   subst h
   exact h6 _ (H.weaken ⟨rfl, rfl, trivial⟩)
  ·replace H := H.ch (t := 5) (b := false) rfl h5
   replace h := h12 h5
   refine s_move H (wantG H rfl rfl) rfl (lt_ rfl) fun a H => ?_
   obtain ⟨a7, h10, h⟩ := h
   revert H
   subst h10
   intro H
   refine s_nil H (wantG H rfl rfl) rfl (lt_ rfl) fun a H => s_fld H (wantG H rfl rfl) rfl fld_180_0 (lt_ rfl) fun a H => s_fld H (wantG H rfl rfl) rfl fld_178_0 (lt_ rfl) fun a H => ?_
   obtain ⟨l8, hc9, h⟩ := h
   refine s_load (v := (.i l8)) H (wantG H rfl rfl) rfl one_40 hc9 (lt_ rfl) fun a H => s_bin H (wantG H rfl rfl) rfl rfl r_neq (lt_ rfl) fun a H => s_pickF H rfl rfl rfl (lt_ rfl) fun a H => ?_
   subst h
   exact h6 _ (H.weaken ⟨rfl, rfl, trivial⟩)
 ·clear H a
  clear h12 h13
  intro a H
  refine c_nil <| hK4 _ _ <| c_cond H rfl (fun h14 => ?_) (fun h14 => ?_)
  ·replace h := h.1 h14
   refine c_seq fun K15 hK15 => c_reg <| s_assign H rfl rfl (lt_ rfl) fun a H => c_nil <| hK15 _ _ <| c_ret ?_
   exact e_ret1 H rfl rfl h
  ·replace h := h.2 h14
   refine c_skip <| hK3 _ _ <| c_seq fun K16 hK16 => c_reg <| s_move H rfl rfl (lt_ rfl) fun a H => ?_
   obtain ⟨a17, h26, h⟩ := h
   revert H
   subst h26
   intro H
   refine s_nil H rfl rfl (lt_ rfl) fun a H => s_fld H rfl rfl fld_180_1 (lt_ rfl) fun a H => ?_
   obtain ⟨l18, hc19, h⟩ := h
   refine s_load (v := l18.v) H rfl rfl one_51 hc19 (lt_ rfl) fun a H => s_call H rfl body_47 (H.args (vs := [l18.v]) rfl) (lt_ rfl) h ?_ (fun c w' h H => e_panic (P := PP) (fn := Tryz.f72) H h)
   clear H h a
   rintro _ w20 a ⟨C21, rfl, h⟩ H
   refine s_assign H rfl rfl (lt_ rfl) fun a H => c_nil <| hK16 _ _ <| c_ret ?_
   exact e_ret1 H rfl rfl h

theorem sim_record_four (n1 : Int) (w : World) (Q : Ending → World → Prop) (h : vc_record_four n1 w Q) : Calls PP F_record_four #[(.int .u32 n1)] w Q := by
 unfold vc_record_four at h
 refine enter (n := 15) Tryz.func73 rfl rfl (Nat.le_of_ble_eq_true rfl) fun a H => c_seq fun K2 hK2 => c_reg <| s_assign H rfl rfl (lt_ rfl) fun a H => c_nil <| hK2 _ _ <| c_seq fun K3 hK3 => c_reg <| s_move H rfl rfl (lt_ rfl) fun a H => s_cv H rfl rfl (r_cvI some_139 int_5) (lt_ rfl) fun a H => s_move H rfl rfl (lt_ rfl) fun a H => s_bin H rfl rfl rfl (r_shr (by decide)) (lt_ rfl) fun a H => s_cv H rfl rfl (r_cvI some_139 int_5) (lt_ rfl) fun a H => ?_
 refine s_move H rfl rfl (lt_ rfl) fun a H => s_bin H rfl rfl rfl (r_shr (by decide)) (lt_ rfl) fun a H => s_cv H rfl rfl (r_cvI some_139 int_5) (lt_ rfl) fun a H => s_move H rfl rfl (lt_ rfl) fun a H => s_bin H rfl rfl rfl (r_shr (by decide)) (lt_ rfl) fun a H => s_cv H rfl rfl (r_cvI some_139 int_5) (lt_ rfl) fun a H => ?_
 replace h := h.get
 obtain ⟨b4, w5, n6, h⟩ := h
 refine s_bslc H rfl (by rw [H.parts (vs := [(0, (.int .u8 (wr .u8 n1))), (1, (.int .u8 (wr .u8 (shrI .u32 n1 8)))), (2, (.int .u8 (wr .u8 (shrI .u32 n1 16)))), (3, (.int .u8 (wr .u8 (shrI .u32 n1 24))))]) rfl]; exact bs_51_4_iu80_iu81_iu82_iu83 w (wr .u8 n1) (wr .u8 (shrI .u32 n1 8)) (wr .u8 (shrI .u32 n1 16)) (wr .u8 (shrI .u32 n1 24))) (lt_ rfl) ?_
 rw [← n6.at_]
 clear H a
 intro a H
 refine n6.go <| s_assign H rfl rfl (lt_ rfl) fun a H => c_nil <| hK3 _ _ <| c_ret ?_
 exact e_ret1 H rfl rfl h

theorem sim_sum_Of (p1 : Slc) (w : World) (Q : Ending → World → Prop) (h : vc_sum_Of p1 w Q) : Calls PP F_sum_Of #[p1.v] w Q := by
 unfold vc_sum_Of at h
 refine enter (n := 27) Tryz.func74 rfl rfl (Nat.le_of_ble_eq_true rfl) fun a H => c_seq fun K2 hK2 => c_reg <| s_assign H rfl rfl (lt_ rfl) fun a H => c_nil <| hK2 _ _ <| c_seq fun K3 hK3 => c_reg <| s_assign H rfl rfl (lt_ rfl) fun a H => c_nil <| hK3 _ _ <| c_seq fun K4 hK4 => c_seq fun K5 hK5 => c_reg <| s_move H rfl rfl (lt_ rfl) fun a H => s_blt H rfl (H.args (vs := [p1.v]) rfl) (lt_ rfl) (fun cs => b_lenS (z := p1) sl_154) fun a H => s_move H rfl rfl (lt_ rfl) fun a H => c_nil ?_
 refine hK5 _ _ <| c_block ?_
 obtain ⟨I9, m10, h53, h54⟩ := h
 refine c_loop (σ := Int × Int) (fun z w => I9 z.1 z.2 w) (fun z w => m10 z.1 z.2 w) (fun z => [(3, (.int .u32 z.1)), (8, p1.v), (9, (.i (p1.l : Int))), (10, (.i z.2))]) (4294967295, 0) h53 (H.weaken ⟨rfl, rfl, rfl, rfl, trivial⟩) ?_
 clear H h53
 rintro ⟨x6, s7⟩ a w8 h H
 replace h := h54 x6 s7 w8 h
 clear h54
 replace H : Has 27 [] a [(3, (.int .u32 x6)), (8, p1.v), (9, (.i (p1.l : Int))), (10, (.i s7))] := H
 refine c_seq fun K11 hK11 => c_reg <| s_bin H rfl rfl rfl r_lss (lt_ rfl) fun a H => c_nil <| hK11 _ _ <| c_seq fun K12 hK12 => c_cond H rfl (fun h13 => ?_) (fun h13 => ?_)
 ·replace h := h.1 h13
  refine c_skip <| hK12 _ _ <| c_seq fun K14 hK14 => ?_
  obtain ⟨R16, h, h51⟩ := h
  have h18 : ∀ (a : Act) (x15 : Int) (w17 : World), R16 x15 w17 → Has 27 [] a [(3, (.int .u32 x15)), (8, p1.v), (9, (.i (p1.l : Int))), (10, (.i s7))] → K14 a w17 := by
   clear h
   intro a x15 w17 h H
   replace h := h51 x15 w17 h
   refine hK14 _ _ <| c_reg <| s_bin H rfl rfl rfl r_add (lt_ rfl) fun a H => s_move H rfl rfl (lt_ rfl) fun a H => c_nil <| Exists.intro (x15, wr .i64 (s7 + 1)) ⟨h.1, h.2, H.weaken ⟨rfl, rfl, rfl, rfl, trivial⟩⟩
  clear h51
  refine c_block <| c_seq fun K19 hK19 => c_reg ?_
  obtain ⟨a20, h21, h22, h23, h⟩ := h
  refine s_idxS (s := p1) H rfl rfl rfl slc_154 h21 h22 h23 (lt_ rfl) fun a H => ?_
  obtain ⟨l24, hc25, h⟩ := h
  refine s_load (v := l24.v) H rfl rfl one_51 hc25 (lt_ rfl) fun a H => s_assign H rfl rfl (lt_ rfl) fun a H => c_nil <| hK19 _ _ <| c_seq fun K26 hK26 => c_reg <| s_move H rfl rfl (lt_ rfl) fun a H => s_blt H rfl (H.args (vs := [l24.v]) rfl) (lt_ rfl) (fun cs => b_lenS (z := l24) sl_51) fun a H => s_move H rfl rfl (lt_ rfl) fun a H => c_nil <| hK26 _ _ <| c_block ?_
  obtain ⟨I30, m31, h49, h50⟩ := h
  refine c_loop (σ := Int × Int) (fun z w => I30 z.1 z.2 w) (fun z w => m31 z.1 z.2 w) (fun z => [(3, (.int .u32 z.1)), (8, p1.v), (9, (.i (p1.l : Int))), (10, (.i s7)), (14, l24.v), (15, (.i (l24.l : Int))), (16, (.i z.2))]) (x6, 0) h49 (H.weaken ⟨rfl, rfl, rfl, rfl, rfl, rfl, rfl, trivial⟩) ?_
  clear H h49
  rintro ⟨x27, s28⟩ a w29 h H
  replace h := h50 x27 s28 w29 h
  clear h50
  replace H : Has 27 [] a [(3, (.int .u32 x27)), (8, p1.v), (9, (.i (p1.l : Int))), (10, (.i s7)), (14, l24.v), (15, (.i (l24.l : Int))), (16, (.i s28))] := H
  refine c_seq fun K32 hK32 => c_reg <| s_bin H rfl rfl rfl r_lss (lt_ rfl) fun a H => c_nil <| hK32 _ _ <| c_seq fun K33 hK33 => c_cond H rfl (fun h34 => ?_) (fun h34 => ?_)
  ·replace h := h.1 h34
   refine c_skip <| hK33 _ _ <| c_seq fun K35 hK35 => c_block <| c_seq fun K36 hK36 => c_reg ?_
   obtain ⟨a37, h38, h39, h40, h⟩ := h
   refine s_idxS (s := l24) H rfl rfl rfl slc_51 h38 h39 h40 (lt_ rfl) fun a H => ?_
   obtain ⟨l41, hc42, h⟩ := h
   refine s_load (v := (.int .u8 l41)) H rfl rfl one_5 hc42 (lt_ rfl) fun a H => s_assign H rfl rfl (lt_ rfl) fun a H => c_nil <| hK36 _ _ <| c_reg <| s_move H rfl rfl (lt_ rfl) fun a H => s_move H rfl rfl (lt_ rfl) fun a H => s_call H rfl body_114 (H.args (vs := [(.int .u32 x27), (.int .u8 l41)]) rfl) (lt_ rfl) h ?_ (fun c w' h H => e_panic (P := PP) (fn := Tryz.f74) H h)
   clear H h a
   rintro _ w43 a ⟨s44, rfl, h⟩ H
   refine s_assign H rfl rfl (lt_ rfl) fun a H => c_nil <| hK35 _ _ <| c_reg <| s_bin H rfl rfl rfl r_add (lt_ rfl) fun a H => s_move H rfl rfl (lt_ rfl) fun a H => c_nil <| Exists.intro (s44, wr .i64 (s28 + 1)) ⟨h.1, h.2, H.weaken ⟨rfl, rfl, rfl, rfl, rfl, rfl, rfl, trivial⟩⟩
  ·replace h := h.2 h34
   refine c_exit ?_
   first | (simp only [Exit.then, Exit.inBlock, ↓reduceIte]; fail_if_success simp only [Nat.reduceEqDiff]) | simp only [Exit.then, Exit.inBlock, ↓reduceIte, Nat.reduceEqDiff]
   exact h18 _ _ _ h (H.weaken ⟨rfl, rfl, rfl, rfl, trivial⟩)
 ·replace h := h.2 h13
  refine c_exit ?_
  first | (simp only [Exit.then, Exit.inBlock, ↓reduceIte]; fail_if_success simp only [Nat.reduceEqDiff]) | simp only [Exit.then, Exit.inBlock, ↓reduceIte, Nat.reduceEqDiff]
  refine hK4 _ _ <| c_seq fun K52 hK52 => c_reg <| s_move H rfl rfl (lt_ rfl) fun a H => s_un H rfl rfl r_com (lt_ rfl) fun a H => s_assign H rfl rfl (lt_ rfl) fun a H => c_nil <| hK52 _ _ <| c_ret ?_
  exact e_ret1 H rfl rfl h

theorem sim_slices_Concat (s1 : Slc) (w : World) (Q : Ending → World → Prop) (h : vc_slices_Concat s1 w Q) : Calls PP F_slices_Concat #[s1.v] w Q := by
 unfold vc_slices_Concat at h
 refine enter (n := 36) Tryz.func75 rfl rfl (Nat.le_of_ble_eq_true rfl) fun a H => c_seq fun K2 hK2 => c_reg <| s_assign H rfl rfl (lt_ rfl) fun a H => c_nil <| hK2 _ _ <| c_seq fun K3 hK3 => c_reg <| s_assign H rfl rfl (lt_ rfl) fun a H => c_nil <| hK3 _ _ <| c_seq fun K4 hK4 => c_seq fun K5 hK5 => c_reg <| s_move H rfl rfl (lt_ rfl) fun a H => s_blt H rfl (H.args (vs := [s1.v]) rfl) (lt_ rfl) (fun cs => b_lenS (z := s1) sl_154) fun a H => s_move H rfl rfl (lt_ rfl) fun a H => c_nil ?_
 refine hK5 _ _ <| c_block ?_
 obtain ⟨I9, m10, h61, h62⟩ := h
 refine c_loop (σ := Int × Int) (fun z w => I9 z.1 z.2 w) (fun z w => m10 z.1 z.2 w) (fun z => [(0, s1.v), (3, (.i z.1)), (9, s1.v), (10, (.i (s1.l : Int))), (11, (.i z.2))]) (0, 0) h61 (H.weaken ⟨rfl, rfl, rfl, rfl, rfl, trivial⟩) ?_
 clear H h61
 rintro ⟨s6, s7⟩ a w8 h H
 replace h := h62 s6 s7 w8 h
 clear h62
 replace H : Has 36 [] a [(0, s1.v), (3, (.i s6)), (9, s1.v), (10, (.i (s1.l : Int))), (11, (.i s7))] := H
 refine c_seq fun K11 hK11 => c_reg <| s_bin H rfl rfl rfl r_lss (lt_ rfl) fun a H => c_nil <| hK11 _ _ <| c_seq fun K12 hK12 => c_cond H rfl (fun h13 => ?_) (fun h13 => ?_)
 ·replace h := h.1 h13
  refine c_skip <| hK12 _ _ <| c_seq fun K14 hK14 => ?_
  obtain ⟨R16, h, h29⟩ := h
  have h18 : ∀ (a : Act) (s15 : Int) (w17 : World), R16 s15 w17 → Has 36 [] a [(0, s1.v), (3, (.i s15)), (9, s1.v), (10, (.i (s1.l : Int))), (11, (.i s7))] → K14 a w17 := by
   clear h
   intro a s15 w17 h H
   replace h := h29 s15 w17 h
   refine hK14 _ _ <| c_reg <| s_bin H rfl rfl rfl r_add (lt_ rfl) fun a H => s_move H rfl rfl (lt_ rfl) fun a H => c_nil <| Exists.intro (s15, wr .i64 (s7 + 1)) ⟨h.1, h.2, H.weaken ⟨rfl, rfl, rfl, rfl, rfl, trivial⟩⟩
  clear h29
  refine c_block <| c_seq fun K19 hK19 => c_reg ?_
  obtain ⟨a20, h21, h22, h23, h⟩ := h
  refine s_idxS (s := s1) H rfl rfl rfl slc_154 h21 h22 h23 (lt_ rfl) fun a H => ?_
  obtain ⟨l24, hc25, h⟩ := h
  refine s_load (v := l24.v) H rfl rfl one_51 hc25 (lt_ rfl) fun a H => s_assign H rfl rfl (lt_ rfl) fun a H => c_nil <| hK19 _ _ <| c_seq fun K26 hK26 => c_reg <| s_move H rfl rfl (lt_ rfl) fun a H => s_move H rfl rfl (lt_ rfl) fun a H => s_blt H rfl (H.args (vs := [l24.v]) rfl) (lt_ rfl) (fun cs => b_lenS (z := l24) sl_51) fun a H => s_bin H rfl rfl rfl r_add (lt_ rfl) fun a H => s_assign H rfl rfl (lt_ rfl) fun a H => c_nil <| hK26 _ _ <| c_seq fun K27 hK27 => c_reg ?_
  refine s_move H rfl rfl (lt_ rfl) fun a H => s_bin H rfl rfl rfl r_lss (lt_ rfl) fun a H => c_nil <| hK27 _ _ <| c_cond H rfl (fun h28 => ?_) (fun h28 => ?_)
  ·replace h := h.1 h28
   refine c_reg <| s_iface H rfl rfl ni_9 (lt_ rfl) fun a H => ?_
   exact s_panic H rfl rfl (fun H => e_panic (P := PP) (fn := Tryz.f75) H h)
  ·replace h := h.2 h28
   refine c_skip ?_
   exact h18 _ _ _ h (H.weaken ⟨rfl, rfl, rfl, rfl, rfl, trivial⟩)
 ·replace h := h.2 h13
  refine c_exit ?_
  first | (simp only [Exit.then, Exit.inBlock, ↓reduceIte]; fail_if_success simp only [Nat.reduceEqDiff]) | simp only [Exit.then, Exit.inBlock, ↓reduceIte, Nat.reduceEqDiff]
  refine hK4 _ _ <| c_seq fun K30 hK30 => c_reg <| s_move H rfl rfl (lt_ rfl) fun a H => s_call H rfl body_115 (H.args (vs := [Slc.nil.v, (.i s6)]) rfl) (lt_ rfl) h ?_ (fun c w' h H => e_panic (P := PP) (fn := Tryz.f75) H h)
  clear H h a
  rintro _ w31 a ⟨G32, rfl, h⟩ H
  refine s_assign H rfl rfl (lt_ rfl) fun a H => c_nil <| hK30 _ _ <| c_seq fun K33 hK33 => c_seq fun K34 hK34 => c_reg <| s_move H rfl rfl (lt_ rfl) fun a H => s_blt H rfl (H.args (vs := [s1.v]) rfl) (lt_ rfl) (fun cs => b_lenS (z := s1) sl_154) fun a H => s_move H rfl rfl (lt_ rfl) fun a H => c_nil <| hK34 _ _ <| c_block ?_
  obtain ⟨I38, m39, h55, h56⟩ := h
  refine c_loop (σ := Slc × Int) (fun z w => I38 z.1 z.2 w) (fun z w => m39 z.1 z.2 w) (fun z => [(6, z.1.v), (25, s1.v), (26, (.i (s1.l : Int))), (27, (.i z.2))]) (G32, 0) h55 (H.weaken ⟨rfl, rfl, rfl, rfl, trivial⟩) ?_
  clear H h55
  rintro ⟨n35, s36⟩ a w37 h H
  replace h := h56 n35 s36 w37 h
  clear h56
  replace H : Has 36 [] a [(6, n35.v), (25, s1.v), (26, (.i (s1.l : Int))), (27, (.i s36))] := H
  refine c_seq fun K40 hK40 => c_reg <| s_bin H rfl rfl rfl r_lss (lt_ rfl) fun a H => c_nil <| hK40 _ _ <| c_seq fun K41 hK41 => c_cond H rfl (fun h42 => ?_) (fun h42 => ?_)
  ·replace h := h.1 h42
   refine c_skip <| hK41 _ _ <| c_seq fun K43 hK43 => c_block <| c_seq fun K44 hK44 => c_reg ?_
   obtain ⟨a45, h46, h47, h48, h⟩ := h
   refine s_idxS (s := s1) H rfl rfl rfl slc_154 h46 h47 h48 (lt_ rfl) fun a H => ?_
   obtain ⟨l49, hc50, h⟩ := h
   refine s_load (v := l49.v) H rfl rfl one_51 hc50 (lt_ rfl) fun a H => s_assign H rfl rfl (lt_ rfl) fun a H => c_nil <| hK44 _ _ <| c_reg <| s_move H rfl rfl (lt_ rfl) fun a H => s_move H rfl rfl (lt_ rfl) fun a H => ?_
   obtain ⟨s51, w52, h53, h⟩ := h
   refine s_blt H rfl (H.args (vs := [n35.v, l49.v]) rfl) (lt_ rfl) (fun cs => b_app (z := s51) h53) ?_
   clear H a h53
   intro a H
   refine s_assign H rfl rfl (lt_ rfl) fun a H => c_nil <| hK43 _ _ <| c_reg <| s_bin H rfl rfl rfl r_add (lt_ rfl) fun a H => s_move H rfl rfl (lt_ rfl) fun a H => c_nil <| Exists.intro (s51, wr .i64 (s36 + 1)) ⟨h.1, h.2, H.weaken ⟨rfl, rfl, rfl, rfl, trivial⟩⟩
  ·replace h := h.2 h42
   refine c_exit ?_
   first | (simp only [Exit.then, Exit.inBlock, ↓reduceIte]; fail_if_success simp only [Nat.reduceEqDiff]) | simp only [Exit.then, Exit.inBlock, ↓reduceIte, Nat.reduceEqDiff]
   refine hK33 _ _ <| c_seq fun K54 hK54 => c_reg <| s_move H rfl rfl (lt_ rfl) fun a H => s_assign H rfl rfl (lt_ rfl) fun a H => c_nil <| hK54 _ _ <| c_ret ?_
   exact e_ret1 H rfl rfl h
end Go.Proofs.YtflcdgkckfcofaaGreatDoor
