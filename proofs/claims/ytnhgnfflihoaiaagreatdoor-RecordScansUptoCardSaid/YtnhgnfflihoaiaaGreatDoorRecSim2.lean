/-
  The conditions give the machine's calls; printed by vcgen.py.
-/
import Derived.Test.YtnhgnfflihoaiaaGreatDoorRecVc
namespace Go.Proofs.YtnhgnfflihoaiaaGreatDoor
open Go Go.Vc
set_option maxRecDepth 100000
set_option maxHeartbeats 4000000
theorem sim_record_Scan (d1 : Slc) (w : World) (Q : Ending → World → Prop) (h : vc_record_Scan d1 w Q) : Calls PP F_record_Scan #[d1.v] w Q := by
 unfold vc_record_Scan at h
 refine enter (n := 49) Tryz.func30 rfl rfl (Nat.le_of_ble_eq_true rfl) fun a H => c_seq fun K2 hK2 => c_reg ?_
 replace h := h.get
 obtain ⟨b3, w4, n5, h⟩ := h
 refine s_box H rfl rfl (lt_ rfl) ?_
 rw [← n5.at_]
 clear H a
 intro a H
 refine n5.go ?_
 replace h := h.get
 obtain ⟨b6, w7, n8, h⟩ := h
 refine s_alloc H rfl zero_36 (lt_ rfl) ?_
 rw [← n8.at_]
 clear H a
 intro a H
 refine n8.go ?_
 iterate 5 refine s_assign H rfl rfl (lt_ rfl) fun a H => ?_
 refine c_nil <| hK2 _ _ <| c_seq fun K9 hK9 => c_reg ?_
 replace h := h.get
 obtain ⟨b10, w11, n12, h⟩ := h
 refine s_alloc H rfl zero_36 (lt_ rfl) ?_
 rw [← n12.at_]
 clear H a
 intro a H
 refine n12.go <| c_nil <| hK9 _ _ <| c_seq fun K13 hK13 => c_reg ?_
 replace h := h.get
 obtain ⟨b14, w15, n16, h⟩ := h
 refine s_alloc H rfl zero_3 (lt_ rfl) ?_
 rw [← n16.at_]
 clear H a
 intro a H
 refine n16.go <| c_nil <| hK13 _ _ <| c_seq fun K17 hK17 => c_seq fun K18 hK18 => c_reg <| s_mkf H rfl (H.args (vs := [(.pointer (some (blk b3))), (.pointer (some (blk b10))), (.pointer (some (blk b14)))]) rfl) (lt_ rfl) fun a H => s_call H rfl body_50 (H.args (vs := [(.func (.func F_record_Scan_c1) #[] #[(.pointer (some (blk b3))), (.pointer (some (blk b10))), (.pointer (some (blk b14)))])]) rfl) (lt_ rfl) h ?_ (fun c w' h H => e_panic (P := PP) (fn := Tryz.f30) H h)
 clear H h a
 rintro _ w19 a ⟨c20, rfl, h⟩ H
 refine s_assign H rfl rfl (lt_ rfl) fun a H => c_nil <| hK18 _ _ <| c_seq fun K21 hK21 => c_reg <| s_move H rfl rfl (lt_ rfl) fun a H => s_bin H rfl rfl rfl r_neq (lt_ rfl) fun a H => c_nil <| hK21 _ _ <| c_cond H rfl (fun h22 => ?_) (fun h22 => ?_)
 ·replace h := h.1 h22
  refine c_seq fun K23 hK23 => c_reg <| s_build H rfl (by rw [H.parts (vs := []) rfl]; exact bd_36 w19) (lt_ rfl) fun a H => s_move H rfl rfl (lt_ rfl) fun a H => s_stoN (l := [(.i 0), (.i 0), (.i 0), (.i 0)]) H rfl rfl rfl rfl agg_36 rfl rfl h ?_
  clear h H
  intro w24 h H
  iterate 5 refine s_assign H rfl rfl (lt_ rfl) fun a H => ?_
  refine c_nil <| hK23 _ _ <| c_ret ?_
  obtain ⟨N25, hc26, K27, hc28, D29, hc30, S31, hc32, h⟩ := h
  exact e_ret6 H rfl ⟨_, rfl, run_loadN (l := [(.i N25), (.i K27), (.i D29), (.i S31)]) agg_36 rfl ⟨hc26, hc28, hc30, hc32, trivial⟩⟩ rfl rfl rfl rfl rfl h
 ·replace h := h.2 h22
  refine c_skip <| hK17 _ _ <| c_seq fun K33 hK33 => ?_
  replace H := H.weaken (L' := [(1, (.pointer (some (blk b3)))), (2, (.pointer (some (blk b6)))), (8, (.pointer (some (blk b10)))), (9, (.pointer (some (blk b14))))]) ⟨rfl, rfl, rfl, rfl, trivial⟩
  obtain ⟨l36, l39, l42, l45, l48, h51, h52, h53, l54, h⟩ := h
  obtain ⟨R34, h141, h38, h41, h44, h47, h50, h56, h133, h134, h135, h136, h137, h138, h139⟩ := h
  refine c_anyF (V := [(0, l36.v), (1, (.i l39)), (2, l42.v), (3, (.i l45)), (4, (.i (wr .i64 (l45 - 4)))), (5, (.i l48)), (6, (Slc.v (l42.cut 1 (Int.toNat (wr .i64 (l45 - 4))) (Int.toNat (l48))))), (10, (.i l54))]) 6 (⟨⟨[[], [], [], [], [3], [], [2, 4, 5], [6], [7], [8], [], [10], [0, 1, 9, 11], [12], [], [0, 1, 2, 3, 4, 5, 6, 7, 8, 9, 10, 11, 12, 13, 14]], [some 19, some 20, some 21, some 22, some 23, some 24, some 25, some 26, some 27, some 28, some 29, some 30, some 31, some 32, some 11, none], [7, 9, 11, 13, 14, 15], [], []⟩, [[], [], [], [], [], [], [], [], [7], [7], [], [], [7, 9, 11], [7, 9, 11], [], [7, 9, 11, 13, 14]], [[13, 15], [13, 15], [7, 9, 13, 15], [7, 9, 13, 15], [7, 9, 13, 15], [7, 9, 13, 15], [7, 9, 13, 15], [9, 13, 15], [9, 13, 15], [13, 15], [11, 13, 15], [13, 15], [13, 15], [15], [15], []]⟩ : Rh) [(1, (.pointer (some (blk b3)))), (2, (.pointer (some (blk b6)))), (8, (.pointer (some (blk b10)))), (9, (.pointer (some (blk b14))))] mixed (by kernel_rfl) H fun F142 h140 => ?_
  clear H a
  have st_7_9_11_13_14_15 : ∀ (C58 : Slc) (b63 : Nat) (b66 : Nat) (b69 : Nat) (b72 : Nat) (w35 : World), R34 (some C58) (some b63) (some b66) (some b69) (some b72) (some ()) w35 → F142 0 [7, 9, 11, 13, 14, 15] [(0, l36.v), (1, (.i l39)), (2, l42.v), (3, (.i l45)), (4, (.i (wr .i64 (l45 - 4)))), (5, (.i l48)), (6, (Slc.v (l42.cut 1 (Int.toNat (wr .i64 (l45 - 4))) (Int.toNat (l48))))), (7, C58.v), (8, (.agg #[C58.v, (.i 0)])), (9, (.pointer (some (blk b63)))), (10, (.i l54)), (11, (Slc.v (Slc.mk (some (blk b66)) 1 1))), (12, (.agg #[l36.v, (.i l39), (.pointer (some (blk b63))), Slc.nil.v, (Slc.v (Slc.mk (some (blk b66)) 1 1))])), (13, (.pointer (some (blk b69)))), (14, (.pointer (some (blk b72)))), (15, undef)] w35 := by
   intro C58 b63 b66 b69 b72 w35 hr
   rw [h140]
   refine StT.last [] (by kernel_rfl) (by kernel_rfl) .nil ?_
   ·intro a H
    have h := h139 C58 b63 b66 b69 b72 w35 hr
    replace H := H.weaken (L' := [(1, (.pointer (some (blk b3)))), (2, (.pointer (some (blk b6)))), (8, (.pointer (some (blk b10)))), (11, (.pointer (some (blk b72))))]) ⟨rfl, rfl, rfl, rfl, trivial⟩
    refine hK33 _ _ <| c_seq fun K84 hK84 => c_reg <| s_mkf H rfl (H.args (vs := [(.pointer (some (blk b72))), (.pointer (some (blk b3)))]) rfl) (lt_ rfl) fun a H => s_call H rfl body_50 (H.args (vs := [(.func (.func F_record_Scan_c2) #[] #[(.pointer (some (blk b72))), (.pointer (some (blk b3)))])]) rfl) (lt_ rfl) h ?_ (fun c w' h H => e_panic (P := PP) (fn := Tryz.f30) H h)
    clear H h a
    rintro _ w85 a ⟨c86, rfl, h⟩ H
    refine s_assign H rfl rfl (lt_ rfl) fun a H => c_nil <| hK84 _ _ <| c_seq fun K87 hK87 => ?_
    replace H := H.weaken (L' := [(2, (.pointer (some (blk b6)))), (8, (.pointer (some (blk b10)))), (11, (.pointer (some (blk b72)))), (12, (.i c86))]) ⟨rfl, rfl, rfl, rfl, trivial⟩
    obtain ⟨N88, hc89, K90, hc91, D92, hc93, S94, hc95, l96, hc97, a98, h99, h⟩ := h
    subst h99
    obtain ⟨l100, hc101, l102, hc103, a104, h105, h⟩ := h
    subst h105
    obtain ⟨l106, hc107, l108, hc109, a110, h111, h⟩ := h
    subst h111
    obtain ⟨l112, hc113, h⟩ := h
    refine c_any (V := [(0, (.agg #[(.i N88), (.i K90), (.i D92), (.i S94)])), (1, (.pointer (some a98))), (2, (.pointer (some a98))), (3, (.pointer (some (a98.add 3)))), (4, l100.v), (5, (.pointer (some a104))), (6, (.pointer (some a104))), (7, (.pointer (some (a104.add 4)))), (8, l106.v), (9, (.i c86)), (10, (.pointer (some a110))), (11, (.pointer (some a110))), (12, (.pointer (some (a110.add 2)))), (13, (.pointer l112))]) (⟨[[], [], [1], [2], [3], [], [5], [6], [7], [], [], [10], [11], [12], [0], [0, 1, 2, 3, 4, 14], [0, 1, 2, 3, 4, 5, 6, 7, 8, 14, 15], [0, 1, 2, 3, 4, 5, 6, 7, 8, 9, 14, 15, 16], [0, 1, 2, 3, 4, 5, 6, 7, 8, 9, 10, 11, 12, 13, 14, 15, 16, 17], [0, 1, 2, 3, 4, 5, 6, 7, 8, 9, 10, 11, 12, 13, 14, 15, 16, 17, 18]], [some 35, some 36, some 37, some 38, some 39, some 40, some 41, some 42, some 43, some 44, some 45, some 46, some 47, some 48, none, some 3, some 4, some 5, some 6, some 7], [14], [0, 0, 0, 0, 0, 0, 0, 0, 0, 0, 0, 0, 0, 0, 0, 1, 1, 1, 1, 1], [0, 1, 1, 1, 1, 1, 1, 1, 1, 1, 1, 1, 1, 1, 1, 1, 1, 1, 1, 1]⟩ : Rg) [(2, (.pointer (some (blk b6)))), (8, (.pointer (some (blk b10)))), (11, (.pointer (some (blk b72)))), (12, (.i c86))] mixed (by kernel_rfl) H ?_
    refine Stg.eff [0, 1, 2, 3, 4, 5, 6, 7, 8, 9, 10, 11, 12, 13] (by kernel_rfl) rfl (.cons ?_ (.cons ?_ (.cons ?_ (.cons ?_ (.cons ?_ (.cons ?_ (.cons ?_ (.cons ?_ (.cons ?_ (.cons ?_ (.cons ?_ (.cons ?_ (.cons ?_ (.cons ?_ .nil)))))))))))))) ?_
    ·refine Ans.mk rfl rfl fun a H => ?_
     replace H := H.weaken (L' := [(8, (.pointer (some (blk b10))))]) ⟨rfl, trivial⟩
     refine s_loadN (l := [(.i N88), (.i K90), (.i D92), (.i S94)]) H rfl rfl agg_36 rfl ⟨hc89, hc91, hc93, hc95, trivial⟩ (lt_ rfl) fun a H => c_nil ⟨rfl, rfl, H.weaken (L' := [(35, (.agg #[(.i N88), (.i K90), (.i D92), (.i S94)]))]) ⟨rfl, trivial⟩⟩
    ·refine Ans.mk rfl rfl fun a H => ?_
     replace H := H.weaken (L' := [(11, (.pointer (some (blk b72))))]) ⟨rfl, trivial⟩
     refine s_load (v := (.pointer (some a98))) H rfl rfl one_104 hc97 (lt_ rfl) fun a H => c_nil ⟨rfl, rfl, H.weaken (L' := [(36, (.pointer (some a98)))]) ⟨rfl, trivial⟩⟩
    ·refine Ans.mk rfl rfl fun a H => ?_
     replace H := H.weaken (L' := [(36, (.pointer (some a98)))]) ⟨rfl, trivial⟩
     refine s_nil H rfl rfl (lt_ rfl) fun a H => c_nil ⟨rfl, rfl, H.weaken (L' := [(37, (.pointer (some a98)))]) ⟨rfl, trivial⟩⟩
    ·refine Ans.mk rfl rfl fun a H => ?_
     replace H := H.weaken (L' := [(37, (.pointer (some a98)))]) ⟨rfl, trivial⟩
     refine s_fld H rfl rfl fld_106_3 (lt_ rfl) fun a H => c_nil ⟨rfl, rfl, H.weaken (L' := [(38, (.pointer (some (a98.add 3))))]) ⟨rfl, trivial⟩⟩
    ·refine Ans.mk rfl rfl fun a H => ?_
     replace H := H.weaken (L' := [(38, (.pointer (some (a98.add 3))))]) ⟨rfl, trivial⟩
     refine s_load (v := l100.v) H rfl rfl one_43 hc101 (lt_ rfl) fun a H => c_nil ⟨rfl, rfl, H.weaken (L' := [(39, l100.v)]) ⟨rfl, trivial⟩⟩
    ·refine Ans.mk rfl rfl fun a H => ?_
     replace H := H.weaken (L' := [(11, (.pointer (some (blk b72))))]) ⟨rfl, trivial⟩
     refine s_load (v := (.pointer (some a104))) H rfl rfl one_104 hc103 (lt_ rfl) fun a H => c_nil ⟨rfl, rfl, H.weaken (L' := [(40, (.pointer (some a104)))]) ⟨rfl, trivial⟩⟩
    ·refine Ans.mk rfl rfl fun a H => ?_
     replace H := H.weaken (L' := [(40, (.pointer (some a104)))]) ⟨rfl, trivial⟩
     refine s_nil H rfl rfl (lt_ rfl) fun a H => c_nil ⟨rfl, rfl, H.weaken (L' := [(41, (.pointer (some a104)))]) ⟨rfl, trivial⟩⟩
    ·refine Ans.mk rfl rfl fun a H => ?_
     replace H := H.weaken (L' := [(41, (.pointer (some a104)))]) ⟨rfl, trivial⟩
     refine s_fld H rfl rfl fld_106_4 (lt_ rfl) fun a H => c_nil ⟨rfl, rfl, H.weaken (L' := [(42, (.pointer (some (a104.add 4))))]) ⟨rfl, trivial⟩⟩
    ·refine Ans.mk rfl rfl fun a H => ?_
     replace H := H.weaken (L' := [(42, (.pointer (some (a104.add 4))))]) ⟨rfl, trivial⟩
     refine s_load (v := l106.v) H rfl rfl one_44 hc107 (lt_ rfl) fun a H => c_nil ⟨rfl, rfl, H.weaken (L' := [(43, l106.v)]) ⟨rfl, trivial⟩⟩
    ·refine Ans.mk rfl rfl fun a H => ?_
     replace H := H.weaken (L' := [(12, (.i c86))]) ⟨rfl, trivial⟩
     refine s_move H rfl rfl (lt_ rfl) fun a H => c_nil ⟨rfl, rfl, H.weaken (L' := [(44, (.i c86))]) ⟨rfl, trivial⟩⟩
    ·refine Ans.mk rfl rfl fun a H => ?_
     replace H := H.weaken (L' := [(11, (.pointer (some (blk b72))))]) ⟨rfl, trivial⟩
     refine s_load (v := (.pointer (some a110))) H rfl rfl one_104 hc109 (lt_ rfl) fun a H => c_nil ⟨rfl, rfl, H.weaken (L' := [(45, (.pointer (some a110)))]) ⟨rfl, trivial⟩⟩
    ·refine Ans.mk rfl rfl fun a H => ?_
     replace H := H.weaken (L' := [(45, (.pointer (some a110)))]) ⟨rfl, trivial⟩
     refine s_nil H rfl rfl (lt_ rfl) fun a H => c_nil ⟨rfl, rfl, H.weaken (L' := [(46, (.pointer (some a110)))]) ⟨rfl, trivial⟩⟩
    ·refine Ans.mk rfl rfl fun a H => ?_
     replace H := H.weaken (L' := [(46, (.pointer (some a110)))]) ⟨rfl, trivial⟩
     refine s_fld H rfl rfl fld_106_2 (lt_ rfl) fun a H => c_nil ⟨rfl, rfl, H.weaken (L' := [(47, (.pointer (some (a110.add 2))))]) ⟨rfl, trivial⟩⟩
    ·refine Ans.mk rfl rfl fun a H => ?_
     replace H := H.weaken (L' := [(47, (.pointer (some (a110.add 2))))]) ⟨rfl, trivial⟩
     refine s_load (v := (.pointer l112)) H rfl rfl one_29 hc113 (lt_ rfl) fun a H => c_nil ⟨rfl, rfl, H.weaken (L' := [(48, (.pointer l112))]) ⟨rfl, trivial⟩⟩
    ·intro a H
     replace H := H.weaken (L' := [(2, (.pointer (some (blk b6)))), (35, (.agg #[(.i N88), (.i K90), (.i D92), (.i S94)]))]) ⟨rfl, rfl, trivial⟩
     refine s_stoN (l := [(.i N88), (.i K90), (.i D92), (.i S94)]) H rfl rfl rfl rfl agg_36 rfl rfl h ?_
     clear h H
     intro w114 h H
     refine c_nil ?_
     obtain ⟨hc115, hc116, hc117, hc118, hc119, hc120, h⟩ := h
     refine effQ.ok (v := undef) (H.weaken (L' := []) trivial) ⟨[(0, (.agg #[(.i N88), (.i K90), (.i D92), (.i S94)])), (1, (.pointer (some a98))), (2, (.pointer (some a98))), (3, (.pointer (some (a98.add 3)))), (4, l100.v), (5, (.pointer (some a104))), (6, (.pointer (some a104))), (7, (.pointer (some (a104.add 4)))), (8, l106.v), (9, (.i c86)), (10, (.pointer (some a110))), (11, (.pointer (some a110))), (12, (.pointer (some (a110.add 2)))), (13, (.pointer l112)), (14, undef), (15, l100.v), (16, l106.v), (17, (.i c86)), (18, (.pointer l112)), (19, (.i 0))], ⟨rfl, rfl, rfl, rfl, rfl, rfl, rfl, rfl, rfl, rfl, rfl, rfl, rfl, rfl, rfl, trivial⟩, ?_⟩
     refine Stg.fin [1, 2, 3, 4, 5, 6, 7, 8, 9, 10, 11, 12, 13, 15, 16, 17, 18, 19] (by kernel_rfl) (.cons ?_ (.cons ?_ (.cons ?_ (.cons ?_ (.cons ?_ (.cons ?_ (.cons ?_ (.cons ?_ (.cons ?_ (.cons ?_ (.cons ?_ (.cons ?_ (.cons ?_ (.cons ?_ (.cons ?_ (.cons ?_ (.cons ?_ (.cons ?_ .nil)))))))))))))))))) ?_
     ·refine Ans.mk rfl rfl fun a H => ?_
      replace H := H.weaken (L' := [(11, (.pointer (some (blk b72))))]) ⟨rfl, trivial⟩
      refine s_load (v := (.pointer (some a98))) H rfl rfl one_104 hc115 (lt_ rfl) fun a H => c_nil ⟨rfl, rfl, H.weaken (L' := [(36, (.pointer (some a98)))]) ⟨rfl, trivial⟩⟩
     ·refine Ans.mk rfl rfl fun a H => ?_
      replace H := H.weaken (L' := [(36, (.pointer (some a98)))]) ⟨rfl, trivial⟩
      refine s_nil H rfl rfl (lt_ rfl) fun a H => c_nil ⟨rfl, rfl, H.weaken (L' := [(37, (.pointer (some a98)))]) ⟨rfl, trivial⟩⟩
     ·refine Ans.mk rfl rfl fun a H => ?_
      replace H := H.weaken (L' := [(37, (.pointer (some a98)))]) ⟨rfl, trivial⟩
      refine s_fld H rfl rfl fld_106_3 (lt_ rfl) fun a H => c_nil ⟨rfl, rfl, H.weaken (L' := [(38, (.pointer (some (a98.add 3))))]) ⟨rfl, trivial⟩⟩
     ·refine Ans.mk rfl rfl fun a H => ?_
      replace H := H.weaken (L' := [(38, (.pointer (some (a98.add 3))))]) ⟨rfl, trivial⟩
      refine s_load (v := l100.v) H rfl rfl one_43 hc116 (lt_ rfl) fun a H => c_nil ⟨rfl, rfl, H.weaken (L' := [(39, l100.v)]) ⟨rfl, trivial⟩⟩
     ·refine Ans.mk rfl rfl fun a H => ?_
      replace H := H.weaken (L' := [(11, (.pointer (some (blk b72))))]) ⟨rfl, trivial⟩
      refine s_load (v := (.pointer (some a104))) H rfl rfl one_104 hc117 (lt_ rfl) fun a H => c_nil ⟨rfl, rfl, H.weaken (L' := [(40, (.pointer (some a104)))]) ⟨rfl, trivial⟩⟩
     ·refine Ans.mk rfl rfl fun a H => ?_
      replace H := H.weaken (L' := [(40, (.pointer (some a104)))]) ⟨rfl, trivial⟩
      refine s_nil H rfl rfl (lt_ rfl) fun a H => c_nil ⟨rfl, rfl, H.weaken (L' := [(41, (.pointer (some a104)))]) ⟨rfl, trivial⟩⟩
     ·refine Ans.mk rfl rfl fun a H => ?_
      replace H := H.weaken (L' := [(41, (.pointer (some a104)))]) ⟨rfl, trivial⟩
      refine s_fld H rfl rfl fld_106_4 (lt_ rfl) fun a H => c_nil ⟨rfl, rfl, H.weaken (L' := [(42, (.pointer (some (a104.add 4))))]) ⟨rfl, trivial⟩⟩
     ·refine Ans.mk rfl rfl fun a H => ?_
      replace H := H.weaken (L' := [(42, (.pointer (some (a104.add 4))))]) ⟨rfl, trivial⟩
      refine s_load (v := l106.v) H rfl rfl one_44 hc118 (lt_ rfl) fun a H => c_nil ⟨rfl, rfl, H.weaken (L' := [(43, l106.v)]) ⟨rfl, trivial⟩⟩
     ·refine Ans.mk rfl rfl fun a H => ?_
      replace H := H.weaken (L' := [(12, (.i c86))]) ⟨rfl, trivial⟩
      refine s_move H rfl rfl (lt_ rfl) fun a H => c_nil ⟨rfl, rfl, H.weaken (L' := [(44, (.i c86))]) ⟨rfl, trivial⟩⟩
     ·refine Ans.mk rfl rfl fun a H => ?_
      replace H := H.weaken (L' := [(11, (.pointer (some (blk b72))))]) ⟨rfl, trivial⟩
      refine s_load (v := (.pointer (some a110))) H rfl rfl one_104 hc119 (lt_ rfl) fun a H => c_nil ⟨rfl, rfl, H.weaken (L' := [(45, (.pointer (some a110)))]) ⟨rfl, trivial⟩⟩
     ·refine Ans.mk rfl rfl fun a H => ?_
      replace H := H.weaken (L' := [(45, (.pointer (some a110)))]) ⟨rfl, trivial⟩
      refine s_nil H rfl rfl (lt_ rfl) fun a H => c_nil ⟨rfl, rfl, H.weaken (L' := [(46, (.pointer (some a110)))]) ⟨rfl, trivial⟩⟩
     ·refine Ans.mk rfl rfl fun a H => ?_
      replace H := H.weaken (L' := [(46, (.pointer (some a110)))]) ⟨rfl, trivial⟩
      refine s_fld H rfl rfl fld_106_2 (lt_ rfl) fun a H => c_nil ⟨rfl, rfl, H.weaken (L' := [(47, (.pointer (some (a110.add 2))))]) ⟨rfl, trivial⟩⟩
     ·refine Ans.mk rfl rfl fun a H => ?_
      replace H := H.weaken (L' := [(47, (.pointer (some (a110.add 2))))]) ⟨rfl, trivial⟩
      refine s_load (v := (.pointer l112)) H rfl rfl one_29 hc120 (lt_ rfl) fun a H => c_nil ⟨rfl, rfl, H.weaken (L' := [(48, (.pointer l112))]) ⟨rfl, trivial⟩⟩
     ·refine Ans.mk rfl rfl fun a H => ?_
      replace H := H.weaken (L' := [(39, l100.v)]) ⟨rfl, trivial⟩
      refine s_assign H rfl rfl (lt_ rfl) fun a H => c_nil ⟨rfl, rfl, H.weaken (L' := [(3, l100.v)]) ⟨rfl, trivial⟩⟩
     ·refine Ans.mk rfl rfl fun a H => ?_
      replace H := H.weaken (L' := [(43, l106.v)]) ⟨rfl, trivial⟩
      refine s_assign H rfl rfl (lt_ rfl) fun a H => c_nil ⟨rfl, rfl, H.weaken (L' := [(4, l106.v)]) ⟨rfl, trivial⟩⟩
     ·refine Ans.mk rfl rfl fun a H => ?_
      replace H := H.weaken (L' := [(44, (.i c86))]) ⟨rfl, trivial⟩
      refine s_assign H rfl rfl (lt_ rfl) fun a H => c_nil ⟨rfl, rfl, H.weaken (L' := [(5, (.i c86))]) ⟨rfl, trivial⟩⟩
     ·refine Ans.mk rfl rfl fun a H => ?_
      replace H := H.weaken (L' := [(48, (.pointer l112))]) ⟨rfl, trivial⟩
      refine s_assign H rfl rfl (lt_ rfl) fun a H => c_nil ⟨rfl, rfl, H.weaken (L' := [(6, (.pointer l112))]) ⟨rfl, trivial⟩⟩
     ·refine Ans.mk rfl rfl fun a H => ?_
      replace H := H.weaken (L' := []) trivial
      refine s_assign H rfl rfl (lt_ rfl) fun a H => c_nil ⟨rfl, rfl, H.weaken (L' := [(7, (.i 0))]) ⟨rfl, trivial⟩⟩
     ·intro a H
      replace H := H.weaken (L' := [(2, (.pointer (some (blk b6)))), (3, l100.v), (4, l106.v), (5, (.i c86)), (6, (.pointer l112)), (7, (.i 0))]) ⟨rfl, rfl, rfl, rfl, rfl, rfl, trivial⟩
      refine hK87 _ _ <| c_ret ?_
      obtain ⟨N121, hc122, K123, hc124, D125, hc126, S127, hc128, h⟩ := h
      exact e_ret6 H rfl ⟨_, rfl, run_loadN (l := [(.i N121), (.i K123), (.i D125), (.i S127)]) agg_36 rfl ⟨hc122, hc124, hc126, hc128, trivial⟩⟩ rfl rfl rfl rfl rfl h
  have st_7_9_11_13_14 : ∀ (C58 : Slc) (b63 : Nat) (b66 : Nat) (b69 : Nat) (b72 : Nat) (w35 : World), R34 (some C58) (some b63) (some b66) (some b69) (some b72) none w35 → F142 1 [7, 9, 11, 13, 14] [(0, l36.v), (1, (.i l39)), (2, l42.v), (3, (.i l45)), (4, (.i (wr .i64 (l45 - 4)))), (5, (.i l48)), (6, (Slc.v (l42.cut 1 (Int.toNat (wr .i64 (l45 - 4))) (Int.toNat (l48))))), (7, C58.v), (8, (.agg #[C58.v, (.i 0)])), (9, (.pointer (some (blk b63)))), (10, (.i l54)), (11, (Slc.v (Slc.mk (some (blk b66)) 1 1))), (12, (.agg #[l36.v, (.i l39), (.pointer (some (blk b63))), Slc.nil.v, (Slc.v (Slc.mk (some (blk b66)) 1 1))])), (13, (.pointer (some (blk b69)))), (14, (.pointer (some (blk b72))))] w35 := by
   intro C58 b63 b66 b69 b72 w35 hr
   rw [h140]
   refine StT.more [] [15] (by kernel_rfl) (by kernel_rfl) (by kernel_rfl) .nil (.cons ?_ .nil)
   ·refine ⟨_, rfl, fun a H => ?_⟩
    replace H := H.weaken (L' := [(11, (.pointer (some (blk b72)))), (32, (.pointer (some (blk b69))))]) ⟨rfl, rfl, trivial⟩
    have h := h138 C58 b63 b66 b69 b72 w35 hr
    obtain ⟨h76, h77, h⟩ := h
    refine s_sto (p := blk b72) (v := (.pointer (some (blk b69)))) H rfl rfl rfl rfl one_104 rfl h76 h77 ?_
    clear H
    intro H
    generalize hww75 : World.setCell w35 (blk b72) (.pointer (some (blk b69))) = w75 at h ⊢
    have w75S : SetAt w35 (blk b72) (.pointer (some (blk b69))) w75 := ⟨hww75.symm⟩
    clear hww75 h76 h77
    refine c_nil ?_
    refine effQ.ok (v := undef) (H.weaken (L' := []) trivial) ⟨[(0, l36.v), (1, (.i l39)), (2, l42.v), (3, (.i l45)), (4, (.i (wr .i64 (l45 - 4)))), (5, (.i l48)), (6, (Slc.v (l42.cut 1 (Int.toNat (wr .i64 (l45 - 4))) (Int.toNat (l48))))), (7, C58.v), (8, (.agg #[C58.v, (.i 0)])), (9, (.pointer (some (blk b63)))), (10, (.i l54)), (11, (Slc.v (Slc.mk (some (blk b66)) 1 1))), (12, (.agg #[l36.v, (.i l39), (.pointer (some (blk b63))), Slc.nil.v, (Slc.v (Slc.mk (some (blk b66)) 1 1))])), (13, (.pointer (some (blk b69)))), (14, (.pointer (some (blk b72)))), (15, undef)], ⟨rfl, rfl, rfl, rfl, rfl, rfl, rfl, rfl, rfl, rfl, rfl, rfl, rfl, rfl, rfl, rfl, trivial⟩, ?_⟩
    have hx := st_7_9_11_13_14_15 C58 b63 b66 b69 b72 w75 h
    rw [h140] at hx
    exact hx
  have st_7_9_11_13 : ∀ (C58 : Slc) (b63 : Nat) (b66 : Nat) (b69 : Nat) (w35 : World), R34 (some C58) (some b63) (some b66) (some b69) none none w35 → F142 2 [7, 9, 11, 13] [(0, l36.v), (1, (.i l39)), (2, l42.v), (3, (.i l45)), (4, (.i (wr .i64 (l45 - 4)))), (5, (.i l48)), (6, (Slc.v (l42.cut 1 (Int.toNat (wr .i64 (l45 - 4))) (Int.toNat (l48))))), (7, C58.v), (8, (.agg #[C58.v, (.i 0)])), (9, (.pointer (some (blk b63)))), (10, (.i l54)), (11, (Slc.v (Slc.mk (some (blk b66)) 1 1))), (12, (.agg #[l36.v, (.i l39), (.pointer (some (blk b63))), Slc.nil.v, (Slc.v (Slc.mk (some (blk b66)) 1 1))])), (13, (.pointer (some (blk b69))))] w35 := by
   intro C58 b63 b66 b69 w35 hr
   rw [h140]
   refine StT.more [] [14] (by kernel_rfl) (by kernel_rfl) (by kernel_rfl) .nil (.cons ?_ .nil)
   ·refine ⟨_, rfl, fun a H => ?_⟩
    replace H := H.weaken (L' := []) trivial
    have h := h137 (some C58) (some b63) (some b66) (some b69) w35 hr
    replace h := h.get
    obtain ⟨b72, w73, n74, h⟩ := h
    refine s_alloc H rfl zero_104 (lt_ rfl) ?_
    rw [← n74.at_]
    clear H a
    intro a H
    refine n74.go <| c_nil ?_
    refine effQ.ok (v := (.pointer (some (blk b72)))) (H.weaken (L' := [(11, (.pointer (some (blk b72))))]) ⟨rfl, trivial⟩) ⟨[(0, l36.v), (1, (.i l39)), (2, l42.v), (3, (.i l45)), (4, (.i (wr .i64 (l45 - 4)))), (5, (.i l48)), (6, (Slc.v (l42.cut 1 (Int.toNat (wr .i64 (l45 - 4))) (Int.toNat (l48))))), (7, C58.v), (8, (.agg #[C58.v, (.i 0)])), (9, (.pointer (some (blk b63)))), (10, (.i l54)), (11, (Slc.v (Slc.mk (some (blk b66)) 1 1))), (12, (.agg #[l36.v, (.i l39), (.pointer (some (blk b63))), Slc.nil.v, (Slc.v (Slc.mk (some (blk b66)) 1 1))])), (13, (.pointer (some (blk b69)))), (14, (.pointer (some (blk b72))))], ⟨rfl, rfl, rfl, rfl, rfl, rfl, rfl, rfl, rfl, rfl, rfl, rfl, rfl, rfl, rfl, trivial⟩, ?_⟩
    have hx := st_7_9_11_13_14 C58 b63 b66 b69 b72 w73 h
    rw [h140] at hx
    exact hx
  have st_7_9_11_14 : ∀ (C58 : Slc) (b63 : Nat) (b66 : Nat) (b72 : Nat) (w35 : World), R34 (some C58) (some b63) (some b66) none (some b72) none w35 → F142 2 [7, 9, 11, 14] [(0, l36.v), (1, (.i l39)), (2, l42.v), (3, (.i l45)), (4, (.i (wr .i64 (l45 - 4)))), (5, (.i l48)), (6, (Slc.v (l42.cut 1 (Int.toNat (wr .i64 (l45 - 4))) (Int.toNat (l48))))), (7, C58.v), (8, (.agg #[C58.v, (.i 0)])), (9, (.pointer (some (blk b63)))), (10, (.i l54)), (11, (Slc.v (Slc.mk (some (blk b66)) 1 1))), (12, (.agg #[l36.v, (.i l39), (.pointer (some (blk b63))), Slc.nil.v, (Slc.v (Slc.mk (some (blk b66)) 1 1))])), (14, (.pointer (some (blk b72))))] w35 := by
   intro C58 b63 b66 b72 w35 hr
   rw [h140]
   refine StT.more [0, 1, 12] [13] (by kernel_rfl) (by kernel_rfl) (by kernel_rfl) (.cons ?_ (.cons ?_ (.cons ?_ .nil))) (.cons ?_ .nil)
   ·refine Ans.mk rfl rfl fun a H => ?_
    replace H := H.weaken (L' := [(1, (.pointer (some (blk b3))))]) ⟨rfl, trivial⟩
    obtain hc37 := h38 (some C58) (some b63) (some b66) (some b72) w35 hr
    refine s_load (v := l36.v) H rfl rfl one_22 hc37 (lt_ rfl) fun a H => c_nil ⟨rfl, rfl, H.weaken (L' := [(19, l36.v)]) ⟨rfl, trivial⟩⟩
   ·refine Ans.mk rfl rfl fun a H => ?_
    replace H := H.weaken (L' := [(9, (.pointer (some (blk b14))))]) ⟨rfl, trivial⟩
    obtain hc40 := h41 (some C58) (some b63) (some b66) (some b72) w35 hr
    refine s_load (v := (.i l39)) H rfl rfl one_3 hc40 (lt_ rfl) fun a H => c_nil ⟨rfl, rfl, H.weaken (L' := [(20, (.i l39))]) ⟨rfl, trivial⟩⟩
   ·refine Ans.mk rfl rfl fun a H => ?_
    replace H := H.weaken (L' := [(19, l36.v), (20, (.i l39)), (28, (.pointer (some (blk b63)))), (30, (Slc.v (Slc.mk (some (blk b66)) 1 1)))]) ⟨rfl, rfl, rfl, rfl, trivial⟩
    refine s_build H rfl (by rw [H.parts (vs := [(0, l36.v), (1, (.i l39)), (2, (.pointer (some (blk b63)))), (4, (Slc.v (Slc.mk (some (blk b66)) 1 1)))]) rfl]; exact bd_106_s0_ii641_p2_s4 w35 l36 l39 (some (blk b63)) (Slc.mk (some (blk b66)) 1 1)) (lt_ rfl) fun a H => c_nil ⟨rfl, rfl, H.weaken (L' := [(31, (.agg #[l36.v, (.i l39), (.pointer (some (blk b63))), Slc.nil.v, (Slc.v (Slc.mk (some (blk b66)) 1 1))]))]) ⟨rfl, trivial⟩⟩
   ·refine ⟨_, rfl, fun a H => ?_⟩
    replace H := H.weaken (L' := [(31, (.agg #[l36.v, (.i l39), (.pointer (some (blk b63))), Slc.nil.v, (Slc.v (Slc.mk (some (blk b66)) 1 1))]))]) ⟨rfl, trivial⟩
    have h := h136 C58 b63 b66 (some b72) w35 hr
    replace h := h.get
    obtain ⟨b69, w70, n71, h⟩ := h
    refine s_box H rfl rfl (lt_ rfl) ?_
    rw [← n71.at_]
    clear H a
    intro a H
    refine n71.go <| c_nil ?_
    refine effQ.ok (v := (.pointer (some (blk b69)))) (H.weaken (L' := [(32, (.pointer (some (blk b69))))]) ⟨rfl, trivial⟩) ⟨[(0, l36.v), (1, (.i l39)), (2, l42.v), (3, (.i l45)), (4, (.i (wr .i64 (l45 - 4)))), (5, (.i l48)), (6, (Slc.v (l42.cut 1 (Int.toNat (wr .i64 (l45 - 4))) (Int.toNat (l48))))), (7, C58.v), (8, (.agg #[C58.v, (.i 0)])), (9, (.pointer (some (blk b63)))), (10, (.i l54)), (11, (Slc.v (Slc.mk (some (blk b66)) 1 1))), (12, (.agg #[l36.v, (.i l39), (.pointer (some (blk b63))), Slc.nil.v, (Slc.v (Slc.mk (some (blk b66)) 1 1))])), (13, (.pointer (some (blk b69)))), (14, (.pointer (some (blk b72))))], ⟨rfl, rfl, rfl, rfl, rfl, rfl, rfl, rfl, rfl, rfl, rfl, rfl, rfl, rfl, rfl, trivial⟩, ?_⟩
    have hx := st_7_9_11_13_14 C58 b63 b66 b69 b72 w70 h
    rw [h140] at hx
    exact hx
  have st_7_9_11 : ∀ (C58 : Slc) (b63 : Nat) (b66 : Nat) (w35 : World), R34 (some C58) (some b63) (some b66) none none none w35 → F142 3 [7, 9, 11] [(0, l36.v), (1, (.i l39)), (2, l42.v), (3, (.i l45)), (4, (.i (wr .i64 (l45 - 4)))), (5, (.i l48)), (6, (Slc.v (l42.cut 1 (Int.toNat (wr .i64 (l45 - 4))) (Int.toNat (l48))))), (7, C58.v), (8, (.agg #[C58.v, (.i 0)])), (9, (.pointer (some (blk b63)))), (10, (.i l54)), (11, (Slc.v (Slc.mk (some (blk b66)) 1 1))), (12, (.agg #[l36.v, (.i l39), (.pointer (some (blk b63))), Slc.nil.v, (Slc.v (Slc.mk (some (blk b66)) 1 1))]))] w35 := by
   intro C58 b63 b66 w35 hr
   rw [h140]
   refine StT.more [0, 1, 12] [13, 14] (by kernel_rfl) (by kernel_rfl) (by kernel_rfl) (.cons ?_ (.cons ?_ (.cons ?_ .nil))) (.cons ?_ (.cons ?_ .nil))
   ·refine Ans.mk rfl rfl fun a H => ?_
    replace H := H.weaken (L' := [(1, (.pointer (some (blk b3))))]) ⟨rfl, trivial⟩
    obtain hc37 := h38 (some C58) (some b63) (some b66) none w35 hr
    refine s_load (v := l36.v) H rfl rfl one_22 hc37 (lt_ rfl) fun a H => c_nil ⟨rfl, rfl, H.weaken (L' := [(19, l36.v)]) ⟨rfl, trivial⟩⟩
   ·refine Ans.mk rfl rfl fun a H => ?_
    replace H := H.weaken (L' := [(9, (.pointer (some (blk b14))))]) ⟨rfl, trivial⟩
    obtain hc40 := h41 (some C58) (some b63) (some b66) none w35 hr
    refine s_load (v := (.i l39)) H rfl rfl one_3 hc40 (lt_ rfl) fun a H => c_nil ⟨rfl, rfl, H.weaken (L' := [(20, (.i l39))]) ⟨rfl, trivial⟩⟩
   ·refine Ans.mk rfl rfl fun a H => ?_
    replace H := H.weaken (L' := [(19, l36.v), (20, (.i l39)), (28, (.pointer (some (blk b63)))), (30, (Slc.v (Slc.mk (some (blk b66)) 1 1)))]) ⟨rfl, rfl, rfl, rfl, trivial⟩
    refine s_build H rfl (by rw [H.parts (vs := [(0, l36.v), (1, (.i l39)), (2, (.pointer (some (blk b63)))), (4, (Slc.v (Slc.mk (some (blk b66)) 1 1)))]) rfl]; exact bd_106_s0_ii641_p2_s4 w35 l36 l39 (some (blk b63)) (Slc.mk (some (blk b66)) 1 1)) (lt_ rfl) fun a H => c_nil ⟨rfl, rfl, H.weaken (L' := [(31, (.agg #[l36.v, (.i l39), (.pointer (some (blk b63))), Slc.nil.v, (Slc.v (Slc.mk (some (blk b66)) 1 1))]))]) ⟨rfl, trivial⟩⟩
   ·refine ⟨_, rfl, fun a H => ?_⟩
    replace H := H.weaken (L' := [(31, (.agg #[l36.v, (.i l39), (.pointer (some (blk b63))), Slc.nil.v, (Slc.v (Slc.mk (some (blk b66)) 1 1))]))]) ⟨rfl, trivial⟩
    have h := h136 C58 b63 b66 none w35 hr
    replace h := h.get
    obtain ⟨b69, w70, n71, h⟩ := h
    refine s_box H rfl rfl (lt_ rfl) ?_
    rw [← n71.at_]
    clear H a
    intro a H
    refine n71.go <| c_nil ?_
    refine effQ.ok (v := (.pointer (some (blk b69)))) (H.weaken (L' := [(32, (.pointer (some (blk b69))))]) ⟨rfl, trivial⟩) ⟨[(0, l36.v), (1, (.i l39)), (2, l42.v), (3, (.i l45)), (4, (.i (wr .i64 (l45 - 4)))), (5, (.i l48)), (6, (Slc.v (l42.cut 1 (Int.toNat (wr .i64 (l45 - 4))) (Int.toNat (l48))))), (7, C58.v), (8, (.agg #[C58.v, (.i 0)])), (9, (.pointer (some (blk b63)))), (10, (.i l54)), (11, (Slc.v (Slc.mk (some (blk b66)) 1 1))), (12, (.agg #[l36.v, (.i l39), (.pointer (some (blk b63))), Slc.nil.v, (Slc.v (Slc.mk (some (blk b66)) 1 1))])), (13, (.pointer (some (blk b69))))], ⟨rfl, rfl, rfl, rfl, rfl, rfl, rfl, rfl, rfl, rfl, rfl, rfl, rfl, rfl, trivial⟩, ?_⟩
    have hx := st_7_9_11_13 C58 b63 b66 b69 w70 h
    rw [h140] at hx
    exact hx
   ·refine ⟨_, rfl, fun a H => ?_⟩
    replace H := H.weaken (L' := []) trivial
    have h := h137 (some C58) (some b63) (some b66) none w35 hr
    replace h := h.get
    obtain ⟨b72, w73, n74, h⟩ := h
    refine s_alloc H rfl zero_104 (lt_ rfl) ?_
    rw [← n74.at_]
    clear H a
    intro a H
    refine n74.go <| c_nil ?_
    refine effQ.ok (v := (.pointer (some (blk b72)))) (H.weaken (L' := [(11, (.pointer (some (blk b72))))]) ⟨rfl, trivial⟩) ⟨[(0, l36.v), (1, (.i l39)), (2, l42.v), (3, (.i l45)), (4, (.i (wr .i64 (l45 - 4)))), (5, (.i l48)), (6, (Slc.v (l42.cut 1 (Int.toNat (wr .i64 (l45 - 4))) (Int.toNat (l48))))), (7, C58.v), (8, (.agg #[C58.v, (.i 0)])), (9, (.pointer (some (blk b63)))), (10, (.i l54)), (11, (Slc.v (Slc.mk (some (blk b66)) 1 1))), (12, (.agg #[l36.v, (.i l39), (.pointer (some (blk b63))), Slc.nil.v, (Slc.v (Slc.mk (some (blk b66)) 1 1))])), (14, (.pointer (some (blk b72))))], ⟨rfl, rfl, rfl, rfl, rfl, rfl, rfl, rfl, rfl, rfl, rfl, rfl, rfl, rfl, trivial⟩, ?_⟩
    have hx := st_7_9_11_14 C58 b63 b66 b72 w73 h
    rw [h140] at hx
    exact hx
  have st_7_9_14 : ∀ (C58 : Slc) (b63 : Nat) (b72 : Nat) (w35 : World), R34 (some C58) (some b63) none none (some b72) none w35 → F142 3 [7, 9, 14] [(0, l36.v), (1, (.i l39)), (2, l42.v), (3, (.i l45)), (4, (.i (wr .i64 (l45 - 4)))), (5, (.i l48)), (6, (Slc.v (l42.cut 1 (Int.toNat (wr .i64 (l45 - 4))) (Int.toNat (l48))))), (7, C58.v), (8, (.agg #[C58.v, (.i 0)])), (9, (.pointer (some (blk b63)))), (10, (.i l54)), (14, (.pointer (some (blk b72))))] w35 := by
   intro C58 b63 b72 w35 hr
   rw [h140]
   refine StT.more [0, 1, 10] [11] (by kernel_rfl) (by kernel_rfl) (by kernel_rfl) (.cons ?_ (.cons ?_ (.cons ?_ .nil))) (.cons ?_ .nil)
   ·refine Ans.mk rfl rfl fun a H => ?_
    replace H := H.weaken (L' := [(1, (.pointer (some (blk b3))))]) ⟨rfl, trivial⟩
    obtain hc37 := h38 (some C58) (some b63) none (some b72) w35 hr
    refine s_load (v := l36.v) H rfl rfl one_22 hc37 (lt_ rfl) fun a H => c_nil ⟨rfl, rfl, H.weaken (L' := [(19, l36.v)]) ⟨rfl, trivial⟩⟩
   ·refine Ans.mk rfl rfl fun a H => ?_
    replace H := H.weaken (L' := [(9, (.pointer (some (blk b14))))]) ⟨rfl, trivial⟩
    obtain hc40 := h41 (some C58) (some b63) none (some b72) w35 hr
    refine s_load (v := (.i l39)) H rfl rfl one_3 hc40 (lt_ rfl) fun a H => c_nil ⟨rfl, rfl, H.weaken (L' := [(20, (.i l39))]) ⟨rfl, trivial⟩⟩
   ·refine Ans.mk rfl rfl fun a H => ?_
    replace H := H.weaken (L' := [(9, (.pointer (some (blk b14))))]) ⟨rfl, trivial⟩
    obtain hc55 := h56 (some C58) (some b63) (some b72) w35 hr
    refine s_load (v := (.i l54)) H rfl rfl one_3 hc55 (lt_ rfl) fun a H => c_nil ⟨rfl, rfl, H.weaken (L' := [(29, (.i l54))]) ⟨rfl, trivial⟩⟩
   ·refine ⟨_, rfl, fun a H => ?_⟩
    replace H := H.weaken (L' := [(29, (.i l54))]) ⟨rfl, trivial⟩
    have h := h135 (some C58) (some b63) (some b72) w35 hr
    replace h := h.get
    obtain ⟨b66, w67, n68, h⟩ := h
    refine s_bslc H rfl (by rw [H.parts (vs := [(0, (.i l54))]) rfl]; exact bs_44_1_ii640 w35 l54) (lt_ rfl) ?_
    rw [← n68.at_]
    clear H a
    intro a H
    refine n68.go <| c_nil ?_
    refine effQ.ok (v := (Slc.v (Slc.mk (some (blk b66)) 1 1))) (H.weaken (L' := [(30, (Slc.v (Slc.mk (some (blk b66)) 1 1)))]) ⟨rfl, trivial⟩) ⟨[(0, l36.v), (1, (.i l39)), (2, l42.v), (3, (.i l45)), (4, (.i (wr .i64 (l45 - 4)))), (5, (.i l48)), (6, (Slc.v (l42.cut 1 (Int.toNat (wr .i64 (l45 - 4))) (Int.toNat (l48))))), (7, C58.v), (8, (.agg #[C58.v, (.i 0)])), (9, (.pointer (some (blk b63)))), (10, (.i l54)), (11, (Slc.v (Slc.mk (some (blk b66)) 1 1))), (12, (.agg #[l36.v, (.i l39), (.pointer (some (blk b63))), Slc.nil.v, (Slc.v (Slc.mk (some (blk b66)) 1 1))])), (14, (.pointer (some (blk b72))))], ⟨rfl, rfl, rfl, rfl, rfl, rfl, rfl, rfl, rfl, rfl, rfl, rfl, rfl, trivial⟩, ?_⟩
    have hx := st_7_9_11_14 C58 b63 b66 b72 w67 h
    rw [h140] at hx
    exact hx
  have st_7_11_14 : ∀ (C58 : Slc) (b66 : Nat) (b72 : Nat) (w35 : World), R34 (some C58) none (some b66) none (some b72) none w35 → F142 3 [7, 11, 14] [(0, l36.v), (1, (.i l39)), (2, l42.v), (3, (.i l45)), (4, (.i (wr .i64 (l45 - 4)))), (5, (.i l48)), (6, (Slc.v (l42.cut 1 (Int.toNat (wr .i64 (l45 - 4))) (Int.toNat (l48))))), (7, C58.v), (8, (.agg #[C58.v, (.i 0)])), (10, (.i l54)), (11, (Slc.v (Slc.mk (some (blk b66)) 1 1))), (14, (.pointer (some (blk b72))))] w35 := by
   intro C58 b66 b72 w35 hr
   rw [h140]
   refine StT.more [0, 1, 8] [9] (by kernel_rfl) (by kernel_rfl) (by kernel_rfl) (.cons ?_ (.cons ?_ (.cons ?_ .nil))) (.cons ?_ .nil)
   ·refine Ans.mk rfl rfl fun a H => ?_
    replace H := H.weaken (L' := [(1, (.pointer (some (blk b3))))]) ⟨rfl, trivial⟩
    obtain hc37 := h38 (some C58) none (some b66) (some b72) w35 hr
    refine s_load (v := l36.v) H rfl rfl one_22 hc37 (lt_ rfl) fun a H => c_nil ⟨rfl, rfl, H.weaken (L' := [(19, l36.v)]) ⟨rfl, trivial⟩⟩
   ·refine Ans.mk rfl rfl fun a H => ?_
    replace H := H.weaken (L' := [(9, (.pointer (some (blk b14))))]) ⟨rfl, trivial⟩
    obtain hc40 := h41 (some C58) none (some b66) (some b72) w35 hr
    refine s_load (v := (.i l39)) H rfl rfl one_3 hc40 (lt_ rfl) fun a H => c_nil ⟨rfl, rfl, H.weaken (L' := [(20, (.i l39))]) ⟨rfl, trivial⟩⟩
   ·refine Ans.mk rfl rfl fun a H => ?_
    replace H := H.weaken (L' := [(26, C58.v)]) ⟨rfl, trivial⟩
    refine s_build H rfl (by rw [H.parts (vs := [(0, C58.v)]) rfl]; exact bd_42_s0 w35 C58) (lt_ rfl) fun a H => c_nil ⟨rfl, rfl, H.weaken (L' := [(27, (.agg #[C58.v, (.i 0)]))]) ⟨rfl, trivial⟩⟩
   ·refine ⟨_, rfl, fun a H => ?_⟩
    replace H := H.weaken (L' := [(27, (.agg #[C58.v, (.i 0)]))]) ⟨rfl, trivial⟩
    have h := h134 C58 (some b66) (some b72) w35 hr
    replace h := h.get
    obtain ⟨b63, w64, n65, h⟩ := h
    refine s_box H rfl rfl (lt_ rfl) ?_
    rw [← n65.at_]
    clear H a
    intro a H
    refine n65.go <| c_nil ?_
    refine effQ.ok (v := (.pointer (some (blk b63)))) (H.weaken (L' := [(28, (.pointer (some (blk b63))))]) ⟨rfl, trivial⟩) ⟨[(0, l36.v), (1, (.i l39)), (2, l42.v), (3, (.i l45)), (4, (.i (wr .i64 (l45 - 4)))), (5, (.i l48)), (6, (Slc.v (l42.cut 1 (Int.toNat (wr .i64 (l45 - 4))) (Int.toNat (l48))))), (7, C58.v), (8, (.agg #[C58.v, (.i 0)])), (9, (.pointer (some (blk b63)))), (10, (.i l54)), (11, (Slc.v (Slc.mk (some (blk b66)) 1 1))), (12, (.agg #[l36.v, (.i l39), (.pointer (some (blk b63))), Slc.nil.v, (Slc.v (Slc.mk (some (blk b66)) 1 1))])), (14, (.pointer (some (blk b72))))], ⟨rfl, rfl, rfl, rfl, rfl, rfl, rfl, rfl, rfl, rfl, rfl, rfl, rfl, trivial⟩, ?_⟩
    have hx := st_7_9_11_14 C58 b63 b66 b72 w64 h
    rw [h140] at hx
    exact hx
  have st_7_9 : ∀ (C58 : Slc) (b63 : Nat) (w35 : World), R34 (some C58) (some b63) none none none none w35 → F142 4 [7, 9] [(0, l36.v), (1, (.i l39)), (2, l42.v), (3, (.i l45)), (4, (.i (wr .i64 (l45 - 4)))), (5, (.i l48)), (6, (Slc.v (l42.cut 1 (Int.toNat (wr .i64 (l45 - 4))) (Int.toNat (l48))))), (7, C58.v), (8, (.agg #[C58.v, (.i 0)])), (9, (.pointer (some (blk b63)))), (10, (.i l54))] w35 := by
   intro C58 b63 w35 hr
   rw [h140]
   refine StT.more [0, 1, 10] [11, 14] (by kernel_rfl) (by kernel_rfl) (by kernel_rfl) (.cons ?_ (.cons ?_ (.cons ?_ .nil))) (.cons ?_ (.cons ?_ .nil))
   ·refine Ans.mk rfl rfl fun a H => ?_
    replace H := H.weaken (L' := [(1, (.pointer (some (blk b3))))]) ⟨rfl, trivial⟩
    obtain hc37 := h38 (some C58) (some b63) none none w35 hr
    refine s_load (v := l36.v) H rfl rfl one_22 hc37 (lt_ rfl) fun a H => c_nil ⟨rfl, rfl, H.weaken (L' := [(19, l36.v)]) ⟨rfl, trivial⟩⟩
   ·refine Ans.mk rfl rfl fun a H => ?_
    replace H := H.weaken (L' := [(9, (.pointer (some (blk b14))))]) ⟨rfl, trivial⟩
    obtain hc40 := h41 (some C58) (some b63) none none w35 hr
    refine s_load (v := (.i l39)) H rfl rfl one_3 hc40 (lt_ rfl) fun a H => c_nil ⟨rfl, rfl, H.weaken (L' := [(20, (.i l39))]) ⟨rfl, trivial⟩⟩
   ·refine Ans.mk rfl rfl fun a H => ?_
    replace H := H.weaken (L' := [(9, (.pointer (some (blk b14))))]) ⟨rfl, trivial⟩
    obtain hc55 := h56 (some C58) (some b63) none w35 hr
    refine s_load (v := (.i l54)) H rfl rfl one_3 hc55 (lt_ rfl) fun a H => c_nil ⟨rfl, rfl, H.weaken (L' := [(29, (.i l54))]) ⟨rfl, trivial⟩⟩
   ·refine ⟨_, rfl, fun a H => ?_⟩
    replace H := H.weaken (L' := [(29, (.i l54))]) ⟨rfl, trivial⟩
    have h := h135 (some C58) (some b63) none w35 hr
    replace h := h.get
    obtain ⟨b66, w67, n68, h⟩ := h
    refine s_bslc H rfl (by rw [H.parts (vs := [(0, (.i l54))]) rfl]; exact bs_44_1_ii640 w35 l54) (lt_ rfl) ?_
    rw [← n68.at_]
    clear H a
    intro a H
    refine n68.go <| c_nil ?_
    refine effQ.ok (v := (Slc.v (Slc.mk (some (blk b66)) 1 1))) (H.weaken (L' := [(30, (Slc.v (Slc.mk (some (blk b66)) 1 1)))]) ⟨rfl, trivial⟩) ⟨[(0, l36.v), (1, (.i l39)), (2, l42.v), (3, (.i l45)), (4, (.i (wr .i64 (l45 - 4)))), (5, (.i l48)), (6, (Slc.v (l42.cut 1 (Int.toNat (wr .i64 (l45 - 4))) (Int.toNat (l48))))), (7, C58.v), (8, (.agg #[C58.v, (.i 0)])), (9, (.pointer (some (blk b63)))), (10, (.i l54)), (11, (Slc.v (Slc.mk (some (blk b66)) 1 1))), (12, (.agg #[l36.v, (.i l39), (.pointer (some (blk b63))), Slc.nil.v, (Slc.v (Slc.mk (some (blk b66)) 1 1))]))], ⟨rfl, rfl, rfl, rfl, rfl, rfl, rfl, rfl, rfl, rfl, rfl, rfl, trivial⟩, ?_⟩
    have hx := st_7_9_11 C58 b63 b66 w67 h
    rw [h140] at hx
    exact hx
   ·refine ⟨_, rfl, fun a H => ?_⟩
    replace H := H.weaken (L' := []) trivial
    have h := h137 (some C58) (some b63) none none w35 hr
    replace h := h.get
    obtain ⟨b72, w73, n74, h⟩ := h
    refine s_alloc H rfl zero_104 (lt_ rfl) ?_
    rw [← n74.at_]
    clear H a
    intro a H
    refine n74.go <| c_nil ?_
    refine effQ.ok (v := (.pointer (some (blk b72)))) (H.weaken (L' := [(11, (.pointer (some (blk b72))))]) ⟨rfl, trivial⟩) ⟨[(0, l36.v), (1, (.i l39)), (2, l42.v), (3, (.i l45)), (4, (.i (wr .i64 (l45 - 4)))), (5, (.i l48)), (6, (Slc.v (l42.cut 1 (Int.toNat (wr .i64 (l45 - 4))) (Int.toNat (l48))))), (7, C58.v), (8, (.agg #[C58.v, (.i 0)])), (9, (.pointer (some (blk b63)))), (10, (.i l54)), (14, (.pointer (some (blk b72))))], ⟨rfl, rfl, rfl, rfl, rfl, rfl, rfl, rfl, rfl, rfl, rfl, rfl, trivial⟩, ?_⟩
    have hx := st_7_9_14 C58 b63 b72 w73 h
    rw [h140] at hx
    exact hx
  have st_7_11 : ∀ (C58 : Slc) (b66 : Nat) (w35 : World), R34 (some C58) none (some b66) none none none w35 → F142 4 [7, 11] [(0, l36.v), (1, (.i l39)), (2, l42.v), (3, (.i l45)), (4, (.i (wr .i64 (l45 - 4)))), (5, (.i l48)), (6, (Slc.v (l42.cut 1 (Int.toNat (wr .i64 (l45 - 4))) (Int.toNat (l48))))), (7, C58.v), (8, (.agg #[C58.v, (.i 0)])), (10, (.i l54)), (11, (Slc.v (Slc.mk (some (blk b66)) 1 1)))] w35 := by
   intro C58 b66 w35 hr
   rw [h140]
   refine StT.more [0, 1, 8] [9, 14] (by kernel_rfl) (by kernel_rfl) (by kernel_rfl) (.cons ?_ (.cons ?_ (.cons ?_ .nil))) (.cons ?_ (.cons ?_ .nil))
   ·refine Ans.mk rfl rfl fun a H => ?_
    replace H := H.weaken (L' := [(1, (.pointer (some (blk b3))))]) ⟨rfl, trivial⟩
    obtain hc37 := h38 (some C58) none (some b66) none w35 hr
    refine s_load (v := l36.v) H rfl rfl one_22 hc37 (lt_ rfl) fun a H => c_nil ⟨rfl, rfl, H.weaken (L' := [(19, l36.v)]) ⟨rfl, trivial⟩⟩
   ·refine Ans.mk rfl rfl fun a H => ?_
    replace H := H.weaken (L' := [(9, (.pointer (some (blk b14))))]) ⟨rfl, trivial⟩
    obtain hc40 := h41 (some C58) none (some b66) none w35 hr
    refine s_load (v := (.i l39)) H rfl rfl one_3 hc40 (lt_ rfl) fun a H => c_nil ⟨rfl, rfl, H.weaken (L' := [(20, (.i l39))]) ⟨rfl, trivial⟩⟩
   ·refine Ans.mk rfl rfl fun a H => ?_
    replace H := H.weaken (L' := [(26, C58.v)]) ⟨rfl, trivial⟩
    refine s_build H rfl (by rw [H.parts (vs := [(0, C58.v)]) rfl]; exact bd_42_s0 w35 C58) (lt_ rfl) fun a H => c_nil ⟨rfl, rfl, H.weaken (L' := [(27, (.agg #[C58.v, (.i 0)]))]) ⟨rfl, trivial⟩⟩
   ·refine ⟨_, rfl, fun a H => ?_⟩
    replace H := H.weaken (L' := [(27, (.agg #[C58.v, (.i 0)]))]) ⟨rfl, trivial⟩
    have h := h134 C58 (some b66) none w35 hr
    replace h := h.get
    obtain ⟨b63, w64, n65, h⟩ := h
    refine s_box H rfl rfl (lt_ rfl) ?_
    rw [← n65.at_]
    clear H a
    intro a H
    refine n65.go <| c_nil ?_
    refine effQ.ok (v := (.pointer (some (blk b63)))) (H.weaken (L' := [(28, (.pointer (some (blk b63))))]) ⟨rfl, trivial⟩) ⟨[(0, l36.v), (1, (.i l39)), (2, l42.v), (3, (.i l45)), (4, (.i (wr .i64 (l45 - 4)))), (5, (.i l48)), (6, (Slc.v (l42.cut 1 (Int.toNat (wr .i64 (l45 - 4))) (Int.toNat (l48))))), (7, C58.v), (8, (.agg #[C58.v, (.i 0)])), (9, (.pointer (some (blk b63)))), (10, (.i l54)), (11, (Slc.v (Slc.mk (some (blk b66)) 1 1))), (12, (.agg #[l36.v, (.i l39), (.pointer (some (blk b63))), Slc.nil.v, (Slc.v (Slc.mk (some (blk b66)) 1 1))]))], ⟨rfl, rfl, rfl, rfl, rfl, rfl, rfl, rfl, rfl, rfl, rfl, rfl, trivial⟩, ?_⟩
    have hx := st_7_9_11 C58 b63 b66 w64 h
    rw [h140] at hx
    exact hx
   ·refine ⟨_, rfl, fun a H => ?_⟩
    replace H := H.weaken (L' := []) trivial
    have h := h137 (some C58) none (some b66) none w35 hr
    replace h := h.get
    obtain ⟨b72, w73, n74, h⟩ := h
    refine s_alloc H rfl zero_104 (lt_ rfl) ?_
    rw [← n74.at_]
    clear H a
    intro a H
    refine n74.go <| c_nil ?_
    refine effQ.ok (v := (.pointer (some (blk b72)))) (H.weaken (L' := [(11, (.pointer (some (blk b72))))]) ⟨rfl, trivial⟩) ⟨[(0, l36.v), (1, (.i l39)), (2, l42.v), (3, (.i l45)), (4, (.i (wr .i64 (l45 - 4)))), (5, (.i l48)), (6, (Slc.v (l42.cut 1 (Int.toNat (wr .i64 (l45 - 4))) (Int.toNat (l48))))), (7, C58.v), (8, (.agg #[C58.v, (.i 0)])), (10, (.i l54)), (11, (Slc.v (Slc.mk (some (blk b66)) 1 1))), (14, (.pointer (some (blk b72))))], ⟨rfl, rfl, rfl, rfl, rfl, rfl, rfl, rfl, rfl, rfl, rfl, rfl, trivial⟩, ?_⟩
    have hx := st_7_11_14 C58 b66 b72 w73 h
    rw [h140] at hx
    exact hx
  have st_7_14 : ∀ (C58 : Slc) (b72 : Nat) (w35 : World), R34 (some C58) none none none (some b72) none w35 → F142 4 [7, 14] [(0, l36.v), (1, (.i l39)), (2, l42.v), (3, (.i l45)), (4, (.i (wr .i64 (l45 - 4)))), (5, (.i l48)), (6, (Slc.v (l42.cut 1 (Int.toNat (wr .i64 (l45 - 4))) (Int.toNat (l48))))), (7, C58.v), (8, (.agg #[C58.v, (.i 0)])), (10, (.i l54)), (14, (.pointer (some (blk b72))))] w35 := by
   intro C58 b72 w35 hr
   rw [h140]
   refine StT.more [0, 1, 8, 10] [9, 11] (by kernel_rfl) (by kernel_rfl) (by kernel_rfl) (.cons ?_ (.cons ?_ (.cons ?_ (.cons ?_ .nil)))) (.cons ?_ (.cons ?_ .nil))
   ·refine Ans.mk rfl rfl fun a H => ?_
    replace H := H.weaken (L' := [(1, (.pointer (some (blk b3))))]) ⟨rfl, trivial⟩
    obtain hc37 := h38 (some C58) none none (some b72) w35 hr
    refine s_load (v := l36.v) H rfl rfl one_22 hc37 (lt_ rfl) fun a H => c_nil ⟨rfl, rfl, H.weaken (L' := [(19, l36.v)]) ⟨rfl, trivial⟩⟩
   ·refine Ans.mk rfl rfl fun a H => ?_
    replace H := H.weaken (L' := [(9, (.pointer (some (blk b14))))]) ⟨rfl, trivial⟩
    obtain hc40 := h41 (some C58) none none (some b72) w35 hr
    refine s_load (v := (.i l39)) H rfl rfl one_3 hc40 (lt_ rfl) fun a H => c_nil ⟨rfl, rfl, H.weaken (L' := [(20, (.i l39))]) ⟨rfl, trivial⟩⟩
   ·refine Ans.mk rfl rfl fun a H => ?_
    replace H := H.weaken (L' := [(26, C58.v)]) ⟨rfl, trivial⟩
    refine s_build H rfl (by rw [H.parts (vs := [(0, C58.v)]) rfl]; exact bd_42_s0 w35 C58) (lt_ rfl) fun a H => c_nil ⟨rfl, rfl, H.weaken (L' := [(27, (.agg #[C58.v, (.i 0)]))]) ⟨rfl, trivial⟩⟩
   ·refine Ans.mk rfl rfl fun a H => ?_
    replace H := H.weaken (L' := [(9, (.pointer (some (blk b14))))]) ⟨rfl, trivial⟩
    obtain hc55 := h56 (some C58) none (some b72) w35 hr
    refine s_load (v := (.i l54)) H rfl rfl one_3 hc55 (lt_ rfl) fun a H => c_nil ⟨rfl, rfl, H.weaken (L' := [(29, (.i l54))]) ⟨rfl, trivial⟩⟩
   ·refine ⟨_, rfl, fun a H => ?_⟩
    replace H := H.weaken (L' := [(27, (.agg #[C58.v, (.i 0)]))]) ⟨rfl, trivial⟩
    have h := h134 C58 none (some b72) w35 hr
    replace h := h.get
    obtain ⟨b63, w64, n65, h⟩ := h
    refine s_box H rfl rfl (lt_ rfl) ?_
    rw [← n65.at_]
    clear H a
    intro a H
    refine n65.go <| c_nil ?_
    refine effQ.ok (v := (.pointer (some (blk b63)))) (H.weaken (L' := [(28, (.pointer (some (blk b63))))]) ⟨rfl, trivial⟩) ⟨[(0, l36.v), (1, (.i l39)), (2, l42.v), (3, (.i l45)), (4, (.i (wr .i64 (l45 - 4)))), (5, (.i l48)), (6, (Slc.v (l42.cut 1 (Int.toNat (wr .i64 (l45 - 4))) (Int.toNat (l48))))), (7, C58.v), (8, (.agg #[C58.v, (.i 0)])), (9, (.pointer (some (blk b63)))), (10, (.i l54)), (14, (.pointer (some (blk b72))))], ⟨rfl, rfl, rfl, rfl, rfl, rfl, rfl, rfl, rfl, rfl, rfl, rfl, trivial⟩, ?_⟩
    have hx := st_7_9_14 C58 b63 b72 w64 h
    rw [h140] at hx
    exact hx
   ·refine ⟨_, rfl, fun a H => ?_⟩
    replace H := H.weaken (L' := [(29, (.i l54))]) ⟨rfl, trivial⟩
    have h := h135 (some C58) none (some b72) w35 hr
    replace h := h.get
    obtain ⟨b66, w67, n68, h⟩ := h
    refine s_bslc H rfl (by rw [H.parts (vs := [(0, (.i l54))]) rfl]; exact bs_44_1_ii640 w35 l54) (lt_ rfl) ?_
    rw [← n68.at_]
    clear H a
    intro a H
    refine n68.go <| c_nil ?_
    refine effQ.ok (v := (Slc.v (Slc.mk (some (blk b66)) 1 1))) (H.weaken (L' := [(30, (Slc.v (Slc.mk (some (blk b66)) 1 1)))]) ⟨rfl, trivial⟩) ⟨[(0, l36.v), (1, (.i l39)), (2, l42.v), (3, (.i l45)), (4, (.i (wr .i64 (l45 - 4)))), (5, (.i l48)), (6, (Slc.v (l42.cut 1 (Int.toNat (wr .i64 (l45 - 4))) (Int.toNat (l48))))), (7, C58.v), (8, (.agg #[C58.v, (.i 0)])), (10, (.i l54)), (11, (Slc.v (Slc.mk (some (blk b66)) 1 1))), (14, (.pointer (some (blk b72))))], ⟨rfl, rfl, rfl, rfl, rfl, rfl, rfl, rfl, rfl, rfl, rfl, rfl, trivial⟩, ?_⟩
    have hx := st_7_11_14 C58 b66 b72 w67 h
    rw [h140] at hx
    exact hx
  have st_11_14 : ∀ (b66 : Nat) (b72 : Nat) (w35 : World), R34 none none (some b66) none (some b72) none w35 → F142 4 [11, 14] [(0, l36.v), (1, (.i l39)), (2, l42.v), (3, (.i l45)), (4, (.i (wr .i64 (l45 - 4)))), (5, (.i l48)), (6, (Slc.v (l42.cut 1 (Int.toNat (wr .i64 (l45 - 4))) (Int.toNat (l48))))), (10, (.i l54)), (11, (Slc.v (Slc.mk (some (blk b66)) 1 1))), (14, (.pointer (some (blk b72))))] w35 := by
   intro b66 b72 w35 hr
   rw [h140]
   refine StT.more [0, 1, 2, 3, 4, 5, 6] [7] (by kernel_rfl) (by kernel_rfl) (by kernel_rfl) (.cons ?_ (.cons ?_ (.cons ?_ (.cons ?_ (.cons ?_ (.cons ?_ (.cons ?_ .nil))))))) (.cons ?_ .nil)
   ·refine Ans.mk rfl rfl fun a H => ?_
    replace H := H.weaken (L' := [(1, (.pointer (some (blk b3))))]) ⟨rfl, trivial⟩
    obtain hc37 := h38 none none (some b66) (some b72) w35 hr
    refine s_load (v := l36.v) H rfl rfl one_22 hc37 (lt_ rfl) fun a H => c_nil ⟨rfl, rfl, H.weaken (L' := [(19, l36.v)]) ⟨rfl, trivial⟩⟩
   ·refine Ans.mk rfl rfl fun a H => ?_
    replace H := H.weaken (L' := [(9, (.pointer (some (blk b14))))]) ⟨rfl, trivial⟩
    obtain hc40 := h41 none none (some b66) (some b72) w35 hr
    refine s_load (v := (.i l39)) H rfl rfl one_3 hc40 (lt_ rfl) fun a H => c_nil ⟨rfl, rfl, H.weaken (L' := [(20, (.i l39))]) ⟨rfl, trivial⟩⟩
   ·refine Ans.mk rfl rfl fun a H => ?_
    replace H := H.weaken (L' := [(1, (.pointer (some (blk b3))))]) ⟨rfl, trivial⟩
    obtain hc43 := h44 (some b66) (some b72) w35 hr
    refine s_load (v := l42.v) H rfl rfl one_22 hc43 (lt_ rfl) fun a H => c_nil ⟨rfl, rfl, H.weaken (L' := [(21, l42.v)]) ⟨rfl, trivial⟩⟩
   ·refine Ans.mk rfl rfl fun a H => ?_
    replace H := H.weaken (L' := [(9, (.pointer (some (blk b14))))]) ⟨rfl, trivial⟩
    obtain hc46 := h47 (some b66) (some b72) w35 hr
    refine s_load (v := (.i l45)) H rfl rfl one_3 hc46 (lt_ rfl) fun a H => c_nil ⟨rfl, rfl, H.weaken (L' := [(22, (.i l45))]) ⟨rfl, trivial⟩⟩
   ·refine Ans.mk rfl rfl fun a H => ?_
    replace H := H.weaken (L' := [(22, (.i l45))]) ⟨rfl, trivial⟩
    refine s_bin H rfl rfl rfl r_sub (lt_ rfl) fun a H => c_nil ⟨rfl, rfl, H.weaken (L' := [(23, (.i (wr .i64 (l45 - 4))))]) ⟨rfl, trivial⟩⟩
   ·refine Ans.mk rfl rfl fun a H => ?_
    replace H := H.weaken (L' := [(9, (.pointer (some (blk b14))))]) ⟨rfl, trivial⟩
    obtain hc49 := h50 (some b66) (some b72) w35 hr
    refine s_load (v := (.i l48)) H rfl rfl one_3 hc49 (lt_ rfl) fun a H => c_nil ⟨rfl, rfl, H.weaken (L' := [(24, (.i l48))]) ⟨rfl, trivial⟩⟩
   ·refine Ans.mk rfl rfl fun a H => ?_
    replace H := H.weaken (L' := [(21, l42.v), (23, (.i (wr .i64 (l45 - 4)))), (24, (.i l48))]) ⟨rfl, rfl, rfl, trivial⟩
    refine s_slice (v := (Slc.v (l42.cut 1 (Int.toNat (wr .i64 (l45 - 4))) (Int.toNat (l48))))) H rfl rfl ⟨rfl, rfl⟩ ⟨rfl, rfl⟩ ⟨rfl, rfl⟩ (r_sliceSlc (lo := (some (.i64, wr .i64 (l45 - 4)))) (hi := (some (.i64, l48))) slc_22 rfl rfl h51 h52 h53) (lt_ rfl) fun a H => c_nil ⟨rfl, rfl, H.weaken (L' := [(25, (Slc.v (l42.cut 1 (Int.toNat (wr .i64 (l45 - 4))) (Int.toNat (l48)))))]) ⟨rfl, trivial⟩⟩
   ·refine ⟨_, rfl, fun a H => ?_⟩
    replace H := H.weaken (L' := [(25, (Slc.v (l42.cut 1 (Int.toNat (wr .i64 (l45 - 4))) (Int.toNat (l48)))))]) ⟨rfl, trivial⟩
    have h := h133 (some b66) (some b72) w35 hr
    refine s_call H rfl body_8 (H.args (vs := [(Slc.v (l42.cut 1 (Int.toNat (wr .i64 (l45 - 4))) (Int.toNat (l48))))]) rfl) (lt_ rfl) h ?_ (fun c w' h H => e_panic (P := PP) (fn := Tryz.f30) H h)
    clear H h a
    rintro _ w57 a ⟨C58, rfl, h⟩ H
    refine c_nil <| effQ.ok (v := C58.v) (H.weaken (L' := [(26, C58.v)]) ⟨rfl, trivial⟩) ⟨[(0, l36.v), (1, (.i l39)), (2, l42.v), (3, (.i l45)), (4, (.i (wr .i64 (l45 - 4)))), (5, (.i l48)), (6, (Slc.v (l42.cut 1 (Int.toNat (wr .i64 (l45 - 4))) (Int.toNat (l48))))), (7, C58.v), (8, (.agg #[C58.v, (.i 0)])), (10, (.i l54)), (11, (Slc.v (Slc.mk (some (blk b66)) 1 1))), (14, (.pointer (some (blk b72))))], ⟨rfl, rfl, rfl, rfl, rfl, rfl, rfl, rfl, rfl, rfl, rfl, trivial⟩, ?_⟩
    have hx := st_7_11_14 C58 b66 b72 w57 h
    rw [h140] at hx
    exact hx
  have st_7 : ∀ (C58 : Slc) (w35 : World), R34 (some C58) none none none none none w35 → F142 5 [7] [(0, l36.v), (1, (.i l39)), (2, l42.v), (3, (.i l45)), (4, (.i (wr .i64 (l45 - 4)))), (5, (.i l48)), (6, (Slc.v (l42.cut 1 (Int.toNat (wr .i64 (l45 - 4))) (Int.toNat (l48))))), (7, C58.v), (8, (.agg #[C58.v, (.i 0)])), (10, (.i l54))] w35 := by
   intro C58 w35 hr
   rw [h140]
   refine StT.more [0, 1, 8, 10] [9, 11, 14] (by kernel_rfl) (by kernel_rfl) (by kernel_rfl) (.cons ?_ (.cons ?_ (.cons ?_ (.cons ?_ .nil)))) (.cons ?_ (.cons ?_ (.cons ?_ .nil)))
   ·refine Ans.mk rfl rfl fun a H => ?_
    replace H := H.weaken (L' := [(1, (.pointer (some (blk b3))))]) ⟨rfl, trivial⟩
    obtain hc37 := h38 (some C58) none none none w35 hr
    refine s_load (v := l36.v) H rfl rfl one_22 hc37 (lt_ rfl) fun a H => c_nil ⟨rfl, rfl, H.weaken (L' := [(19, l36.v)]) ⟨rfl, trivial⟩⟩
   ·refine Ans.mk rfl rfl fun a H => ?_
    replace H := H.weaken (L' := [(9, (.pointer (some (blk b14))))]) ⟨rfl, trivial⟩
    obtain hc40 := h41 (some C58) none none none w35 hr
    refine s_load (v := (.i l39)) H rfl rfl one_3 hc40 (lt_ rfl) fun a H => c_nil ⟨rfl, rfl, H.weaken (L' := [(20, (.i l39))]) ⟨rfl, trivial⟩⟩
   ·refine Ans.mk rfl rfl fun a H => ?_
    replace H := H.weaken (L' := [(26, C58.v)]) ⟨rfl, trivial⟩
    refine s_build H rfl (by rw [H.parts (vs := [(0, C58.v)]) rfl]; exact bd_42_s0 w35 C58) (lt_ rfl) fun a H => c_nil ⟨rfl, rfl, H.weaken (L' := [(27, (.agg #[C58.v, (.i 0)]))]) ⟨rfl, trivial⟩⟩
   ·refine Ans.mk rfl rfl fun a H => ?_
    replace H := H.weaken (L' := [(9, (.pointer (some (blk b14))))]) ⟨rfl, trivial⟩
    obtain hc55 := h56 (some C58) none none w35 hr
    refine s_load (v := (.i l54)) H rfl rfl one_3 hc55 (lt_ rfl) fun a H => c_nil ⟨rfl, rfl, H.weaken (L' := [(29, (.i l54))]) ⟨rfl, trivial⟩⟩
   ·refine ⟨_, rfl, fun a H => ?_⟩
    replace H := H.weaken (L' := [(27, (.agg #[C58.v, (.i 0)]))]) ⟨rfl, trivial⟩
    have h := h134 C58 none none w35 hr
    replace h := h.get
    obtain ⟨b63, w64, n65, h⟩ := h
    refine s_box H rfl rfl (lt_ rfl) ?_
    rw [← n65.at_]
    clear H a
    intro a H
    refine n65.go <| c_nil <| effQ.ok (v := (.pointer (some (blk b63)))) (H.weaken (L' := [(28, (.pointer (some (blk b63))))]) ⟨rfl, trivial⟩) ⟨[(0, l36.v), (1, (.i l39)), (2, l42.v), (3, (.i l45)), (4, (.i (wr .i64 (l45 - 4)))), (5, (.i l48)), (6, (Slc.v (l42.cut 1 (Int.toNat (wr .i64 (l45 - 4))) (Int.toNat (l48))))), (7, C58.v), (8, (.agg #[C58.v, (.i 0)])), (9, (.pointer (some (blk b63)))), (10, (.i l54))], ⟨rfl, rfl, rfl, rfl, rfl, rfl, rfl, rfl, rfl, rfl, rfl, trivial⟩, ?_⟩
    have hx := st_7_9 C58 b63 w64 h
    rw [h140] at hx
    exact hx
   ·refine ⟨_, rfl, fun a H => ?_⟩
    replace H := H.weaken (L' := [(29, (.i l54))]) ⟨rfl, trivial⟩
    have h := h135 (some C58) none none w35 hr
    replace h := h.get
    obtain ⟨b66, w67, n68, h⟩ := h
    refine s_bslc H rfl (by rw [H.parts (vs := [(0, (.i l54))]) rfl]; exact bs_44_1_ii640 w35 l54) (lt_ rfl) ?_
    rw [← n68.at_]
    clear H a
    intro a H
    refine n68.go <| c_nil ?_
    refine effQ.ok (v := (Slc.v (Slc.mk (some (blk b66)) 1 1))) (H.weaken (L' := [(30, (Slc.v (Slc.mk (some (blk b66)) 1 1)))]) ⟨rfl, trivial⟩) ⟨[(0, l36.v), (1, (.i l39)), (2, l42.v), (3, (.i l45)), (4, (.i (wr .i64 (l45 - 4)))), (5, (.i l48)), (6, (Slc.v (l42.cut 1 (Int.toNat (wr .i64 (l45 - 4))) (Int.toNat (l48))))), (7, C58.v), (8, (.agg #[C58.v, (.i 0)])), (10, (.i l54)), (11, (Slc.v (Slc.mk (some (blk b66)) 1 1)))], ⟨rfl, rfl, rfl, rfl, rfl, rfl, rfl, rfl, rfl, rfl, rfl, trivial⟩, ?_⟩
    have hx := st_7_11 C58 b66 w67 h
    rw [h140] at hx
    exact hx
   ·refine ⟨_, rfl, fun a H => ?_⟩
    replace H := H.weaken (L' := []) trivial
    have h := h137 (some C58) none none none w35 hr
    replace h := h.get
    obtain ⟨b72, w73, n74, h⟩ := h
    refine s_alloc H rfl zero_104 (lt_ rfl) ?_
    rw [← n74.at_]
    clear H a
    intro a H
    refine n74.go <| c_nil <| effQ.ok (v := (.pointer (some (blk b72)))) (H.weaken (L' := [(11, (.pointer (some (blk b72))))]) ⟨rfl, trivial⟩) ⟨[(0, l36.v), (1, (.i l39)), (2, l42.v), (3, (.i l45)), (4, (.i (wr .i64 (l45 - 4)))), (5, (.i l48)), (6, (Slc.v (l42.cut 1 (Int.toNat (wr .i64 (l45 - 4))) (Int.toNat (l48))))), (7, C58.v), (8, (.agg #[C58.v, (.i 0)])), (10, (.i l54)), (14, (.pointer (some (blk b72))))], ⟨rfl, rfl, rfl, rfl, rfl, rfl, rfl, rfl, rfl, rfl, rfl, trivial⟩, ?_⟩
    have hx := st_7_14 C58 b72 w73 h
    rw [h140] at hx
    exact hx
  have st_11 : ∀ (b66 : Nat) (w35 : World), R34 none none (some b66) none none none w35 → F142 5 [11] [(0, l36.v), (1, (.i l39)), (2, l42.v), (3, (.i l45)), (4, (.i (wr .i64 (l45 - 4)))), (5, (.i l48)), (6, (Slc.v (l42.cut 1 (Int.toNat (wr .i64 (l45 - 4))) (Int.toNat (l48))))), (10, (.i l54)), (11, (Slc.v (Slc.mk (some (blk b66)) 1 1)))] w35 := by
   intro b66 w35 hr
   rw [h140]
   refine StT.more [0, 1, 2, 3, 4, 5, 6] [7, 14] (by kernel_rfl) (by kernel_rfl) (by kernel_rfl) (.cons ?_ (.cons ?_ (.cons ?_ (.cons ?_ (.cons ?_ (.cons ?_ (.cons ?_ .nil))))))) (.cons ?_ (.cons ?_ .nil))
   ·refine Ans.mk rfl rfl fun a H => ?_
    replace H := H.weaken (L' := [(1, (.pointer (some (blk b3))))]) ⟨rfl, trivial⟩
    obtain hc37 := h38 none none (some b66) none w35 hr
    refine s_load (v := l36.v) H rfl rfl one_22 hc37 (lt_ rfl) fun a H => c_nil ⟨rfl, rfl, H.weaken (L' := [(19, l36.v)]) ⟨rfl, trivial⟩⟩
   ·refine Ans.mk rfl rfl fun a H => ?_
    replace H := H.weaken (L' := [(9, (.pointer (some (blk b14))))]) ⟨rfl, trivial⟩
    obtain hc40 := h41 none none (some b66) none w35 hr
    refine s_load (v := (.i l39)) H rfl rfl one_3 hc40 (lt_ rfl) fun a H => c_nil ⟨rfl, rfl, H.weaken (L' := [(20, (.i l39))]) ⟨rfl, trivial⟩⟩
   ·refine Ans.mk rfl rfl fun a H => ?_
    replace H := H.weaken (L' := [(1, (.pointer (some (blk b3))))]) ⟨rfl, trivial⟩
    obtain hc43 := h44 (some b66) none w35 hr
    refine s_load (v := l42.v) H rfl rfl one_22 hc43 (lt_ rfl) fun a H => c_nil ⟨rfl, rfl, H.weaken (L' := [(21, l42.v)]) ⟨rfl, trivial⟩⟩
   ·refine Ans.mk rfl rfl fun a H => ?_
    replace H := H.weaken (L' := [(9, (.pointer (some (blk b14))))]) ⟨rfl, trivial⟩
    obtain hc46 := h47 (some b66) none w35 hr
    refine s_load (v := (.i l45)) H rfl rfl one_3 hc46 (lt_ rfl) fun a H => c_nil ⟨rfl, rfl, H.weaken (L' := [(22, (.i l45))]) ⟨rfl, trivial⟩⟩
   ·refine Ans.mk rfl rfl fun a H => ?_
    replace H := H.weaken (L' := [(22, (.i l45))]) ⟨rfl, trivial⟩
    refine s_bin H rfl rfl rfl r_sub (lt_ rfl) fun a H => c_nil ⟨rfl, rfl, H.weaken (L' := [(23, (.i (wr .i64 (l45 - 4))))]) ⟨rfl, trivial⟩⟩
   ·refine Ans.mk rfl rfl fun a H => ?_
    replace H := H.weaken (L' := [(9, (.pointer (some (blk b14))))]) ⟨rfl, trivial⟩
    obtain hc49 := h50 (some b66) none w35 hr
    refine s_load (v := (.i l48)) H rfl rfl one_3 hc49 (lt_ rfl) fun a H => c_nil ⟨rfl, rfl, H.weaken (L' := [(24, (.i l48))]) ⟨rfl, trivial⟩⟩
   ·refine Ans.mk rfl rfl fun a H => ?_
    replace H := H.weaken (L' := [(21, l42.v), (23, (.i (wr .i64 (l45 - 4)))), (24, (.i l48))]) ⟨rfl, rfl, rfl, trivial⟩
    refine s_slice (v := (Slc.v (l42.cut 1 (Int.toNat (wr .i64 (l45 - 4))) (Int.toNat (l48))))) H rfl rfl ⟨rfl, rfl⟩ ⟨rfl, rfl⟩ ⟨rfl, rfl⟩ (r_sliceSlc (lo := (some (.i64, wr .i64 (l45 - 4)))) (hi := (some (.i64, l48))) slc_22 rfl rfl h51 h52 h53) (lt_ rfl) fun a H => c_nil ⟨rfl, rfl, H.weaken (L' := [(25, (Slc.v (l42.cut 1 (Int.toNat (wr .i64 (l45 - 4))) (Int.toNat (l48)))))]) ⟨rfl, trivial⟩⟩
   ·refine ⟨_, rfl, fun a H => ?_⟩
    replace H := H.weaken (L' := [(25, (Slc.v (l42.cut 1 (Int.toNat (wr .i64 (l45 - 4))) (Int.toNat (l48)))))]) ⟨rfl, trivial⟩
    have h := h133 (some b66) none w35 hr
    refine s_call H rfl body_8 (H.args (vs := [(Slc.v (l42.cut 1 (Int.toNat (wr .i64 (l45 - 4))) (Int.toNat (l48))))]) rfl) (lt_ rfl) h ?_ (fun c w' h H => e_panic (P := PP) (fn := Tryz.f30) H h)
    clear H h a
    rintro _ w57 a ⟨C58, rfl, h⟩ H
    refine c_nil <| effQ.ok (v := C58.v) (H.weaken (L' := [(26, C58.v)]) ⟨rfl, trivial⟩) ⟨[(0, l36.v), (1, (.i l39)), (2, l42.v), (3, (.i l45)), (4, (.i (wr .i64 (l45 - 4)))), (5, (.i l48)), (6, (Slc.v (l42.cut 1 (Int.toNat (wr .i64 (l45 - 4))) (Int.toNat (l48))))), (7, C58.v), (8, (.agg #[C58.v, (.i 0)])), (10, (.i l54)), (11, (Slc.v (Slc.mk (some (blk b66)) 1 1)))], ⟨rfl, rfl, rfl, rfl, rfl, rfl, rfl, rfl, rfl, rfl, trivial⟩, ?_⟩
    have hx := st_7_11 C58 b66 w57 h
    rw [h140] at hx
    exact hx
   ·refine ⟨_, rfl, fun a H => ?_⟩
    replace H := H.weaken (L' := []) trivial
    have h := h137 none none (some b66) none w35 hr
    replace h := h.get
    obtain ⟨b72, w73, n74, h⟩ := h
    refine s_alloc H rfl zero_104 (lt_ rfl) ?_
    rw [← n74.at_]
    clear H a
    intro a H
    refine n74.go <| c_nil <| effQ.ok (v := (.pointer (some (blk b72)))) (H.weaken (L' := [(11, (.pointer (some (blk b72))))]) ⟨rfl, trivial⟩) ⟨[(0, l36.v), (1, (.i l39)), (2, l42.v), (3, (.i l45)), (4, (.i (wr .i64 (l45 - 4)))), (5, (.i l48)), (6, (Slc.v (l42.cut 1 (Int.toNat (wr .i64 (l45 - 4))) (Int.toNat (l48))))), (10, (.i l54)), (11, (Slc.v (Slc.mk (some (blk b66)) 1 1))), (14, (.pointer (some (blk b72))))], ⟨rfl, rfl, rfl, rfl, rfl, rfl, rfl, rfl, rfl, rfl, trivial⟩, ?_⟩
    have hx := st_11_14 b66 b72 w73 h
    rw [h140] at hx
    exact hx
  have st_14 : ∀ (b72 : Nat) (w35 : World), R34 none none none none (some b72) none w35 → F142 5 [14] [(0, l36.v), (1, (.i l39)), (2, l42.v), (3, (.i l45)), (4, (.i (wr .i64 (l45 - 4)))), (5, (.i l48)), (6, (Slc.v (l42.cut 1 (Int.toNat (wr .i64 (l45 - 4))) (Int.toNat (l48))))), (10, (.i l54)), (14, (.pointer (some (blk b72))))] w35 := by
   intro b72 w35 hr
   rw [h140]
   refine StT.more [0, 1, 2, 3, 4, 5, 6, 10] [7, 11] (by kernel_rfl) (by kernel_rfl) (by kernel_rfl) (.cons ?_ (.cons ?_ (.cons ?_ (.cons ?_ (.cons ?_ (.cons ?_ (.cons ?_ (.cons ?_ .nil)))))))) (.cons ?_ (.cons ?_ .nil))
   ·refine Ans.mk rfl rfl fun a H => ?_
    replace H := H.weaken (L' := [(1, (.pointer (some (blk b3))))]) ⟨rfl, trivial⟩
    obtain hc37 := h38 none none none (some b72) w35 hr
    refine s_load (v := l36.v) H rfl rfl one_22 hc37 (lt_ rfl) fun a H => c_nil ⟨rfl, rfl, H.weaken (L' := [(19, l36.v)]) ⟨rfl, trivial⟩⟩
   ·refine Ans.mk rfl rfl fun a H => ?_
    replace H := H.weaken (L' := [(9, (.pointer (some (blk b14))))]) ⟨rfl, trivial⟩
    obtain hc40 := h41 none none none (some b72) w35 hr
    refine s_load (v := (.i l39)) H rfl rfl one_3 hc40 (lt_ rfl) fun a H => c_nil ⟨rfl, rfl, H.weaken (L' := [(20, (.i l39))]) ⟨rfl, trivial⟩⟩
   ·refine Ans.mk rfl rfl fun a H => ?_
    replace H := H.weaken (L' := [(1, (.pointer (some (blk b3))))]) ⟨rfl, trivial⟩
    obtain hc43 := h44 none (some b72) w35 hr
    refine s_load (v := l42.v) H rfl rfl one_22 hc43 (lt_ rfl) fun a H => c_nil ⟨rfl, rfl, H.weaken (L' := [(21, l42.v)]) ⟨rfl, trivial⟩⟩
   ·refine Ans.mk rfl rfl fun a H => ?_
    replace H := H.weaken (L' := [(9, (.pointer (some (blk b14))))]) ⟨rfl, trivial⟩
    obtain hc46 := h47 none (some b72) w35 hr
    refine s_load (v := (.i l45)) H rfl rfl one_3 hc46 (lt_ rfl) fun a H => c_nil ⟨rfl, rfl, H.weaken (L' := [(22, (.i l45))]) ⟨rfl, trivial⟩⟩
   ·refine Ans.mk rfl rfl fun a H => ?_
    replace H := H.weaken (L' := [(22, (.i l45))]) ⟨rfl, trivial⟩
    refine s_bin H rfl rfl rfl r_sub (lt_ rfl) fun a H => c_nil ⟨rfl, rfl, H.weaken (L' := [(23, (.i (wr .i64 (l45 - 4))))]) ⟨rfl, trivial⟩⟩
   ·refine Ans.mk rfl rfl fun a H => ?_
    replace H := H.weaken (L' := [(9, (.pointer (some (blk b14))))]) ⟨rfl, trivial⟩
    obtain hc49 := h50 none (some b72) w35 hr
    refine s_load (v := (.i l48)) H rfl rfl one_3 hc49 (lt_ rfl) fun a H => c_nil ⟨rfl, rfl, H.weaken (L' := [(24, (.i l48))]) ⟨rfl, trivial⟩⟩
   ·refine Ans.mk rfl rfl fun a H => ?_
    replace H := H.weaken (L' := [(21, l42.v), (23, (.i (wr .i64 (l45 - 4)))), (24, (.i l48))]) ⟨rfl, rfl, rfl, trivial⟩
    refine s_slice (v := (Slc.v (l42.cut 1 (Int.toNat (wr .i64 (l45 - 4))) (Int.toNat (l48))))) H rfl rfl ⟨rfl, rfl⟩ ⟨rfl, rfl⟩ ⟨rfl, rfl⟩ (r_sliceSlc (lo := (some (.i64, wr .i64 (l45 - 4)))) (hi := (some (.i64, l48))) slc_22 rfl rfl h51 h52 h53) (lt_ rfl) fun a H => c_nil ⟨rfl, rfl, H.weaken (L' := [(25, (Slc.v (l42.cut 1 (Int.toNat (wr .i64 (l45 - 4))) (Int.toNat (l48)))))]) ⟨rfl, trivial⟩⟩
   ·refine Ans.mk rfl rfl fun a H => ?_
    replace H := H.weaken (L' := [(9, (.pointer (some (blk b14))))]) ⟨rfl, trivial⟩
    obtain hc55 := h56 none none (some b72) w35 hr
    refine s_load (v := (.i l54)) H rfl rfl one_3 hc55 (lt_ rfl) fun a H => c_nil ⟨rfl, rfl, H.weaken (L' := [(29, (.i l54))]) ⟨rfl, trivial⟩⟩
   ·refine ⟨_, rfl, fun a H => ?_⟩
    replace H := H.weaken (L' := [(25, (Slc.v (l42.cut 1 (Int.toNat (wr .i64 (l45 - 4))) (Int.toNat (l48)))))]) ⟨rfl, trivial⟩
    have h := h133 none (some b72) w35 hr
    refine s_call H rfl body_8 (H.args (vs := [(Slc.v (l42.cut 1 (Int.toNat (wr .i64 (l45 - 4))) (Int.toNat (l48))))]) rfl) (lt_ rfl) h ?_ (fun c w' h H => e_panic (P := PP) (fn := Tryz.f30) H h)
    clear H h a
    rintro _ w57 a ⟨C58, rfl, h⟩ H
    refine c_nil <| effQ.ok (v := C58.v) (H.weaken (L' := [(26, C58.v)]) ⟨rfl, trivial⟩) ⟨[(0, l36.v), (1, (.i l39)), (2, l42.v), (3, (.i l45)), (4, (.i (wr .i64 (l45 - 4)))), (5, (.i l48)), (6, (Slc.v (l42.cut 1 (Int.toNat (wr .i64 (l45 - 4))) (Int.toNat (l48))))), (7, C58.v), (8, (.agg #[C58.v, (.i 0)])), (10, (.i l54)), (14, (.pointer (some (blk b72))))], ⟨rfl, rfl, rfl, rfl, rfl, rfl, rfl, rfl, rfl, rfl, trivial⟩, ?_⟩
    have hx := st_7_14 C58 b72 w57 h
    rw [h140] at hx
    exact hx
   ·refine ⟨_, rfl, fun a H => ?_⟩
    replace H := H.weaken (L' := [(29, (.i l54))]) ⟨rfl, trivial⟩
    have h := h135 none none (some b72) w35 hr
    replace h := h.get
    obtain ⟨b66, w67, n68, h⟩ := h
    refine s_bslc H rfl (by rw [H.parts (vs := [(0, (.i l54))]) rfl]; exact bs_44_1_ii640 w35 l54) (lt_ rfl) ?_
    rw [← n68.at_]
    clear H a
    intro a H
    refine n68.go <| c_nil ?_
    refine effQ.ok (v := (Slc.v (Slc.mk (some (blk b66)) 1 1))) (H.weaken (L' := [(30, (Slc.v (Slc.mk (some (blk b66)) 1 1)))]) ⟨rfl, trivial⟩) ⟨[(0, l36.v), (1, (.i l39)), (2, l42.v), (3, (.i l45)), (4, (.i (wr .i64 (l45 - 4)))), (5, (.i l48)), (6, (Slc.v (l42.cut 1 (Int.toNat (wr .i64 (l45 - 4))) (Int.toNat (l48))))), (10, (.i l54)), (11, (Slc.v (Slc.mk (some (blk b66)) 1 1))), (14, (.pointer (some (blk b72))))], ⟨rfl, rfl, rfl, rfl, rfl, rfl, rfl, rfl, rfl, rfl, trivial⟩, ?_⟩
    have hx := st_11_14 b66 b72 w67 h
    rw [h140] at hx
    exact hx
  have st_ : ∀ (w35 : World), R34 none none none none none none w35 → F142 6 [] [(0, l36.v), (1, (.i l39)), (2, l42.v), (3, (.i l45)), (4, (.i (wr .i64 (l45 - 4)))), (5, (.i l48)), (6, (Slc.v (l42.cut 1 (Int.toNat (wr .i64 (l45 - 4))) (Int.toNat (l48))))), (10, (.i l54))] w35 := by
   intro w35 hr
   rw [h140]
   refine StT.more [0, 1, 2, 3, 4, 5, 6, 10] [7, 11, 14] (by kernel_rfl) (by kernel_rfl) (by kernel_rfl) (.cons ?_ (.cons ?_ (.cons ?_ (.cons ?_ (.cons ?_ (.cons ?_ (.cons ?_ (.cons ?_ .nil)))))))) (.cons ?_ (.cons ?_ (.cons ?_ .nil)))
   ·refine Ans.mk rfl rfl fun a H => ?_
    replace H := H.weaken (L' := [(1, (.pointer (some (blk b3))))]) ⟨rfl, trivial⟩
    obtain hc37 := h38 none none none none w35 hr
    refine s_load (v := l36.v) H rfl rfl one_22 hc37 (lt_ rfl) fun a H => c_nil ⟨rfl, rfl, H.weaken (L' := [(19, l36.v)]) ⟨rfl, trivial⟩⟩
   ·refine Ans.mk rfl rfl fun a H => ?_
    replace H := H.weaken (L' := [(9, (.pointer (some (blk b14))))]) ⟨rfl, trivial⟩
    obtain hc40 := h41 none none none none w35 hr
    refine s_load (v := (.i l39)) H rfl rfl one_3 hc40 (lt_ rfl) fun a H => c_nil ⟨rfl, rfl, H.weaken (L' := [(20, (.i l39))]) ⟨rfl, trivial⟩⟩
   ·refine Ans.mk rfl rfl fun a H => ?_
    replace H := H.weaken (L' := [(1, (.pointer (some (blk b3))))]) ⟨rfl, trivial⟩
    obtain hc43 := h44 none none w35 hr
    refine s_load (v := l42.v) H rfl rfl one_22 hc43 (lt_ rfl) fun a H => c_nil ⟨rfl, rfl, H.weaken (L' := [(21, l42.v)]) ⟨rfl, trivial⟩⟩
   ·refine Ans.mk rfl rfl fun a H => ?_
    replace H := H.weaken (L' := [(9, (.pointer (some (blk b14))))]) ⟨rfl, trivial⟩
    obtain hc46 := h47 none none w35 hr
    refine s_load (v := (.i l45)) H rfl rfl one_3 hc46 (lt_ rfl) fun a H => c_nil ⟨rfl, rfl, H.weaken (L' := [(22, (.i l45))]) ⟨rfl, trivial⟩⟩
   ·refine Ans.mk rfl rfl fun a H => ?_
    replace H := H.weaken (L' := [(22, (.i l45))]) ⟨rfl, trivial⟩
    refine s_bin H rfl rfl rfl r_sub (lt_ rfl) fun a H => c_nil ⟨rfl, rfl, H.weaken (L' := [(23, (.i (wr .i64 (l45 - 4))))]) ⟨rfl, trivial⟩⟩
   ·refine Ans.mk rfl rfl fun a H => ?_
    replace H := H.weaken (L' := [(9, (.pointer (some (blk b14))))]) ⟨rfl, trivial⟩
    obtain hc49 := h50 none none w35 hr
    refine s_load (v := (.i l48)) H rfl rfl one_3 hc49 (lt_ rfl) fun a H => c_nil ⟨rfl, rfl, H.weaken (L' := [(24, (.i l48))]) ⟨rfl, trivial⟩⟩
   ·refine Ans.mk rfl rfl fun a H => ?_
    replace H := H.weaken (L' := [(21, l42.v), (23, (.i (wr .i64 (l45 - 4)))), (24, (.i l48))]) ⟨rfl, rfl, rfl, trivial⟩
    refine s_slice (v := (Slc.v (l42.cut 1 (Int.toNat (wr .i64 (l45 - 4))) (Int.toNat (l48))))) H rfl rfl ⟨rfl, rfl⟩ ⟨rfl, rfl⟩ ⟨rfl, rfl⟩ (r_sliceSlc (lo := (some (.i64, wr .i64 (l45 - 4)))) (hi := (some (.i64, l48))) slc_22 rfl rfl h51 h52 h53) (lt_ rfl) fun a H => c_nil ⟨rfl, rfl, H.weaken (L' := [(25, (Slc.v (l42.cut 1 (Int.toNat (wr .i64 (l45 - 4))) (Int.toNat (l48)))))]) ⟨rfl, trivial⟩⟩
   ·refine Ans.mk rfl rfl fun a H => ?_
    replace H := H.weaken (L' := [(9, (.pointer (some (blk b14))))]) ⟨rfl, trivial⟩
    obtain hc55 := h56 none none none w35 hr
    refine s_load (v := (.i l54)) H rfl rfl one_3 hc55 (lt_ rfl) fun a H => c_nil ⟨rfl, rfl, H.weaken (L' := [(29, (.i l54))]) ⟨rfl, trivial⟩⟩
   ·refine ⟨_, rfl, fun a H => ?_⟩
    replace H := H.weaken (L' := [(25, (Slc.v (l42.cut 1 (Int.toNat (wr .i64 (l45 - 4))) (Int.toNat (l48)))))]) ⟨rfl, trivial⟩
    have h := h133 none none w35 hr
    refine s_call H rfl body_8 (H.args (vs := [(Slc.v (l42.cut 1 (Int.toNat (wr .i64 (l45 - 4))) (Int.toNat (l48))))]) rfl) (lt_ rfl) h ?_ (fun c w' h H => e_panic (P := PP) (fn := Tryz.f30) H h)
    clear H h a
    rintro _ w57 a ⟨C58, rfl, h⟩ H
    refine c_nil <| effQ.ok (v := C58.v) (H.weaken (L' := [(26, C58.v)]) ⟨rfl, trivial⟩) ⟨[(0, l36.v), (1, (.i l39)), (2, l42.v), (3, (.i l45)), (4, (.i (wr .i64 (l45 - 4)))), (5, (.i l48)), (6, (Slc.v (l42.cut 1 (Int.toNat (wr .i64 (l45 - 4))) (Int.toNat (l48))))), (7, C58.v), (8, (.agg #[C58.v, (.i 0)])), (10, (.i l54))], ⟨rfl, rfl, rfl, rfl, rfl, rfl, rfl, rfl, rfl, trivial⟩, ?_⟩
    have hx := st_7 C58 w57 h
    rw [h140] at hx
    exact hx
   ·refine ⟨_, rfl, fun a H => ?_⟩
    replace H := H.weaken (L' := [(29, (.i l54))]) ⟨rfl, trivial⟩
    have h := h135 none none none w35 hr
    replace h := h.get
    obtain ⟨b66, w67, n68, h⟩ := h
    refine s_bslc H rfl (by rw [H.parts (vs := [(0, (.i l54))]) rfl]; exact bs_44_1_ii640 w35 l54) (lt_ rfl) ?_
    rw [← n68.at_]
    clear H a
    intro a H
    refine n68.go <| c_nil <| effQ.ok (v := (Slc.v (Slc.mk (some (blk b66)) 1 1))) (H.weaken (L' := [(30, (Slc.v (Slc.mk (some (blk b66)) 1 1)))]) ⟨rfl, trivial⟩) ⟨[(0, l36.v), (1, (.i l39)), (2, l42.v), (3, (.i l45)), (4, (.i (wr .i64 (l45 - 4)))), (5, (.i l48)), (6, (Slc.v (l42.cut 1 (Int.toNat (wr .i64 (l45 - 4))) (Int.toNat (l48))))), (10, (.i l54)), (11, (Slc.v (Slc.mk (some (blk b66)) 1 1)))], ⟨rfl, rfl, rfl, rfl, rfl, rfl, rfl, rfl, rfl, trivial⟩, ?_⟩
    have hx := st_11 b66 w67 h
    rw [h140] at hx
    exact hx
   ·refine ⟨_, rfl, fun a H => ?_⟩
    replace H := H.weaken (L' := []) trivial
    have h := h137 none none none none w35 hr
    replace h := h.get
    obtain ⟨b72, w73, n74, h⟩ := h
    refine s_alloc H rfl zero_104 (lt_ rfl) ?_
    rw [← n74.at_]
    clear H a
    intro a H
    refine n74.go <| c_nil <| effQ.ok (v := (.pointer (some (blk b72)))) (H.weaken (L' := [(11, (.pointer (some (blk b72))))]) ⟨rfl, trivial⟩) ⟨[(0, l36.v), (1, (.i l39)), (2, l42.v), (3, (.i l45)), (4, (.i (wr .i64 (l45 - 4)))), (5, (.i l48)), (6, (Slc.v (l42.cut 1 (Int.toNat (wr .i64 (l45 - 4))) (Int.toNat (l48))))), (10, (.i l54)), (14, (.pointer (some (blk b72))))], ⟨rfl, rfl, rfl, rfl, rfl, rfl, rfl, rfl, rfl, trivial⟩, ?_⟩
    have hx := st_14 b72 w73 h
    rw [h140] at hx
    exact hx
  exact st_ _ h141

theorem sim_sherdlaw11_updates (a1 b2 : Slc) (w : World) (Q : Ending → World → Prop) (h : vc_sherdlaw11_updates a1 b2 w Q) : Calls PP F_sherdlaw11_updates #[a1.v, b2.v] w Q := by
 unfold vc_sherdlaw11_updates at h
 refine enter (n := 27) Tryz.func31 rfl rfl (Nat.le_of_ble_eq_true rfl) fun a H => c_seq fun K3 hK3 => c_reg <| s_assign H rfl rfl (lt_ rfl) fun a H => c_nil <| hK3 _ _ <| c_seq fun K4 hK4 => c_seq fun K5 hK5 => c_reg <| s_move H rfl rfl (lt_ rfl) fun a H => s_blt H rfl (H.args (vs := [a1.v]) rfl) (lt_ rfl) (fun cs => b_lenS (z := a1) sl_43) fun a H => s_move H rfl rfl (lt_ rfl) fun a H => s_blt H rfl (H.args (vs := [b2.v]) rfl) (lt_ rfl) (fun cs => b_lenS (z := b2) sl_43) fun a H => ?_
 refine s_bin H rfl rfl rfl r_neq (lt_ rfl) fun a H => c_nil <| hK5 _ _ <| c_cond H rfl (fun h6 => ?_) (fun h6 => ?_)
 ·replace h := h.1 h6
  refine c_seq fun K7 hK7 => c_reg <| s_assign H rfl rfl (lt_ rfl) fun a H => c_nil <| hK7 _ _ <| c_ret ?_
  exact e_ret1 H rfl rfl h
 ·replace h := h.2 h6
  refine c_skip <| hK4 _ _ <| c_seq fun K8 hK8 => c_seq fun K9 hK9 => c_reg <| s_assign H rfl rfl (lt_ rfl) fun a H => c_nil <| hK9 _ _ <| c_block ?_
  obtain ⟨I12, m13, h64, h65⟩ := h
  refine c_loop (σ := Int) (fun z w => I12 z w) (fun z w => m13 z w) (fun z => [(0, a1.v), (1, b2.v), (5, (.i z))]) 0 h64 (H.weaken ⟨rfl, rfl, rfl, trivial⟩) ?_
  clear H h64
  rintro i10 a w11 h H
  replace h := h65 i10 w11 h
  clear h65
  replace H : Has 27 [] a [(0, a1.v), (1, b2.v), (5, (.i i10))] := H
  refine c_seq fun K14 hK14 => c_seq fun K15 hK15 => c_reg <| s_move H rfl rfl (lt_ rfl) fun a H => s_move H rfl rfl (lt_ rfl) fun a H => s_blt H rfl (H.args (vs := [a1.v]) rfl) (lt_ rfl) (fun cs => b_lenS (z := a1) sl_43) fun a H => s_bin H rfl rfl rfl r_lss (lt_ rfl) fun a H => c_nil <| hK15 _ _ <| c_cond H rfl (fun h16 => ?_) (fun h16 => ?_)
  ·replace h := h.1 h16
   refine c_skip <| hK14 _ _ <| c_seq fun K17 hK17 => c_block <| c_seq fun K18 hK18 => ?_
   replace H := H.weaken (L' := [(0, a1.v), (1, b2.v), (5, (.i i10))]) ⟨rfl, rfl, rfl, trivial⟩
   obtain ⟨a19, h20, h21, h22, K23, hc24, K25, hc26, C27, hc28, C29, hc30, F31, hc32, H33, hc34, D35, hc36, a37, h38, h39, h40, K41, hc42, K43, hc44, C45, hc46, C47, hc48, F49, hc50, H51, hc52, D53, hc54, h⟩ := h
   refine c_any (V := [(0, a1.v), (1, (.i i10)), (2, (.pointer (some (a19.add (Int.toNat (i10) * 7))))), (3, (.agg #[(.i K23), (.string K25), (.i C27), (.i C29), (.bool F31), (.bool H33), D35.v])), (4, b2.v), (5, (.i i10)), (6, (.pointer (some (a37.add (Int.toNat (i10) * 7))))), (7, (.agg #[(.i K41), (.string K43), (.i C45), (.i C47), (.bool F49), (.bool H51), D53.v]))]) (⟨[[], [], [0, 1], [2], [], [], [4, 5], [6], [3, 7], [8]], [some 17, some 18, some 19, some 20, some 21, some 22, some 23, some 24, some 25, some 26], [8], [0, 0, 0, 0, 0, 0, 0, 0, 0, 1], [0, 0, 0, 0, 0, 0, 0, 0, 1, 1]⟩ : Rg) [(0, a1.v), (1, b2.v), (5, (.i i10))] mixed (by kernel_rfl) H ?_
   refine Stg.eff [0, 1, 2, 3, 4, 5, 6, 7] (by kernel_rfl) rfl (.cons ?_ (.cons ?_ (.cons ?_ (.cons ?_ (.cons ?_ (.cons ?_ (.cons ?_ (.cons ?_ .nil)))))))) ?_
   ·refine Ans.mk rfl rfl fun a H => ?_
    replace H := H.weaken (L' := [(0, a1.v)]) ⟨rfl, trivial⟩
    refine s_move H rfl rfl (lt_ rfl) fun a H => c_nil ⟨rfl, rfl, H.weaken (L' := [(17, a1.v)]) ⟨rfl, trivial⟩⟩
   ·refine Ans.mk rfl rfl fun a H => ?_
    replace H := H.weaken (L' := [(5, (.i i10))]) ⟨rfl, trivial⟩
    refine s_move H rfl rfl (lt_ rfl) fun a H => c_nil ⟨rfl, rfl, H.weaken (L' := [(18, (.i i10))]) ⟨rfl, trivial⟩⟩
   ·refine Ans.mk rfl rfl fun a H => ?_
    replace H := H.weaken (L' := [(17, a1.v), (18, (.i i10))]) ⟨rfl, rfl, trivial⟩
    refine s_idxS (s := a1) H rfl rfl rfl slc_43 h20 h21 h22 (lt_ rfl) fun a H => c_nil ⟨rfl, rfl, H.weaken (L' := [(19, (.pointer (some (a19.add (Int.toNat (i10) * 7)))))]) ⟨rfl, trivial⟩⟩
   ·refine Ans.mk rfl rfl fun a H => ?_
    replace H := H.weaken (L' := [(19, (.pointer (some (a19.add (Int.toNat (i10) * 7)))))]) ⟨rfl, trivial⟩
    refine s_loadN (l := [(.i K23), (.string K25), (.i C27), (.i C29), (.bool F31), (.bool H33), D35.v]) H rfl rfl agg_28 rfl ⟨hc24, hc26, hc28, hc30, hc32, hc34, hc36, trivial⟩ (lt_ rfl) fun a H => c_nil ⟨rfl, rfl, H.weaken (L' := [(20, (.agg #[(.i K23), (.string K25), (.i C27), (.i C29), (.bool F31), (.bool H33), D35.v]))]) ⟨rfl, trivial⟩⟩
   ·refine Ans.mk rfl rfl fun a H => ?_
    replace H := H.weaken (L' := [(1, b2.v)]) ⟨rfl, trivial⟩
    refine s_move H rfl rfl (lt_ rfl) fun a H => c_nil ⟨rfl, rfl, H.weaken (L' := [(21, b2.v)]) ⟨rfl, trivial⟩⟩
   ·refine Ans.mk rfl rfl fun a H => ?_
    replace H := H.weaken (L' := [(5, (.i i10))]) ⟨rfl, trivial⟩
    refine s_move H rfl rfl (lt_ rfl) fun a H => c_nil ⟨rfl, rfl, H.weaken (L' := [(22, (.i i10))]) ⟨rfl, trivial⟩⟩
   ·refine Ans.mk rfl rfl fun a H => ?_
    replace H := H.weaken (L' := [(21, b2.v), (22, (.i i10))]) ⟨rfl, rfl, trivial⟩
    refine s_idxS (s := b2) H rfl rfl rfl slc_43 h38 h39 h40 (lt_ rfl) fun a H => c_nil ⟨rfl, rfl, H.weaken (L' := [(23, (.pointer (some (a37.add (Int.toNat (i10) * 7)))))]) ⟨rfl, trivial⟩⟩
   ·refine Ans.mk rfl rfl fun a H => ?_
    replace H := H.weaken (L' := [(23, (.pointer (some (a37.add (Int.toNat (i10) * 7)))))]) ⟨rfl, trivial⟩
    refine s_loadN (l := [(.i K41), (.string K43), (.i C45), (.i C47), (.bool F49), (.bool H51), D53.v]) H rfl rfl agg_28 rfl ⟨hc42, hc44, hc46, hc48, hc50, hc52, hc54, trivial⟩ (lt_ rfl) fun a H => c_nil ⟨rfl, rfl, H.weaken (L' := [(24, (.agg #[(.i K41), (.string K43), (.i C45), (.i C47), (.bool F49), (.bool H51), D53.v]))]) ⟨rfl, trivial⟩⟩
   ·intro a H
    replace H := H.weaken (L' := [(20, (.agg #[(.i K23), (.string K25), (.i C27), (.i C29), (.bool F31), (.bool H33), D35.v])), (24, (.agg #[(.i K41), (.string K43), (.i C45), (.i C47), (.bool F49), (.bool H51), D53.v]))]) ⟨rfl, rfl, trivial⟩
    refine s_call H rfl body_55 (H.args (vs := [(.agg #[(.i K23), (.string K25), (.i C27), (.i C29), (.bool F31), (.bool H33), D35.v]), (.agg #[(.i K41), (.string K43), (.i C45), (.i C47), (.bool F49), (.bool H51), D53.v])]) rfl) (lt_ rfl) h ?_ (fun c w' h H => e_panic (P := PP) (fn := Tryz.f31) H h)
    clear H h a
    rintro _ w55 a ⟨e56, rfl, h⟩ H
    refine c_nil ?_
    refine effQ.ok (v := (.bool e56)) (H.weaken (L' := [(25, (.bool e56))]) ⟨rfl, trivial⟩) ⟨[(0, a1.v), (1, (.i i10)), (2, (.pointer (some (a19.add (Int.toNat (i10) * 7))))), (3, (.agg #[(.i K23), (.string K25), (.i C27), (.i C29), (.bool F31), (.bool H33), D35.v])), (4, b2.v), (5, (.i i10)), (6, (.pointer (some (a37.add (Int.toNat (i10) * 7))))), (7, (.agg #[(.i K41), (.string K43), (.i C45), (.i C47), (.bool F49), (.bool H51), D53.v])), (8, (.bool e56)), (9, (.bool (!e56)))], ⟨rfl, rfl, rfl, rfl, rfl, rfl, rfl, rfl, rfl, trivial⟩, ?_⟩
    refine Stg.fin [9] (by kernel_rfl) (.cons ?_ .nil) ?_
    ·refine Ans.mk rfl rfl fun a H => ?_
     replace H := H.weaken (L' := [(25, (.bool e56))]) ⟨rfl, trivial⟩
     refine s_un H rfl rfl r_not (lt_ rfl) fun a H => c_nil ⟨rfl, rfl, H.weaken (L' := [(26, (.bool (!e56)))]) ⟨rfl, trivial⟩⟩
    ·intro a H
     replace H := H.weaken (L' := [(0, a1.v), (1, b2.v), (5, (.i i10)), (26, (.bool (!e56)))]) ⟨rfl, rfl, rfl, rfl, trivial⟩
     refine hK18 _ _ <| c_cond H rfl (fun h57 => ?_) (fun h57 => ?_)
     ·replace h := h.1 h57
      refine c_seq fun K58 hK58 => c_reg <| s_assign H rfl rfl (lt_ rfl) fun a H => c_nil <| hK58 _ _ <| c_ret ?_
      exact e_ret1 H rfl rfl h
     ·replace h := h.2 h57
      refine c_skip <| hK17 _ _ <| c_reg <| s_move H rfl rfl (lt_ rfl) fun a H => s_bin H rfl rfl rfl r_add (lt_ rfl) fun a H => s_assign H rfl rfl (lt_ rfl) fun a H => c_nil <| Exists.intro (wr .i64 (i10 + 1)) ⟨h.1, h.2, H.weaken ⟨rfl, rfl, rfl, trivial⟩⟩
  ·replace h := h.2 h16
   refine c_exit ?_
   first | (simp only [Exit.then, Exit.inBlock, ↓reduceIte]; fail_if_success simp only [Nat.reduceEqDiff]) | simp only [Exit.then, Exit.inBlock, ↓reduceIte, Nat.reduceEqDiff]
   refine hK8 _ _ <| c_seq fun K63 hK63 => c_reg <| s_assign H rfl rfl (lt_ rfl) fun a H => c_nil <| hK63 _ _ <| c_ret ?_
   exact e_ret1 H rfl rfl h

theorem sim_sherdlaw11_ints (a1 b2 : Slc) (w : World) (Q : Ending → World → Prop) (h : vc_sherdlaw11_ints a1 b2 w Q) : Calls PP F_sherdlaw11_ints #[a1.v, b2.v] w Q := by
 unfold vc_sherdlaw11_ints at h
 refine enter (n := 26) Tryz.func32 rfl rfl (Nat.le_of_ble_eq_true rfl) fun a H => c_seq fun K3 hK3 => c_reg <| s_assign H rfl rfl (lt_ rfl) fun a H => c_nil <| hK3 _ _ <| c_seq fun K4 hK4 => c_seq fun K5 hK5 => c_reg <| s_move H rfl rfl (lt_ rfl) fun a H => s_blt H rfl (H.args (vs := [a1.v]) rfl) (lt_ rfl) (fun cs => b_lenS (z := a1) sl_44) fun a H => s_move H rfl rfl (lt_ rfl) fun a H => s_blt H rfl (H.args (vs := [b2.v]) rfl) (lt_ rfl) (fun cs => b_lenS (z := b2) sl_44) fun a H => ?_
 refine s_bin H rfl rfl rfl r_neq (lt_ rfl) fun a H => c_nil <| hK5 _ _ <| c_cond H rfl (fun h6 => ?_) (fun h6 => ?_)
 ·replace h := h.1 h6
  refine c_seq fun K7 hK7 => c_reg <| s_assign H rfl rfl (lt_ rfl) fun a H => c_nil <| hK7 _ _ <| c_ret ?_
  exact e_ret1 H rfl rfl h
 ·replace h := h.2 h6
  refine c_skip <| hK4 _ _ <| c_seq fun K8 hK8 => c_seq fun K9 hK9 => c_reg <| s_assign H rfl rfl (lt_ rfl) fun a H => c_nil <| hK9 _ _ <| c_block ?_
  obtain ⟨I12, m13, h35, h36⟩ := h
  refine c_loop (σ := Int) (fun z w => I12 z w) (fun z w => m13 z w) (fun z => [(0, a1.v), (1, b2.v), (5, (.i z))]) 0 h35 (H.weaken ⟨rfl, rfl, rfl, trivial⟩) ?_
  clear H h35
  rintro i10 a w11 h H
  replace h := h36 i10 w11 h
  clear h36
  replace H : Has 26 [] a [(0, a1.v), (1, b2.v), (5, (.i i10))] := H
  refine c_seq fun K14 hK14 => c_seq fun K15 hK15 => c_reg <| s_move H rfl rfl (lt_ rfl) fun a H => s_move H rfl rfl (lt_ rfl) fun a H => s_blt H rfl (H.args (vs := [a1.v]) rfl) (lt_ rfl) (fun cs => b_lenS (z := a1) sl_44) fun a H => s_bin H rfl rfl rfl r_lss (lt_ rfl) fun a H => c_nil <| hK15 _ _ <| c_cond H rfl (fun h16 => ?_) (fun h16 => ?_)
  ·replace h := h.1 h16
   refine c_skip <| hK14 _ _ <| c_seq fun K17 hK17 => c_block <| c_seq fun K18 hK18 => c_regD mixed (by kernel_rfl) <| z_move H rfl rfl (lt_ rfl) fun a H => z_move H rfl rfl (lt_ rfl) fun a H => ?_
   obtain ⟨a20, h21, h22, h23, h⟩ := h
   refine z_idxS (s := a1) H rfl rfl rfl slc_44 h21 h22 h23 (lt_ rfl) fun a H => ?_
   obtain ⟨l24, hc25, h⟩ := h
   refine z_load (v := (.i l24)) H rfl rfl one_3 hc25 (lt_ rfl) fun a H => z_move H rfl rfl (lt_ rfl) fun a H => z_move H rfl rfl (lt_ rfl) fun a H => ?_
   obtain ⟨a26, h27, h28, h29, h⟩ := h
   refine z_idxS (s := b2) H rfl rfl rfl slc_44 h27 h28 h29 (lt_ rfl) fun a H => ?_
   obtain ⟨l30, hc31, h⟩ := h
   refine z_load (v := (.i l30)) H rfl rfl one_3 hc31 (lt_ rfl) fun a H => z_bin H rfl rfl rfl r_neq (lt_ rfl) fun a H => wpQuiet_nil ?_
   rintro _ ⟨k19, rfl⟩
   replace h := h k19
   refine hK18 _ _ <| c_cond H rfl (fun h32 => ?_) (fun h32 => ?_)
   ·replace h := h.1 h32
    refine c_seq fun K33 hK33 => c_reg <| s_assign H rfl rfl (lt_ rfl) fun a H => c_nil <| hK33 _ _ <| c_ret ?_
    exact e_ret1 H rfl rfl h
   ·replace h := h.2 h32
    refine c_skip <| hK17 _ _ <| c_reg <| s_move H rfl rfl (lt_ rfl) fun a H => s_bin H rfl rfl rfl r_add (lt_ rfl) fun a H => s_assign H rfl rfl (lt_ rfl) fun a H => c_nil <| Exists.intro (wr .i64 (i10 + 1)) ⟨h.1, h.2, H.weaken ⟨rfl, rfl, rfl, trivial⟩⟩
  ·replace h := h.2 h16
   refine c_exit ?_
   first | (simp only [Exit.then, Exit.inBlock, ↓reduceIte]; fail_if_success simp only [Nat.reduceEqDiff]) | simp only [Exit.then, Exit.inBlock, ↓reduceIte, Nat.reduceEqDiff]
   refine hK8 _ _ <| c_seq fun K34 hK34 => c_reg <| s_assign H rfl rfl (lt_ rfl) fun a H => c_nil <| hK34 _ _ <| c_ret ?_
   exact e_ret1 H rfl rfl h

theorem sim_sherdref11_Writer_Put (w1 : Option Addr) (K2 : Int) (K3 : ByteArray) (C4 C5 : Int) (F6 H7 : Bool) (D8 : Slc) (w : World) (Q : Ending → World → Prop) (h : vc_sherdref11_Writer_Put w1 K2 K3 C4 C5 F6 H7 D8 w Q) : Calls PP F_sherdref11_Writer_Put #[(.pointer w1), (.agg #[(.i K2), (.string K3), (.i C4), (.i C5), (.bool F6), (.bool H7), D8.v])] w Q := by
 unfold vc_sherdref11_Writer_Put at h
 refine enter (n := 45) Tryz.func33 rfl rfl (Nat.le_of_ble_eq_true rfl) fun a H => c_seq fun K9 hK9 => c_reg ?_
 replace h := h.get
 obtain ⟨b10, w11, n12, h⟩ := h
 refine s_box H rfl rfl (lt_ rfl) ?_
 rw [← n12.at_]
 clear H a
 intro a H
 refine n12.go <| s_assign H rfl rfl (lt_ rfl) fun a H => s_assign H rfl rfl (lt_ rfl) fun a H => c_nil <| hK9 _ _ <| c_seq fun K13 hK13 => c_reg <| s_loadN (l := [(.i K2), (.string K3), (.i C4), (.i C5), (.bool F6), (.bool H7), D8.v]) H rfl rfl agg_28 rfl ⟨(n12.cell (i := 0) rfl), (n12.cell (i := 1) rfl), (n12.cell (i := 2) rfl), (n12.cell (i := 3) rfl), (n12.cell (i := 4) rfl), (n12.cell (i := 5) rfl), (n12.cell (i := 6) rfl), trivial⟩ (lt_ rfl) fun a H => ?_
 refine s_call H rfl body_56 (H.args (vs := [(.agg #[(.i K2), (.string K3), (.i C4), (.i C5), (.bool F6), (.bool H7), D8.v])]) rfl) (lt_ rfl) h ?_ (fun c w' h H => e_panic (P := PP) (fn := Tryz.f33) H h)
 clear H h a
 rintro _ w14 a ⟨C15, rfl, h⟩ H
 refine s_assign H rfl rfl (lt_ rfl) fun a H => c_nil <| hK13 _ _ <| c_seq fun K16 hK16 => c_seq fun K17 hK17 => c_reg <| s_move H rfl rfl (lt_ rfl) fun a H => s_bin H rfl rfl rfl r_neq (lt_ rfl) fun a H => c_nil <| hK17 _ _ <| c_cond H rfl (fun h18 => ?_) (fun h18 => ?_)
 ·replace h := h.1 h18
  refine c_seq fun K19 hK19 => c_reg <| s_move H rfl rfl (lt_ rfl) fun a H => s_assign H rfl rfl (lt_ rfl) fun a H => s_assign H rfl rfl (lt_ rfl) fun a H => c_nil <| hK19 _ _ <| c_ret ?_
  exact e_ret2 H rfl rfl rfl h
 ·replace h := h.2 h18
  refine c_skip <| hK16 _ _ <| c_seq fun K20 hK20 => c_reg <| s_call H rfl body_57 (H.args (vs := []) rfl) (lt_ rfl) h ?_ (fun c w' h H => e_panic (P := PP) (fn := Tryz.f33) H h)
  clear H h a
  rintro _ w21 a ⟨N22, rfl, h⟩ H
  refine s_assign H rfl rfl (lt_ rfl) fun a H => c_nil <| hK20 _ _ <| c_seq fun K23 hK23 => c_reg <| s_move H rfl rfl (lt_ rfl) fun a H => s_call H rfl body_58 (H.args (vs := [(.pointer N22), (.int .u8 82)]) rfl) (lt_ rfl) h ?_ (fun c w' h H => e_panic (P := PP) (fn := Tryz.f33) H h)
  clear H h a
  rintro _ w24 a ⟨rfl, h⟩ H
  refine c_nil <| hK23 _ _ <| c_seq fun K25 hK25 => c_reg <| s_move H rfl rfl (lt_ rfl) fun a H => ?_
  obtain ⟨K26, hc27, K28, hc29, C30, hc31, C32, hc33, F34, hc35, H36, hc37, D38, hc39, h⟩ := h
  refine s_loadN (l := [(.i K26), (.string K28), (.i C30), (.i C32), (.bool F34), (.bool H36), D38.v]) H rfl rfl agg_28 rfl ⟨hc27, hc29, hc31, hc33, hc35, hc37, hc39, trivial⟩ (lt_ rfl) fun a H => s_call H rfl body_60 (H.args (vs := [(.agg #[(.i K26), (.string K28), (.i C30), (.i C32), (.bool F34), (.bool H36), D38.v])]) rfl) (lt_ rfl) h ?_ (fun c w' h H => e_panic (P := PP) (fn := Tryz.f33) H h)
  clear H h a
  rintro _ w40 a ⟨b41, rfl, h⟩ H
  refine s_call H rfl body_59 (H.args (vs := [(.pointer N22), b41.v]) rfl) (lt_ rfl) h ?_ (fun c w' h H => e_panic (P := PP) (fn := Tryz.f33) H h)
  clear H h a
  rintro _ w42 a ⟨rfl, h⟩ H
  refine c_nil <| hK25 _ _ <| c_seq fun K43 hK43 => c_reg <| s_move H rfl rfl (lt_ rfl) fun a H => s_call H rfl body_61 (H.args (vs := [(.pointer N22)]) rfl) (lt_ rfl) h ?_ (fun c w' h H => e_panic (P := PP) (fn := Tryz.f33) H h)
  clear H h a
  rintro _ w44 a ⟨D45, rfl, h⟩ H
  refine s_assign H rfl rfl (lt_ rfl) fun a H => c_nil <| hK43 _ _ <| c_seq fun K46 hK46 => c_reg <| s_move H rfl rfl (lt_ rfl) fun a H => s_move H rfl rfl (lt_ rfl) fun a H => ?_
  obtain ⟨a47, h71, h⟩ := h
  subst h71
  refine s_nil H rfl rfl (lt_ rfl) fun a H => s_fld H rfl rfl fld_74_0 (lt_ rfl) fun a H => ?_
  obtain ⟨l48, hc49, h⟩ := h
  refine s_load (v := l48.v) H rfl rfl one_22 hc49 (lt_ rfl) fun a H => s_move H rfl rfl (lt_ rfl) fun a H => s_call H rfl body_48 (H.args (vs := [l48.v, D45.v]) rfl) (lt_ rfl) h ?_ (fun c w' h H => e_panic (P := PP) (fn := Tryz.f33) H h)
  clear H h a
  rintro _ w50 a ⟨S51, rfl, h⟩ H
  refine s_nil H rfl rfl (lt_ rfl) fun a H => s_fld H rfl rfl fld_74_0 (lt_ rfl) fun a H => ?_
  obtain ⟨h53, h54, h⟩ := h
  refine s_sto (p := a47.add 0) (v := S51.v) H rfl rfl rfl rfl one_22 rfl h53 h54 ?_
  clear H
  intro H
  generalize hww52 : World.setCell w50 (a47.add 0) S51.v = w52 at h ⊢
  have w52S : SetAt w50 (a47.add 0) S51.v w52 := ⟨hww52.symm⟩
  clear hww52 h53 h54
  refine c_nil <| hK46 _ _ <| c_seq fun K55 hK55 => c_reg <| s_move H rfl rfl (lt_ rfl) fun a H => s_nil H rfl rfl (lt_ rfl) fun a H => s_fld H rfl rfl fld_74_1 (lt_ rfl) fun a H => ?_
  obtain ⟨l56, hc57, h⟩ := h
  refine s_load (v := (.i l56)) H rfl rfl one_3 hc57 (lt_ rfl) fun a H => s_bin H rfl rfl rfl r_add (lt_ rfl) fun a H => s_nil H rfl rfl (lt_ rfl) fun a H => s_fld H rfl rfl fld_74_1 (lt_ rfl) fun a H => ?_
  obtain ⟨h59, h60, h⟩ := h
  refine s_sto (p := a47.add 1) (v := (.i (wr .i64 (l56 + 1)))) H rfl rfl rfl rfl one_3 rfl h59 h60 ?_
  clear H
  intro H
  generalize hww58 : World.setCell w52 (a47.add 1) (.i (wr .i64 (l56 + 1))) = w58 at h ⊢
  have w58S : SetAt w52 (a47.add 1) (.i (wr .i64 (l56 + 1))) w58 := ⟨hww58.symm⟩
  clear hww58 h59 h60
  refine c_nil <| hK55 _ _ <| c_seq fun K61 hK61 => c_reg <| s_move H rfl rfl (lt_ rfl) fun a H => s_move H rfl rfl (lt_ rfl) fun a H => s_nil H rfl rfl (lt_ rfl) fun a H => s_fld H rfl rfl fld_74_0 (lt_ rfl) fun a H => ?_
  obtain ⟨l62, hc63, h⟩ := h
  refine s_load (v := l62.v) H rfl rfl one_22 hc63 (lt_ rfl) fun a H => ?_
  obtain ⟨s64, w65, h66, h⟩ := h
  refine s_blt H rfl (H.args (vs := [D45.v, l62.v]) rfl) (lt_ rfl) (fun cs => b_app (z := s64) h66) ?_
  clear H a h66
  intro a H
  refine s_assign H rfl rfl (lt_ rfl) fun a H => s_assign H rfl rfl (lt_ rfl) fun a H => c_nil <| hK61 _ _ <| c_ret ?_
  exact e_ret2 H rfl rfl rfl h

theorem sim_record_Writer_Put (w1 : Option Addr) (K2 : Int) (K3 : ByteArray) (C4 C5 : Int) (F6 H7 : Bool) (D8 : Slc) (w : World) (Q : Ending → World → Prop) (h : vc_record_Writer_Put w1 K2 K3 C4 C5 F6 H7 D8 w Q) : Calls PP F_record_Writer_Put #[(.pointer w1), (.agg #[(.i K2), (.string K3), (.i C4), (.i C5), (.bool F6), (.bool H7), D8.v])] w Q := by
 unfold vc_record_Writer_Put at h
 refine enter (n := 50) Tryz.func34 rfl rfl (Nat.le_of_ble_eq_true rfl) fun a H => c_seq fun K9 hK9 => c_reg ?_
 replace h := h.get
 obtain ⟨b10, w11, n12, h⟩ := h
 refine s_box H rfl rfl (lt_ rfl) ?_
 rw [← n12.at_]
 clear H a
 intro a H
 refine n12.go <| s_assign H rfl rfl (lt_ rfl) fun a H => s_assign H rfl rfl (lt_ rfl) fun a H => c_nil <| hK9 _ _ <| c_seq fun K13 hK13 => c_seq fun K14 hK14 => c_reg <| s_move H rfl rfl (lt_ rfl) fun a H => s_bin H rfl rfl rfl (r_eqP0 ptr_29) (lt_ rfl) fun a H => c_nil <| hK14 _ _ <| c_cond H rfl (fun h15 => ?_) (fun h15 => ?_)
 ·replace h := h.1 h15
  refine c_seq fun K16 hK16 => c_reg <| s_assign H rfl rfl (lt_ rfl) fun a H => s_assign H rfl rfl (lt_ rfl) fun a H => c_nil <| hK16 _ _ <| c_ret ?_
  exact e_ret2 H rfl rfl rfl h
 ·replace h := h.2 h15
  refine c_skip <| hK13 _ _ <| c_seq fun K17 hK17 => c_seq fun K18 hK18 => c_reg <| s_loadN (l := [(.i K2), (.string K3), (.i C4), (.i C5), (.bool F6), (.bool H7), D8.v]) H rfl rfl agg_28 rfl ⟨(n12.cell (i := 0) rfl), (n12.cell (i := 1) rfl), (n12.cell (i := 2) rfl), (n12.cell (i := 3) rfl), (n12.cell (i := 4) rfl), (n12.cell (i := 5) rfl), (n12.cell (i := 6) rfl), trivial⟩ (lt_ rfl) fun a H => ?_
  refine s_call H rfl body_62 (H.args (vs := [(.agg #[(.i K2), (.string K3), (.i C4), (.i C5), (.bool F6), (.bool H7), D8.v])]) rfl) (lt_ rfl) h ?_ (fun c w' h H => e_panic (P := PP) (fn := Tryz.f34) H h)
  clear H h a
  rintro _ w19 a ⟨m20, rfl, h⟩ H
  refine s_assign H rfl rfl (lt_ rfl) fun a H => c_nil <| hK18 _ _ <| c_seq fun K21 hK21 => c_reg <| s_move H rfl rfl (lt_ rfl) fun a H => s_bin H rfl rfl rfl r_neq (lt_ rfl) fun a H => c_nil <| hK21 _ _ <| c_cond H rfl (fun h22 => ?_) (fun h22 => ?_)
  ·replace h := h.1 h22
   refine c_seq fun K23 hK23 => c_reg <| s_move H rfl rfl (lt_ rfl) fun a H => s_assign H rfl rfl (lt_ rfl) fun a H => s_assign H rfl rfl (lt_ rfl) fun a H => c_nil <| hK23 _ _ <| c_ret ?_
   exact e_ret2 H rfl rfl rfl h
  ·replace h := h.2 h22
   refine c_skip <| hK17 _ _ <| c_seq fun K24 hK24 => c_reg <| s_call H rfl body_21 (H.args (vs := []) rfl) (lt_ rfl) h ?_ (fun c w' h H => e_panic (P := PP) (fn := Tryz.f34) H h)
   clear H h a
   rintro _ w25 a ⟨N26, rfl, h⟩ H
   refine s_assign H rfl rfl (lt_ rfl) fun a H => c_nil <| hK24 _ _ <| c_seq fun K27 hK27 => c_reg <| s_move H rfl rfl (lt_ rfl) fun a H => s_call H rfl body_22 (H.args (vs := [(.pointer N26), (.int .u8 82)]) rfl) (lt_ rfl) h ?_ (fun c w' h H => e_panic (P := PP) (fn := Tryz.f34) H h)
   clear H h a
   rintro _ w28 a ⟨rfl, h⟩ H
   refine c_nil <| hK27 _ _ <| c_seq fun K29 hK29 => c_reg <| s_move H rfl rfl (lt_ rfl) fun a H => ?_
   obtain ⟨K30, hc31, K32, hc33, C34, hc35, C36, hc37, F38, hc39, H40, hc41, D42, hc43, h⟩ := h
   refine s_loadN (l := [(.i K30), (.string K32), (.i C34), (.i C36), (.bool F38), (.bool H40), D42.v]) H rfl rfl agg_28 rfl ⟨hc31, hc33, hc35, hc37, hc39, hc41, hc43, trivial⟩ (lt_ rfl) fun a H => s_call H rfl body_64 (H.args (vs := [(.agg #[(.i K30), (.string K32), (.i C34), (.i C36), (.bool F38), (.bool H40), D42.v])]) rfl) (lt_ rfl) h ?_ (fun c w' h H => e_panic (P := PP) (fn := Tryz.f34) H h)
   clear H h a
   rintro _ w44 a ⟨b45, rfl, h⟩ H
   refine s_call H rfl body_63 (H.args (vs := [(.pointer N26), b45.v]) rfl) (lt_ rfl) h ?_ (fun c w' h H => e_panic (P := PP) (fn := Tryz.f34) H h)
   clear H h a
   rintro _ w46 a ⟨rfl, h⟩ H
   refine c_nil <| hK29 _ _ <| c_seq fun K47 hK47 => c_reg <| s_move H rfl rfl (lt_ rfl) fun a H => s_call H rfl body_24 (H.args (vs := [(.pointer N26)]) rfl) (lt_ rfl) h ?_ (fun c w' h H => e_panic (P := PP) (fn := Tryz.f34) H h)
   clear H h a
   rintro _ w48 a ⟨D49, rfl, h⟩ H
   refine s_assign H rfl rfl (lt_ rfl) fun a H => c_nil <| hK47 _ _ <| c_seq fun K50 hK50 => c_reg <| s_move H rfl rfl (lt_ rfl) fun a H => s_move H rfl rfl (lt_ rfl) fun a H => ?_
   obtain ⟨a51, h90, h⟩ := h
   subst h90
   refine s_nil H rfl rfl (lt_ rfl) fun a H => s_fld H rfl rfl fld_42_0 (lt_ rfl) fun a H => ?_
   obtain ⟨l52, hc53, h⟩ := h
   refine s_load (v := l52.v) H rfl rfl one_22 hc53 (lt_ rfl) fun a H => s_move H rfl rfl (lt_ rfl) fun a H => ?_
   replace h := h.get
   obtain ⟨b54, w55, n56, h⟩ := h
   refine s_bslc H rfl (by rw [H.parts (vs := [(0, l52.v), (1, D49.v)]) rfl]; exact bs_55_2_s0_s1 w48 l52 D49) (lt_ rfl) ?_
   rw [← n56.at_]
   clear H a
   intro a H
   refine n56.go <| s_call H rfl body_27 (H.args (vs := [(Slc.v (Slc.mk (some (blk b54)) 2 2))]) rfl) (lt_ rfl) h ?_ (fun c w' h H => e_panic (P := PP) (fn := Tryz.f34) H h)
   clear H h a
   rintro _ w57 a ⟨O58, rfl, h⟩ H
   refine s_call H rfl body_26 (H.args (vs := [(.int .u32 O58)]) rfl) (lt_ rfl) h ?_ (fun c w' h H => e_panic (P := PP) (fn := Tryz.f34) H h)
   clear H h a
   rintro _ w59 a ⟨f60, rfl, h⟩ H
   refine s_nil H rfl rfl (lt_ rfl) fun a H => s_fld H rfl rfl fld_42_0 (lt_ rfl) fun a H => ?_
   obtain ⟨h62, h63, h⟩ := h
   refine s_sto (p := a51.add 0) (v := f60.v) H rfl rfl rfl rfl one_22 rfl h62 h63 ?_
   clear H
   intro H
   generalize hww61 : World.setCell w59 (a51.add 0) f60.v = w61 at h ⊢
   have w61S : SetAt w59 (a51.add 0) f60.v w61 := ⟨hww61.symm⟩
   clear hww61 h62 h63
   refine c_nil <| hK50 _ _ <| c_seq fun K64 hK64 => c_reg <| s_move H rfl rfl (lt_ rfl) fun a H => s_nil H rfl rfl (lt_ rfl) fun a H => s_fld H rfl rfl fld_42_1 (lt_ rfl) fun a H => ?_
   obtain ⟨l65, hc66, h⟩ := h
   refine s_load (v := (.i l65)) H rfl rfl one_3 hc66 (lt_ rfl) fun a H => s_bin H rfl rfl rfl r_add (lt_ rfl) fun a H => s_nil H rfl rfl (lt_ rfl) fun a H => s_fld H rfl rfl fld_42_1 (lt_ rfl) fun a H => ?_
   obtain ⟨h68, h69, h⟩ := h
   refine s_sto (p := a51.add 1) (v := (.i (wr .i64 (l65 + 1)))) H rfl rfl rfl rfl one_3 rfl h68 h69 ?_
   clear H
   intro H
   generalize hww67 : World.setCell w61 (a51.add 1) (.i (wr .i64 (l65 + 1))) = w67 at h ⊢
   have w67S : SetAt w61 (a51.add 1) (.i (wr .i64 (l65 + 1))) w67 := ⟨hww67.symm⟩
   clear hww67 h68 h69
   refine c_nil <| hK64 _ _ <| c_seq fun K70 hK70 => c_reg <| s_move H rfl rfl (lt_ rfl) fun a H => s_move H rfl rfl (lt_ rfl) fun a H => s_nil H rfl rfl (lt_ rfl) fun a H => s_fld H rfl rfl fld_42_0 (lt_ rfl) fun a H => ?_
   obtain ⟨l71, hc72, h⟩ := h
   refine s_load (v := l71.v) H rfl rfl one_22 hc72 (lt_ rfl) fun a H => ?_
   replace h := h.get
   obtain ⟨b73, w74, n75, h⟩ := h
   refine s_bslc H rfl (by rw [H.parts (vs := [(0, D49.v), (1, l71.v)]) rfl]; exact bs_55_2_s0_s1 w67 D49 l71) (lt_ rfl) ?_
   rw [← n75.at_]
   clear H a
   intro a H
   refine n75.go <| s_call H rfl body_25 (H.args (vs := [(Slc.v (Slc.mk (some (blk b73)) 2 2))]) rfl) (lt_ rfl) h ?_ (fun c w' h H => e_panic (P := PP) (fn := Tryz.f34) H h)
   clear H h a
   rintro _ w76 a ⟨C77, rfl, h⟩ H
   refine s_assign H rfl rfl (lt_ rfl) fun a H => s_assign H rfl rfl (lt_ rfl) fun a H => c_nil <| hK70 _ _ <| c_ret ?_
   exact e_ret2 H rfl rfl rfl h

theorem sim_pack_Writer_put (w1 : Option Addr) (b2 : Slc) (w : World) (Q : Ending → World → Prop) (h : vc_pack_Writer_put w1 b2 w Q) : Calls PP F_pack_Writer_put #[(.pointer w1), b2.v] w Q := by
 unfold vc_pack_Writer_put at h
 refine enter (n := 23) Tryz.func35 rfl rfl (Nat.le_of_ble_eq_true rfl) fun a H => c_seq fun K3 hK3 => c_reg <| s_move H rfl rfl (lt_ rfl) fun a H => s_bin H rfl rfl rfl (r_neP0 ptr_62) (lt_ rfl) fun a H => s_move H rfl rfl (lt_ rfl) fun a H => ?_
 obtain ⟨x10, h11, h12, h⟩ := h
 refine g_join (n := 23) [(13, (.bool x10)), (0, (.pointer w1)), (1, b2.v)] (.succ (.succ (.succ (.succ (.succ (.succ (.succ (.zero _)))))))) ?_ ?_
 ·intro h5
  try clear h
  rcases Bool.eq_false_or_eq_true w1.isSome with h4 | h4
  ·replace H := H.ch (t := 6) (b := true) rfl h4
   replace h := h11 h4
   refine s_move H (wantG H rfl rfl) rfl (lt_ rfl) fun a H => ?_
   obtain ⟨a6, h9, h⟩ := h
   subst h9
   refine s_nil H (wantG H rfl rfl) rfl (lt_ rfl) fun a H => s_fld H (wantG H rfl rfl) rfl fld_86_0 (lt_ rfl) fun a H => s_fld H (wantG H rfl rfl) rfl fld_84_0 (lt_ rfl) fun a H => ?_
   obtain ⟨l7, hc8, h⟩ := h
   refine s_load (v := (.i l7)) H (wantG H rfl rfl) rfl one_30 hc8 (lt_ rfl) fun a H => s_bin H (wantG H rfl rfl) rfl rfl r_eql (lt_ rfl) fun a H => s_pickT H rfl rfl rfl (lt_ rfl) fun a H => ?_
   subst h
   exact h5 _ (H.weaken ⟨rfl, rfl, rfl, trivial⟩)
  ·replace H := H.ch (t := 6) (b := false) rfl h4
   iterate 6 refine s_skip H (wantN H rfl rfl rfl) rfl (lt_ rfl) fun a H => ?_
   refine s_pickF H rfl rfl rfl (lt_ rfl) fun a H => ?_
   replace h := h12 h4
   subst h
   exact h5 _ (H.weaken ⟨rfl, rfl, rfl, trivial⟩)
 ·clear H a
  clear h11 h12
  intro a H
  refine c_nil <| hK3 _ _ <| c_cond H rfl (fun h13 => ?_) (fun h13 => ?_)
  ·replace h := h.1 h13
   refine c_reg <| s_move H rfl rfl (lt_ rfl) fun a H => s_move H rfl rfl (lt_ rfl) fun a H => ?_
   obtain ⟨a14, h23, h⟩ := h
   subst h23
   refine s_nil H rfl rfl (lt_ rfl) fun a H => s_fld H rfl rfl fld_86_1 (lt_ rfl) fun a H => ?_
   obtain ⟨l15, hc16, h⟩ := h
   refine s_load (v := l15.v) H rfl rfl one_22 hc16 (lt_ rfl) fun a H => s_move H rfl rfl (lt_ rfl) fun a H => ?_
   obtain ⟨s17, w18, h19, h⟩ := h
   refine s_blt H rfl (H.args (vs := [l15.v, b2.v]) rfl) (lt_ rfl) (fun cs => b_app (z := s17) h19) ?_
   clear H a h19
   intro a H
   refine s_nil H rfl rfl (lt_ rfl) fun a H => s_fld H rfl rfl fld_86_1 (lt_ rfl) fun a H => ?_
   obtain ⟨h21, h22, h⟩ := h
   refine s_sto (p := a14.add 1) (v := s17.v) H rfl rfl rfl rfl one_22 rfl h21 h22 ?_
   clear H
   intro H
   generalize hww20 : World.setCell w18 (a14.add 1) s17.v = w20 at h ⊢
   have w20S : SetAt w18 (a14.add 1) s17.v w20 := ⟨hww20.symm⟩
   clear hww20 h21 h22
   refine c_nil ?_
   exact e_ret0 H rfl h
  ·replace h := h.2 h13
   refine c_skip ?_
   exact e_ret0 H rfl h

theorem sim_pack_first_fail (f1 : Option Addr) (e2 : Int) (w : World) (Q : Ending → World → Prop) (h : vc_pack_first_fail f1 e2 w Q) : Calls PP F_pack_first_fail #[(.pointer f1), (.i e2)] w Q := by
 unfold vc_pack_first_fail at h
 refine enter (n := 13) Tryz.func36 rfl rfl (Nat.le_of_ble_eq_true rfl) fun a H => c_seq fun K3 hK3 => c_reg <| s_move H rfl rfl (lt_ rfl) fun a H => ?_
 obtain ⟨a4, h11, h⟩ := h
 subst h11
 refine s_nil H rfl rfl (lt_ rfl) fun a H => s_fld H rfl rfl fld_84_0 (lt_ rfl) fun a H => ?_
 obtain ⟨l5, hc6, h⟩ := h
 refine s_load (v := (.i l5)) H rfl rfl one_30 hc6 (lt_ rfl) fun a H => s_bin H rfl rfl rfl r_eql (lt_ rfl) fun a H => c_nil <| hK3 _ _ <| c_cond H rfl (fun h7 => ?_) (fun h7 => ?_)
 ·replace h := h.1 h7
  refine c_reg <| s_move H rfl rfl (lt_ rfl) fun a H => s_move H rfl rfl (lt_ rfl) fun a H => s_nil H rfl rfl (lt_ rfl) fun a H => s_fld H rfl rfl fld_84_0 (lt_ rfl) fun a H => ?_
  obtain ⟨h9, h10, h⟩ := h
  refine s_sto (p := a4.add 0) (v := (.i e2)) H rfl rfl rfl rfl one_30 rfl h9 h10 ?_
  clear H
  intro H
  generalize hww8 : World.setCell w (a4.add 0) (.i e2) = w8 at h ⊢
  have w8S : SetAt w (a4.add 0) (.i e2) w8 := ⟨hww8.symm⟩
  clear hww8 h9 h10
  refine c_nil ?_
  exact e_ret0 H rfl h
 ·replace h := h.2 h7
  refine c_skip ?_
  exact e_ret0 H rfl h

theorem sim_pack_form (n1 : Int) (w : World) (Q : Ending → World → Prop) (h : vc_pack_form n1 w Q) : Calls PP F_pack_form #[(.i n1)] w Q := by
 unfold vc_pack_form at h
 refine enter (n := 19) Tryz.func37 rfl rfl (Nat.le_of_ble_eq_true rfl) fun a H => c_seq fun K2 hK2 => c_reg <| s_assign H rfl rfl (lt_ rfl) fun a H => c_nil <| hK2 _ _ <| c_seq fun K3 hK3 => c_reg <| s_assign H rfl rfl (lt_ rfl) fun a H => c_nil <| hK3 _ _ <| c_seq fun K4 hK4 => ?_
 obtain ⟨R7, h, h34⟩ := h
 have h16 : ∀ (a : Act) (n5 : Int) (b6 : Slc) (w8 : World), R7 n5 b6 w8 → Has 19 [] a [(0, (.i n5)), (3, b6.v)] → K4 a w8 := by
  clear h
  intro a n5 b6 w8 h H
  replace h := h34 n5 b6 w8 h
  refine hK4 _ _ <| c_seq fun K9 hK9 => c_reg <| s_move H rfl rfl (lt_ rfl) fun a H => s_move H rfl rfl (lt_ rfl) fun a H => s_cv H rfl rfl (r_cvI some_2 int_5) (lt_ rfl) fun a H => ?_
  replace h := h.get
  obtain ⟨b10, w11, n12, h⟩ := h
  refine s_bslc H rfl (by rw [H.parts (vs := [(0, (.int .u8 (wr .u8 n5)))]) rfl]; exact bs_22_1_iu80 w8 (wr .u8 n5)) (lt_ rfl) ?_
  rw [← n12.at_]
  clear H a
  intro a H
  refine n12.go ?_
  obtain ⟨s13, w14, h15, h⟩ := h
  refine s_blt H rfl (H.args (vs := [b6.v, (Slc.v (Slc.mk (some (blk b10)) 1 1))]) rfl) (lt_ rfl) (fun cs => b_app (z := s13) h15) ?_
  clear H a h15
  intro a H
  refine s_assign H rfl rfl (lt_ rfl) fun a H => c_nil <| hK9 _ _ <| c_ret ?_
  exact e_ret1 H rfl rfl h
 clear h34
 refine c_block ?_
 obtain ⟨I20, m21, h32, h33⟩ := h
 refine c_loop (σ := Int × Slc) (fun z w => I20 z.1 z.2 w) (fun z w => m21 z.1 z.2 w) (fun z => [(0, (.i z.1)), (3, z.2.v)]) (n1, Slc.nil) h32 (H.weaken ⟨rfl, rfl, trivial⟩) ?_
 clear H h32
 rintro ⟨n17, b18⟩ a w19 h H
 replace h := h33 n17 b18 w19 h
 clear h33
 replace H : Has 19 [] a [(0, (.i n17)), (3, b18.v)] := H
 refine c_seq fun K22 hK22 => c_seq fun K23 hK23 => c_reg <| s_move H rfl rfl (lt_ rfl) fun a H => s_bin H rfl rfl rfl r_geq (lt_ rfl) fun a H => c_nil <| hK23 _ _ <| c_cond H rfl (fun h24 => ?_) (fun h24 => ?_)
 ·replace h := h.1 h24
  refine c_skip <| hK22 _ _ <| c_block <| c_seq fun K25 hK25 => c_reg <| s_move H rfl rfl (lt_ rfl) fun a H => s_move H rfl rfl (lt_ rfl) fun a H => s_cv H rfl rfl (r_cvI some_2 int_5) (lt_ rfl) fun a H => s_bin H rfl rfl rfl r_or (lt_ rfl) fun a H => ?_
  replace h := h.get
  obtain ⟨b26, w27, n28, h⟩ := h
  refine s_bslc H rfl (by rw [H.parts (vs := [(0, (.int .u8 (orI .u8 (wr .u8 n17) 128)))]) rfl]; exact bs_22_1_iu80 w19 (orI .u8 (wr .u8 n17) 128)) (lt_ rfl) ?_
  rw [← n28.at_]
  clear H a
  intro a H
  refine n28.go ?_
  obtain ⟨s29, w30, h31, h⟩ := h
  refine s_blt H rfl (H.args (vs := [b18.v, (Slc.v (Slc.mk (some (blk b26)) 1 1))]) rfl) (lt_ rfl) (fun cs => b_app (z := s29) h31) ?_
  clear H a h31
  intro a H
  refine s_assign H rfl rfl (lt_ rfl) fun a H => c_nil <| hK25 _ _ <| c_reg <| s_move H rfl rfl (lt_ rfl) fun a H => s_bin H rfl rfl rfl (r_shr (by decide)) (lt_ rfl) fun a H => s_assign H rfl rfl (lt_ rfl) fun a H => c_nil <| Exists.intro (shrI .i64 n17 7, s29) ⟨h.1, h.2, H.weaken ⟨rfl, rfl, trivial⟩⟩
 ·replace h := h.2 h24
  refine c_exit ?_
  first | (simp only [Exit.then, Exit.inBlock, ↓reduceIte]; fail_if_success simp only [Nat.reduceEqDiff]) | simp only [Exit.then, Exit.inBlock, ↓reduceIte, Nat.reduceEqDiff]
  exact h16 _ _ _ _ h (H.weaken ⟨rfl, rfl, trivial⟩)

theorem sim_slices_Grow (s1 : Slc) (n2 : Int) (w : World) (Q : Ending → World → Prop) (h : vc_slices_Grow s1 n2 w Q) : Calls PP F_slices_Grow #[s1.v, (.i n2)] w Q := by
 unfold vc_slices_Grow at h
 refine enter (n := 27) Tryz.func38 rfl rfl (Nat.le_of_ble_eq_true rfl) fun a H => c_seq fun K3 hK3 => c_reg <| s_assign H rfl rfl (lt_ rfl) fun a H => c_nil <| hK3 _ _ <| c_seq fun K4 hK4 => ?_
 obtain ⟨R5, h, h29⟩ := h
 have h26 : ∀ (a : Act) (w6 : World), R5 w6 → Has 27 [] a [(0, s1.v), (1, (.i n2))] → K4 a w6 := by
  clear h
  intro a w6 h H
  replace h := h29 w6 h
  refine hK4 _ _ <| c_seq fun K7 hK7 => ?_
  obtain ⟨R9, h, h25⟩ := h
  have h12 : ∀ (a : Act) (s8 : Slc) (w10 : World), R9 s8 w10 → Has 27 [] a [(0, s8.v)] → K7 a w10 := by
   clear h
   intro a s8 w10 h H
   replace h := h25 s8 w10 h
   refine hK7 _ _ <| c_seq fun K11 hK11 => c_reg <| s_move H rfl rfl (lt_ rfl) fun a H => s_assign H rfl rfl (lt_ rfl) fun a H => c_nil <| hK11 _ _ <| c_ret ?_
   exact e_ret1 H rfl rfl h
  clear h25
  refine c_seq fun K13 hK13 => c_reg <| s_move H rfl rfl (lt_ rfl) fun a H => s_move H rfl rfl (lt_ rfl) fun a H => s_blt H rfl (H.args (vs := [s1.v]) rfl) (lt_ rfl) (fun cs => b_capS (z := s1) sl_22) fun a H => s_move H rfl rfl (lt_ rfl) fun a H => s_blt H rfl (H.args (vs := [s1.v]) rfl) (lt_ rfl) (fun cs => b_lenS (z := s1) sl_22) fun a H => s_bin H rfl rfl rfl r_sub (lt_ rfl) fun a H => s_bin H rfl rfl rfl r_sub (lt_ rfl) fun a H => s_assign H rfl rfl (lt_ rfl) fun a H => c_nil ?_
  refine hK13 _ _ <| c_seq fun K14 hK14 => c_reg <| s_move H rfl rfl (lt_ rfl) fun a H => s_bin H rfl rfl rfl r_gtr (lt_ rfl) fun a H => c_nil <| hK14 _ _ <| c_cond H rfl (fun h15 => ?_) (fun h15 => ?_)
  ·replace h := h.1 h15
   refine c_reg <| s_move H rfl rfl (lt_ rfl) fun a H => s_move H rfl rfl (lt_ rfl) fun a H => s_blt H rfl (H.args (vs := [s1.v]) rfl) (lt_ rfl) (fun cs => b_capS (z := s1) sl_22) fun a H => ?_
   obtain ⟨h16, h17, h18, h⟩ := h
   refine s_slice (v := (Slc.v (s1.cut 1 (Int.toNat (0)) (Int.toNat ((s1.c : Int)))))) H rfl rfl ⟨rfl, rfl⟩ ⟨rfl, rfl⟩ ⟨rfl, rfl⟩ (r_sliceSlc (lo := none) (hi := (some (.i64, (s1.c : Int)))) slc_22 rfl rfl h16 h17 h18) (lt_ rfl) fun a H => s_move H rfl rfl (lt_ rfl) fun a H => ?_
   obtain ⟨s19, w20, h21, h⟩ := h
   refine s_blt H rfl (H.args (vs := [(Slc.v (s1.cut 1 (Int.toNat (0)) (Int.toNat ((s1.c : Int))))), (.i (wr .i64 (n2 - (wr .i64 ((s1.c : Int) - (s1.l : Int))))))]) rfl) (lt_ rfl) (fun cs => b_app (z := s19) h21) ?_
   clear H a h21
   intro a H
   refine s_move H rfl rfl (lt_ rfl) fun a H => s_blt H rfl (H.args (vs := [s1.v]) rfl) (lt_ rfl) (fun cs => b_lenS (z := s1) sl_22) fun a H => ?_
   obtain ⟨h22, h23, h24, h⟩ := h
   refine s_slice (v := (Slc.v (s19.cut 1 (Int.toNat (0)) (Int.toNat ((s1.l : Int)))))) H rfl rfl ⟨rfl, rfl⟩ ⟨rfl, rfl⟩ ⟨rfl, rfl⟩ (r_sliceSlc (lo := none) (hi := (some (.i64, (s1.l : Int)))) slc_22 rfl rfl h22 h23 h24) (lt_ rfl) fun a H => s_assign H rfl rfl (lt_ rfl) fun a H => c_nil ?_
   exact h12 _ _ _ h (H.weaken ⟨rfl, trivial⟩)
  ·replace h := h.2 h15
   refine c_skip ?_
   exact h12 _ _ _ h (H.weaken ⟨rfl, trivial⟩)
 clear h29
 refine c_seq fun K27 hK27 => c_reg <| s_move H rfl rfl (lt_ rfl) fun a H => s_bin H rfl rfl rfl r_lss (lt_ rfl) fun a H => c_nil <| hK27 _ _ <| c_cond H rfl (fun h28 => ?_) (fun h28 => ?_)
 ·replace h := h.1 h28
  refine c_reg <| s_iface H rfl rfl ni_9 (lt_ rfl) fun a H => ?_
  exact s_panic H rfl rfl (fun H => e_panic (P := PP) (fn := Tryz.f38) H h)
 ·replace h := h.2 h28
  refine c_skip ?_
  exact h26 _ _ h (H.weaken ⟨rfl, rfl, trivial⟩)

theorem sim_sum_step (x1 b2 : Int) (w : World) (Q : Ending → World → Prop) (h : vc_sum_step x1 b2 w Q) : Calls PP F_sum_step #[(.int .u32 x1), (.int .u8 b2)] w Q := by
 unfold vc_sum_step at h
 refine enter (n := 23) Tryz.func39 rfl rfl (Nat.le_of_ble_eq_true rfl) fun a H => c_seq fun K3 hK3 => c_reg <| s_assign H rfl rfl (lt_ rfl) fun a H => c_nil <| hK3 _ _ <| c_seq fun K4 hK4 => c_reg <| s_move H rfl rfl (lt_ rfl) fun a H => s_move H rfl rfl (lt_ rfl) fun a H => s_cv H rfl rfl (r_cvI some_5 int_69) (lt_ rfl) fun a H => s_bin H rfl rfl rfl r_xor (lt_ rfl) fun a H => s_assign H rfl rfl (lt_ rfl) fun a H => c_nil <| hK4 _ _ <| c_seq fun K5 hK5 => c_reg ?_
 refine s_move H rfl rfl (lt_ rfl) fun a H => s_bin H rfl rfl rfl r_and (lt_ rfl) fun a H => ?_
 obtain ⟨h6, h7, h⟩ := h
 refine s_idxA H rfl rfl rfl arr_114 h6 h7 (lt_ rfl) fun a H => ?_
 obtain ⟨l8, hc9, h⟩ := h
 refine s_load (v := (.int .u32 l8)) H rfl rfl one_69 hc9 (lt_ rfl) fun a H => s_move H rfl rfl (lt_ rfl) fun a H => s_bin H rfl rfl rfl (r_shr (by decide)) (lt_ rfl) fun a H => s_bin H rfl rfl rfl r_xor (lt_ rfl) fun a H => s_assign H rfl rfl (lt_ rfl) fun a H => c_nil <| hK5 _ _ <| c_seq fun K10 hK10 => c_reg <| s_move H rfl rfl (lt_ rfl) fun a H => s_bin H rfl rfl rfl r_and (lt_ rfl) fun a H => ?_
 obtain ⟨h11, h12, h⟩ := h
 refine s_idxA H rfl rfl rfl arr_114 h11 h12 (lt_ rfl) fun a H => ?_
 obtain ⟨l13, hc14, h⟩ := h
 refine s_load (v := (.int .u32 l13)) H rfl rfl one_69 hc14 (lt_ rfl) fun a H => s_move H rfl rfl (lt_ rfl) fun a H => s_bin H rfl rfl rfl (r_shr (by decide)) (lt_ rfl) fun a H => s_bin H rfl rfl rfl r_xor (lt_ rfl) fun a H => s_assign H rfl rfl (lt_ rfl) fun a H => c_nil <| hK10 _ _ <| c_ret ?_
 exact e_ret1 H rfl rfl h

theorem sim_sherdref07_NewReader (d1 : Slc) (w : World) (Q : Ending → World → Prop) (h : vc_sherdref07_NewReader d1 w Q) : Calls PP F_sherdref07_NewReader #[d1.v] w Q := by
 unfold vc_sherdref07_NewReader at h
 refine enter (n := 8) Tryz.func40 rfl rfl (Nat.le_of_ble_eq_true rfl) fun a H => c_seq fun K2 hK2 => c_reg <| s_assign H rfl rfl (lt_ rfl) fun a H => c_nil <| hK2 _ _ <| c_seq fun K3 hK3 => c_reg ?_
 replace h := h.get
 obtain ⟨b4, w5, n6, h⟩ := h
 refine s_bslc H rfl (by rw [H.parts (vs := []) rfl]; exact bs_22_0 w) (lt_ rfl) ?_
 rw [← n6.at_]
 clear H a
 intro a H
 refine n6.go <| s_move H rfl rfl (lt_ rfl) fun a H => ?_
 obtain ⟨s7, w8, h9, h⟩ := h
 refine s_blt H rfl (H.args (vs := [(Slc.v (Slc.mk (some (blk b4)) 0 0)), d1.v]) rfl) (lt_ rfl) (fun cs => b_app (z := s7) h9) ?_
 clear H a h9
 intro a H
 refine s_build H rfl (by rw [H.parts (vs := [(0, s7.v)]) rfl]; exact bd_116_s0 w8 s7) (lt_ rfl) fun a H => ?_
 replace h := h.get
 obtain ⟨b10, w11, n12, h⟩ := h
 refine s_box H rfl rfl (lt_ rfl) ?_
 rw [← n12.at_]
 clear H a
 intro a H
 refine n12.go <| s_assign H rfl rfl (lt_ rfl) fun a H => c_nil <| hK3 _ _ <| c_ret ?_
 exact e_ret1 H rfl rfl h

theorem sim_sherdref07_Reader_Byte (r1 : Option Addr) (w : World) (Q : Ending → World → Prop) (h : vc_sherdref07_Reader_Byte r1 w Q) : Calls PP F_sherdref07_Reader_Byte #[(.pointer r1)] w Q := by
 unfold vc_sherdref07_Reader_Byte at h
 refine enter (n := 39) Tryz.func41 rfl rfl (Nat.le_of_ble_eq_true rfl) fun a H => c_seq fun K2 hK2 => c_reg <| s_assign H rfl rfl (lt_ rfl) fun a H => c_nil <| hK2 _ _ <| c_seq fun K3 hK3 => c_seq fun K4 hK4 => c_reg <| s_move H rfl rfl (lt_ rfl) fun a H => ?_
 obtain ⟨a5, h41, h⟩ := h
 subst h41
 refine s_nil H rfl rfl (lt_ rfl) fun a H => s_fld H rfl rfl fld_116_2 (lt_ rfl) fun a H => ?_
 obtain ⟨l6, hc7, h⟩ := h
 refine s_load (v := (.i l6)) H rfl rfl one_30 hc7 (lt_ rfl) fun a H => s_bin H rfl rfl rfl r_neq (lt_ rfl) fun a H => c_nil <| hK4 _ _ <| c_cond H rfl (fun h8 => ?_) (fun h8 => ?_)
 ·replace h := h.1 h8
  refine c_seq fun K9 hK9 => c_reg <| s_assign H rfl rfl (lt_ rfl) fun a H => c_nil <| hK9 _ _ <| c_ret ?_
  exact e_ret1 H rfl rfl h
 ·replace h := h.2 h8
  refine c_skip <| hK3 _ _ <| c_seq fun K10 hK10 => c_seq fun K11 hK11 => c_regD mixed (by kernel_rfl) <| z_move H rfl rfl (lt_ rfl) fun a H => z_nil H rfl rfl (lt_ rfl) fun a H => z_fld H rfl rfl fld_116_1 (lt_ rfl) fun a H => ?_
  obtain ⟨l13, hc14, h⟩ := h
  refine z_load (v := (.i l13)) H rfl rfl one_3 hc14 (lt_ rfl) fun a H => z_move H rfl rfl (lt_ rfl) fun a H => z_nil H rfl rfl (lt_ rfl) fun a H => z_fld H rfl rfl fld_116_0 (lt_ rfl) fun a H => ?_
  obtain ⟨l15, hc16, h⟩ := h
  refine z_load (v := l15.v) H rfl rfl one_22 hc16 (lt_ rfl) fun a H => z_blt H rfl (H.args (vs := [l15.v]) rfl) (lt_ rfl) (fun cs w => b_lenS (z := l15) sl_22) fun a H => z_bin H rfl rfl rfl r_eql (lt_ rfl) fun a H => wpQuiet_nil ?_
  rintro _ ⟨k12, rfl⟩
  replace h := h k12
  refine hK11 _ _ <| c_cond H rfl (fun h17 => ?_) (fun h17 => ?_)
  ·replace h := h.1 h17
   refine c_seq fun K18 hK18 => c_reg <| s_move H rfl rfl (lt_ rfl) fun a H => s_nil H rfl rfl (lt_ rfl) fun a H => s_fld H rfl rfl fld_116_2 (lt_ rfl) fun a H => ?_
   obtain ⟨h20, h21, h⟩ := h
   refine s_sto (p := a5.add 2) (v := (.i 30)) H rfl rfl rfl rfl one_30 rfl h20 h21 ?_
   clear H
   intro H
   generalize hww19 : World.setCell (w.drewN k12) (a5.add 2) (.i 30) = w19 at h ⊢
   have w19S : SetAt (w.drewN k12) (a5.add 2) (.i 30) w19 := ⟨hww19.symm⟩
   clear hww19 h20 h21
   refine c_nil <| hK18 _ _ <| c_seq fun K22 hK22 => c_reg <| s_assign H rfl rfl (lt_ rfl) fun a H => c_nil <| hK22 _ _ <| c_ret ?_
   exact e_ret1 H rfl rfl h
  ·replace h := h.2 h17
   refine c_skip <| hK10 _ _ <| c_seq fun K23 hK23 => c_reg <| s_move H rfl rfl (lt_ rfl) fun a H => s_nil H rfl rfl (lt_ rfl) fun a H => s_fld H rfl rfl fld_116_1 (lt_ rfl) fun a H => ?_
   obtain ⟨l24, hc25, h⟩ := h
   refine s_load (v := (.i l24)) H rfl rfl one_3 hc25 (lt_ rfl) fun a H => s_bin H rfl rfl rfl r_add (lt_ rfl) fun a H => s_nil H rfl rfl (lt_ rfl) fun a H => s_fld H rfl rfl fld_116_1 (lt_ rfl) fun a H => ?_
   obtain ⟨h27, h28, h⟩ := h
   refine s_sto (p := a5.add 1) (v := (.i (wr .i64 (l24 + 1)))) H rfl rfl rfl rfl one_3 rfl h27 h28 ?_
   clear H
   intro H
   generalize hww26 : World.setCell (w.drewN k12) (a5.add 1) (.i (wr .i64 (l24 + 1))) = w26 at h ⊢
   have w26S : SetAt (w.drewN k12) (a5.add 1) (.i (wr .i64 (l24 + 1))) w26 := ⟨hww26.symm⟩
   clear hww26 h27 h28
   refine c_nil <| hK23 _ _ <| c_seq fun K29 hK29 => c_regD mixed (by kernel_rfl) <| z_move H rfl rfl (lt_ rfl) fun a H => z_nil H rfl rfl (lt_ rfl) fun a H => z_fld H rfl rfl fld_116_0 (lt_ rfl) fun a H => ?_
   obtain ⟨l31, hc32, h⟩ := h
   refine z_load (v := l31.v) H rfl rfl one_22 hc32 (lt_ rfl) fun a H => z_move H rfl rfl (lt_ rfl) fun a H => z_nil H rfl rfl (lt_ rfl) fun a H => z_fld H rfl rfl fld_116_1 (lt_ rfl) fun a H => ?_
   obtain ⟨l33, hc34, h⟩ := h
   refine z_load (v := (.i l33)) H rfl rfl one_3 hc34 (lt_ rfl) fun a H => z_bin H rfl rfl rfl r_sub (lt_ rfl) fun a H => ?_
   obtain ⟨a35, h36, h37, h38, h⟩ := h
   refine z_idxS (s := l31) H rfl rfl rfl slc_22 h36 h37 h38 (lt_ rfl) fun a H => ?_
   obtain ⟨l39, hc40, h⟩ := h
   refine z_load (v := (.int .u8 l39)) H rfl rfl one_5 hc40 (lt_ rfl) fun a H => z_assign H rfl rfl (lt_ rfl) fun a H => wpQuiet_nil ?_
   rintro _ ⟨k30, rfl⟩
   replace h := h k30
   refine hK29 _ _ <| c_ret ?_
   exact e_ret1 H rfl rfl h
end Go.Proofs.YtnhgnfflihoaiaaGreatDoor
