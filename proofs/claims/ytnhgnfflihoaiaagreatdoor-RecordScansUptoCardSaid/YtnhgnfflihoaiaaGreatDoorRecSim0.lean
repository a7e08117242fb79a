/-
  The conditions give the machine's calls; printed by vcgen.py.
-/
import Derived.Test.YtnhgnfflihoaiaaGreatDoorRecVc
namespace Go.Proofs.YtnhgnfflihoaiaaGreatDoor
open Go Go.Vc
set_option maxRecDepth 100000
set_option maxHeartbeats 4000000
theorem sim_sherdlaw11_RecordScans (d1 : Slc) (K2 : Int) (K3 : ByteArray) (C4 C5 : Int) (F6 H7 : Bool) (D8 : Slc) (w : World) (Q : Ending → World → Prop) (h : vc_sherdlaw11_RecordScans d1 K2 K3 C4 C5 F6 H7 D8 w Q) : Calls PP F_sherdlaw11_RecordScans #[d1.v, (.agg #[(.i K2), (.string K3), (.i C4), (.i C5), (.bool F6), (.bool H7), D8.v])] w Q := by
 unfold vc_sherdlaw11_RecordScans at h
 refine enter (n := 35) Tryz.func3 rfl rfl (Nat.le_of_ble_eq_true rfl) fun a H => c_seq fun K9 hK9 => c_reg ?_
 replace h := h.get
 obtain ⟨b10, w11, n12, h⟩ := h
 refine s_box H rfl rfl (lt_ rfl) ?_
 rw [← n12.at_]
 clear H a
 intro a H
 refine n12.go <| s_assign H rfl rfl (lt_ rfl) fun a H => c_nil <| hK9 _ _ <| c_seq fun K13 hK13 => c_reg <| s_build H rfl (by rw [H.parts (vs := [(0, (.i 3)), (1, (.i 1))]) rfl]; exact bd_34_ii640_ii641 w11 3 1) (lt_ rfl) fun a H => s_build H rfl (by rw [H.parts (vs := [(0, (.agg #[(.i 3), (.i 1), (.i 0)])), (1, (.i 2))]) rfl]; exact bd_36_ii64ii64ii640_ii641 w11 3 1 0 2) (lt_ rfl) fun a H => ?_
 refine s_call H rfl body_4 (H.args (vs := [(.agg #[(.i 3), (.i 1), (.i 0), (.i 2)])]) rfl) (lt_ rfl) h ?_ (fun c w' h H => e_panic (P := PP) (fn := Tryz.f3) H h)
 clear H h a
 rintro _ w14 a ⟨N15, N16, N17, rfl, h⟩ H
 refine s_move H rfl rfl (lt_ rfl) fun a H => ?_
 iterate 3 refine s_ext H rfl rfl rfl (lt_ rfl) fun a H => ?_
 iterate 3 refine s_assign H rfl rfl (lt_ rfl) fun a H => ?_
 refine c_nil <| hK13 _ _ <| c_seq fun K18 hK18 => c_seq fun K19 hK19 => c_reg <| s_move H rfl rfl (lt_ rfl) fun a H => s_bin H rfl rfl rfl (r_eqP0 ptr_29) (lt_ rfl) fun a H => s_move H rfl rfl (lt_ rfl) fun a H => g_join (n := 35) [(20, (.bool (N15.isNone || (decide (N17 ≠ 0))))), (0, d1.v), (3, (.pointer (some (blk b10)))), (6, N16.v)] (.succ (.succ (.succ (.zero _)))) ?_ ?_
 ·intro h21
  try clear h
  rcases Bool.eq_false_or_eq_true N15.isNone with h20 | h20
  ·replace H := H.ch (t := 17) (b := true) rfl h20
   refine s_skip H (wantN H rfl rfl rfl) rfl (lt_ rfl) fun a H => s_skip H (wantN H rfl rfl rfl) rfl (lt_ rfl) fun a H => s_pickT H rfl rfl rfl (lt_ rfl) fun a H => ?_
   exact h21 _ (H.weaken ⟨by rw [h20]; rfl, rfl, rfl, rfl, trivial⟩)
  ·replace H := H.ch (t := 17) (b := false) rfl h20
   refine s_move H (wantG H rfl rfl) rfl (lt_ rfl) fun a H => s_bin H (wantG H rfl rfl) rfl rfl r_neq (lt_ rfl) fun a H => s_pickF H rfl rfl rfl (lt_ rfl) fun a H => ?_
   exact h21 _ (H.weaken ⟨by rw [h20]; rfl, rfl, rfl, rfl, trivial⟩)
 ·clear H a
  intro a H
  refine s_move H rfl rfl (lt_ rfl) fun a H => g_join (n := 35) [(25, (.bool ((N15.isNone || (decide (N17 ≠ 0))) || (decide ((N16.l : Int) ≠ 9))))), (0, d1.v), (3, (.pointer (some (blk b10)))), (6, N16.v)] (.succ (.succ (.succ (.succ (.zero _))))) ?_ ?_
  ·intro h23
   try clear h
   rcases Bool.eq_false_or_eq_true (N15.isNone || (decide (N17 ≠ 0))) with h22 | h22
   ·replace H := H.ch (t := 21) (b := true) rfl h22
    iterate 3 refine s_skip H (wantN H rfl rfl rfl) rfl (lt_ rfl) fun a H => ?_
    refine s_pickT H rfl rfl rfl (lt_ rfl) fun a H => ?_
    exact h23 _ (H.weaken ⟨by rw [h22]; rfl, rfl, rfl, rfl, trivial⟩)
   ·replace H := H.ch (t := 21) (b := false) rfl h22
    refine s_move H (wantG H rfl rfl) rfl (lt_ rfl) fun a H => s_blt H (wantG H rfl rfl) (H.args (vs := [N16.v]) rfl) (lt_ rfl) (fun cs => b_lenS (z := N16) sl_22) fun a H => s_bin H (wantG H rfl rfl) rfl rfl r_neq (lt_ rfl) fun a H => s_pickF H rfl rfl rfl (lt_ rfl) fun a H => ?_
    exact h23 _ (H.weaken ⟨by rw [h22]; rfl, rfl, rfl, rfl, trivial⟩)
  ·clear H a
   intro a H
   refine s_move H rfl rfl (lt_ rfl) fun a H => ?_
   obtain ⟨x32, h33, h34, h⟩ := h
   refine g_join (n := 35) [(31, (.bool x32)), (0, d1.v), (3, (.pointer (some (blk b10))))] (.succ (.succ (.succ (.succ (.succ (.zero _)))))) ?_ ?_
   ·intro h25
    try clear h
    rcases Bool.eq_false_or_eq_true ((N15.isNone || (decide (N17 ≠ 0))) || (decide ((N16.l : Int) ≠ 9))) with h24 | h24
    ·replace H := H.ch (t := 26) (b := true) rfl h24
     iterate 4 refine s_skip H (wantN H rfl rfl rfl) rfl (lt_ rfl) fun a H => ?_
     refine s_pickT H rfl rfl rfl (lt_ rfl) fun a H => ?_
     replace h := h34 h24
     subst h
     exact h25 _ (H.weaken ⟨rfl, rfl, rfl, trivial⟩)
    ·replace H := H.ch (t := 26) (b := false) rfl h24
     replace h := h33 h24
     refine s_move H (wantG H rfl rfl) rfl (lt_ rfl) fun a H => ?_
     obtain ⟨a26, h27, h28, h29, h⟩ := h
     refine s_idxS (s := N16) H (wantG H rfl rfl) rfl rfl slc_22 h27 h28 h29 (lt_ rfl) fun a H => ?_
     obtain ⟨l30, hc31, h⟩ := h
     refine s_load (v := (.int .u8 l30)) H (wantG H rfl rfl) rfl one_5 hc31 (lt_ rfl) fun a H => s_bin H (wantG H rfl rfl) rfl rfl r_neq (lt_ rfl) fun a H => s_pickF H rfl rfl rfl (lt_ rfl) fun a H => ?_
     subst h
     exact h25 _ (H.weaken ⟨rfl, rfl, rfl, trivial⟩)
   ·clear H a
    clear h33 h34
    intro a H
    refine c_nil <| hK19 _ _ <| c_cond H rfl (fun h35 => ?_) (fun h35 => ?_)
    ·replace h := h.1 h35
     refine c_seq fun K36 hK36 => c_reg <| s_assign H rfl rfl (lt_ rfl) fun a H => c_nil <| hK36 _ _ <| c_ret ?_
     exact e_ret1 H rfl rfl h
    ·replace h := h.2 h35
     refine c_skip <| hK18 _ _ <| c_seq fun K37 hK37 => c_reg <| s_move H rfl rfl (lt_ rfl) fun a H => ?_
     obtain ⟨K38, hc39, K40, hc41, C42, hc43, C44, hc45, F46, hc47, H48, hc49, D50, hc51, h⟩ := h
     refine s_loadN (l := [(.i K38), (.string K40), (.i C42), (.i C44), (.bool F46), (.bool H48), D50.v]) H rfl rfl agg_28 rfl ⟨hc39, hc41, hc43, hc45, hc47, hc49, hc51, trivial⟩ (lt_ rfl) fun a H => s_call H rfl body_5 (H.args (vs := [d1.v, (.agg #[(.i K38), (.string K40), (.i C42), (.i C44), (.bool F46), (.bool H48), D50.v])]) rfl) (lt_ rfl) h ?_ (fun c w' h H => e_panic (P := PP) (fn := Tryz.f3) H h)
     clear H h a
     rintro _ w52 a ⟨s53, rfl, h⟩ H
     refine s_assign H rfl rfl (lt_ rfl) fun a H => c_nil <| hK37 _ _ <| c_ret ?_
     exact e_ret1 H rfl rfl h

theorem sim_record_New (N1 K2 D3 S4 : Int) (w : World) (Q : Ending → World → Prop) (h : vc_record_New N1 K2 D3 S4 w Q) : Calls PP F_record_New #[(.agg #[(.i N1), (.i K2), (.i D3), (.i S4)])] w Q := by
 unfold vc_record_New at h
 refine enter (n := 23) Tryz.func4 rfl rfl (Nat.le_of_ble_eq_true rfl) fun a H => c_seq fun K5 hK5 => c_reg ?_
 replace h := h.get
 obtain ⟨b6, w7, n8, h⟩ := h
 refine s_box H rfl rfl (lt_ rfl) ?_
 rw [← n8.at_]
 clear H a
 intro a H
 refine n8.go ?_
 iterate 3 refine s_assign H rfl rfl (lt_ rfl) fun a H => ?_
 refine c_nil <| hK5 _ _ <| c_seq fun K9 hK9 => c_seq fun K10 hK10 => c_reg <| s_loadN (l := [(.i N1), (.i K2), (.i D3), (.i S4)]) H rfl rfl agg_36 rfl ⟨(n8.cell (i := 0) rfl), (n8.cell (i := 1) rfl), (n8.cell (i := 2) rfl), (n8.cell (i := 3) rfl), trivial⟩ (lt_ rfl) fun a H => s_call H rfl body_6 (H.args (vs := [(.agg #[(.i N1), (.i K2), (.i D3), (.i S4)])]) rfl) (lt_ rfl) h ?_ (fun c w' h H => e_panic (P := PP) (fn := Tryz.f4) H h)
 clear H h a
 rintro _ w11 a ⟨m12, rfl, h⟩ H
 refine s_assign H rfl rfl (lt_ rfl) fun a H => c_nil <| hK10 _ _ <| c_seq fun K13 hK13 => c_reg <| s_move H rfl rfl (lt_ rfl) fun a H => s_bin H rfl rfl rfl r_neq (lt_ rfl) fun a H => c_nil <| hK13 _ _ <| c_cond H rfl (fun h14 => ?_) (fun h14 => ?_)
 ·replace h := h.1 h14
  refine c_seq fun K15 hK15 => c_reg <| s_move H rfl rfl (lt_ rfl) fun a H => ?_
  iterate 3 refine s_assign H rfl rfl (lt_ rfl) fun a H => ?_
  refine c_nil <| hK15 _ _ <| c_ret ?_
  exact e_ret3 H rfl rfl rfl rfl h
 ·replace h := h.2 h14
  refine c_skip <| hK9 _ _ <| c_seq fun K16 hK16 => c_reg ?_
  obtain ⟨N17, hc18, K19, hc20, D21, hc22, S23, hc24, h⟩ := h
  refine s_loadN (l := [(.i N17), (.i K19), (.i D21), (.i S23)]) H rfl rfl agg_36 rfl ⟨hc18, hc20, hc22, hc24, trivial⟩ (lt_ rfl) fun a H => s_call H rfl body_7 (H.args (vs := [(.agg #[(.i N17), (.i K19), (.i D21), (.i S23)])]) rfl) (lt_ rfl) h ?_ (fun c w' h H => e_panic (P := PP) (fn := Tryz.f4) H h)
  clear H h a
  rintro _ w25 a ⟨h26, rfl, h⟩ H
  refine s_assign H rfl rfl (lt_ rfl) fun a H => c_nil <| hK16 _ _ <| c_seq fun K27 hK27 => c_reg <| s_move H rfl rfl (lt_ rfl) fun a H => s_move H rfl rfl (lt_ rfl) fun a H => s_blt H rfl (H.args (vs := [h26.v]) rfl) (lt_ rfl) (fun cs => b_lenS (z := h26) sl_22) fun a H => s_bin H rfl rfl rfl r_sub (lt_ rfl) fun a H => ?_
  obtain ⟨h28, h29, h30, h⟩ := h
  refine s_slice (v := (Slc.v (h26.cut 1 (Int.toNat (wr .i64 ((h26.l : Int) - 4))) (Int.toNat ((h26.l : Int)))))) H rfl rfl ⟨rfl, rfl⟩ ⟨rfl, rfl⟩ ⟨rfl, rfl⟩ (r_sliceSlc (lo := (some (.i64, wr .i64 ((h26.l : Int) - 4)))) (hi := none) slc_22 rfl rfl h28 h29 h30) (lt_ rfl) fun a H => s_call H rfl body_8 (H.args (vs := [(Slc.v (h26.cut 1 (Int.toNat (wr .i64 ((h26.l : Int) - 4))) (Int.toNat ((h26.l : Int)))))]) rfl) (lt_ rfl) h ?_ (fun c w' h H => e_panic (P := PP) (fn := Tryz.f4) H h)
  clear H h a
  rintro _ w31 a ⟨C32, rfl, h⟩ H
  refine s_build H rfl (by rw [H.parts (vs := [(0, C32.v)]) rfl]; exact bd_42_s0 w31 C32) (lt_ rfl) fun a H => ?_
  replace h := h.get
  obtain ⟨b33, w34, n35, h⟩ := h
  refine s_box H rfl rfl (lt_ rfl) ?_
  rw [← n35.at_]
  clear H a
  intro a H
  refine n35.go <| s_move H rfl rfl (lt_ rfl) fun a H => ?_
  iterate 3 refine s_assign H rfl rfl (lt_ rfl) fun a H => ?_
  refine c_nil <| hK27 _ _ <| c_ret ?_
  exact e_ret3 H rfl rfl rfl rfl h

theorem sim_sherdlaw11_scanned (d1 : Slc) (K2 : Int) (K3 : ByteArray) (C4 C5 : Int) (F6 H7 : Bool) (D8 : Slc) (w : World) (Q : Ending → World → Prop) (h : vc_sherdlaw11_scanned d1 K2 K3 C4 C5 F6 H7 D8 w Q) : Calls PP F_sherdlaw11_scanned #[d1.v, (.agg #[(.i K2), (.string K3), (.i C4), (.i C5), (.bool F6), (.bool H7), D8.v])] w Q := by
 unfold vc_sherdlaw11_scanned at h
 refine enter (n := 155) Tryz.func5 rfl rfl (Nat.le_of_ble_eq_true rfl) fun a H => c_seq fun K9 hK9 => c_reg ?_
 replace h := h.get
 obtain ⟨b10, w11, n12, h⟩ := h
 refine s_box H rfl rfl (lt_ rfl) ?_
 rw [← n12.at_]
 clear H a
 intro a H
 refine n12.go <| s_assign H rfl rfl (lt_ rfl) fun a H => c_nil <| hK9 _ _ <| c_seq fun K13 hK13 => c_reg <| s_move H rfl rfl (lt_ rfl) fun a H => s_call H rfl body_9 (H.args (vs := [d1.v]) rfl) (lt_ rfl) h ?_ (fun c w' h H => e_panic (P := PP) (fn := Tryz.f5) H h)
 clear H h a
 rintro _ w14 a ⟨l15, rfl, h⟩ H
 refine s_assign H rfl rfl (lt_ rfl) fun a H => c_nil <| hK13 _ _ <| c_seq fun K16 hK16 => c_reg <| s_move H rfl rfl (lt_ rfl) fun a H => s_call H rfl body_10 (H.args (vs := [d1.v]) rfl) (lt_ rfl) h ?_ (fun c w' h H => e_panic (P := PP) (fn := Tryz.f5) H h)
 clear H h a
 rintro _ w17 a ⟨N18, K19, D20, S21, S22, S23, S24, S25, S26, rfl, h⟩ H
 refine s_move H rfl rfl (lt_ rfl) fun a H => ?_
 iterate 6 refine s_ext H rfl rfl rfl (lt_ rfl) fun a H => ?_
 replace h := h.get
 obtain ⟨b27, w28, n29, h⟩ := h
 refine s_alloc H rfl zero_36 (lt_ rfl) ?_
 rw [← n29.at_]
 clear H a
 intro a H
 refine n29.go <| s_stoN (l := [(.i N18), (.i K19), (.i D20), (.i S21)]) H rfl rfl rfl rfl agg_36 rfl rfl h ?_
 clear h H
 intro w30 h H
 iterate 5 refine s_assign H rfl rfl (lt_ rfl) fun a H => ?_
 refine c_nil <| hK16 _ _ <| c_seq fun K31 hK31 => c_reg ?_
 replace h := h.get
 obtain ⟨b32, w33, n34, h⟩ := h
 refine s_bslc H rfl (by rw [H.parts (vs := []) rfl]; exact bs_22_0 w30) (lt_ rfl) ?_
 rw [← n34.at_]
 clear H a
 intro a H
 refine n34.go <| s_move H rfl rfl (lt_ rfl) fun a H => ?_
 obtain ⟨s35, w36, h37, h⟩ := h
 refine s_blt H rfl (H.args (vs := [(Slc.v (Slc.mk (some (blk b32)) 0 0)), d1.v]) rfl) (lt_ rfl) (fun cs => b_app (z := s35) h37) ?_
 clear H a h37
 intro a H
 refine s_assign H rfl rfl (lt_ rfl) fun a H => c_nil <| hK31 _ _ <| c_seq fun K38 hK38 => ?_
 obtain ⟨R39, h, h389⟩ := h
 have h373 : ∀ (a : Act) (w40 : World), R39 w40 → Has 155 [] a [(0, d1.v), (3, (.pointer (some (blk b10)))), (5, l15.v), (10, (.pointer S25)), (12, s35.v)] → K38 a w40 := by
  clear h
  intro a w40 h H
  replace h := h389 w40 h
  refine hK38 _ _ <| c_seq fun K41 hK41 => ?_
  replace H := H.weaken (L' := [(0, d1.v), (3, (.pointer (some (blk b10)))), (5, l15.v), (10, (.pointer S25)), (12, s35.v)]) ⟨rfl, rfl, rfl, rfl, rfl, trivial⟩
  obtain ⟨h42, h43, h44, h45, h46, h47, h⟩ := h
  refine c_any (V := [(0, l15.v), (1, d1.v), (2, (.i (d1.l : Int))), (3, (Slc.v (l15.cut 1 (Int.toNat (0)) (Int.toNat ((d1.l : Int)))))), (5, s35.v), (7, l15.v), (8, d1.v), (9, (.i (d1.l : Int))), (10, (Slc.v (l15.cut 1 (Int.toNat (0)) (Int.toNat ((d1.l : Int))))))]) (⟨[[], [], [1], [0, 2], [3], [], [4, 5], [], [], [8], [7, 9], [6, 10], [4, 6, 11], [0, 1, 2, 3, 4, 5, 6, 7, 8, 9, 10, 11, 12]], [some 44, some 45, some 46, some 47, some 48, some 49, some 50, some 51, some 52, some 53, some 54, some 55, some 56, some 13], [4, 6, 11, 12], [0, 0, 0, 0, 0, 0, 1, 0, 0, 0, 0, 2, 3, 4], [0, 0, 0, 0, 1, 1, 2, 2, 2, 2, 2, 3, 4, 4]⟩ : Rg) [(0, d1.v), (3, (.pointer (some (blk b10)))), (5, l15.v), (10, (.pointer S25)), (12, s35.v)] mixed (by kernel_rfl) H ?_
  refine Stg.eff [0, 1, 2, 3, 5, 7, 8, 9, 10] (by kernel_rfl) rfl (.cons ?_ (.cons ?_ (.cons ?_ (.cons ?_ (.cons ?_ (.cons ?_ (.cons ?_ (.cons ?_ (.cons ?_ .nil))))))))) ?_
  ·refine Ans.mk rfl rfl fun a H => ?_
   replace H := H.weaken (L' := [(5, l15.v)]) ⟨rfl, trivial⟩
   refine s_move H rfl rfl (lt_ rfl) fun a H => c_nil ⟨rfl, rfl, H.weaken (L' := [(44, l15.v)]) ⟨rfl, trivial⟩⟩
  ·refine Ans.mk rfl rfl fun a H => ?_
   replace H := H.weaken (L' := [(0, d1.v)]) ⟨rfl, trivial⟩
   refine s_move H rfl rfl (lt_ rfl) fun a H => c_nil ⟨rfl, rfl, H.weaken (L' := [(45, d1.v)]) ⟨rfl, trivial⟩⟩
  ·refine Ans.mk rfl rfl fun a H => ?_
   replace H := H.weaken (L' := [(45, d1.v)]) ⟨rfl, trivial⟩
   refine s_blt H rfl (H.args (vs := [d1.v]) rfl) (lt_ rfl) (fun cs => b_lenS (z := d1) sl_22) fun a H => c_nil ⟨rfl, rfl, H.weaken (L' := [(46, (.i (d1.l : Int)))]) ⟨rfl, trivial⟩⟩
  ·refine Ans.mk rfl rfl fun a H => ?_
   replace H := H.weaken (L' := [(44, l15.v), (46, (.i (d1.l : Int)))]) ⟨rfl, rfl, trivial⟩
   refine s_slice (v := (Slc.v (l15.cut 1 (Int.toNat (0)) (Int.toNat ((d1.l : Int)))))) H rfl rfl ⟨rfl, rfl⟩ ⟨rfl, rfl⟩ ⟨rfl, rfl⟩ (r_sliceSlc (lo := none) (hi := (some (.i64, (d1.l : Int)))) slc_22 rfl rfl h42 h43 h44) (lt_ rfl) fun a H => c_nil ⟨rfl, rfl, H.weaken (L' := [(47, (Slc.v (l15.cut 1 (Int.toNat (0)) (Int.toNat ((d1.l : Int))))))]) ⟨rfl, trivial⟩⟩
  ·refine Ans.mk rfl rfl fun a H => ?_
   replace H := H.weaken (L' := [(12, s35.v)]) ⟨rfl, trivial⟩
   refine s_move H rfl rfl (lt_ rfl) fun a H => c_nil ⟨rfl, rfl, H.weaken (L' := [(49, s35.v)]) ⟨rfl, trivial⟩⟩
  ·refine Ans.mk rfl rfl fun a H => ?_
   replace H := H.weaken (L' := [(5, l15.v)]) ⟨rfl, trivial⟩
   refine s_move H rfl rfl (lt_ rfl) fun a H => c_nil ⟨rfl, rfl, H.weaken (L' := [(51, l15.v)]) ⟨rfl, trivial⟩⟩
  ·refine Ans.mk rfl rfl fun a H => ?_
   replace H := H.weaken (L' := [(0, d1.v)]) ⟨rfl, trivial⟩
   refine s_move H rfl rfl (lt_ rfl) fun a H => c_nil ⟨rfl, rfl, H.weaken (L' := [(52, d1.v)]) ⟨rfl, trivial⟩⟩
  ·refine Ans.mk rfl rfl fun a H => ?_
   replace H := H.weaken (L' := [(52, d1.v)]) ⟨rfl, trivial⟩
   refine s_blt H rfl (H.args (vs := [d1.v]) rfl) (lt_ rfl) (fun cs => b_lenS (z := d1) sl_22) fun a H => c_nil ⟨rfl, rfl, H.weaken (L' := [(53, (.i (d1.l : Int)))]) ⟨rfl, trivial⟩⟩
  ·refine Ans.mk rfl rfl fun a H => ?_
   replace H := H.weaken (L' := [(51, l15.v), (53, (.i (d1.l : Int)))]) ⟨rfl, rfl, trivial⟩
   refine s_slice (v := (Slc.v (l15.cut 1 (Int.toNat (0)) (Int.toNat ((d1.l : Int)))))) H rfl rfl ⟨rfl, rfl⟩ ⟨rfl, rfl⟩ ⟨rfl, rfl⟩ (r_sliceSlc (lo := none) (hi := (some (.i64, (d1.l : Int)))) slc_22 rfl rfl h45 h46 h47) (lt_ rfl) fun a H => c_nil ⟨rfl, rfl, H.weaken (L' := [(54, (Slc.v (l15.cut 1 (Int.toNat (0)) (Int.toNat ((d1.l : Int))))))]) ⟨rfl, trivial⟩⟩
  ·intro a H
   replace H := H.weaken (L' := [(47, (Slc.v (l15.cut 1 (Int.toNat (0)) (Int.toNat ((d1.l : Int))))))]) ⟨rfl, trivial⟩
   refine s_call H rfl body_11 (H.args (vs := [(Slc.v (l15.cut 1 (Int.toNat (0)) (Int.toNat ((d1.l : Int)))))]) rfl) (lt_ rfl) h ?_ (fun c w' h H => e_panic (P := PP) (fn := Tryz.f5) H h)
   clear H h a
   rintro _ w48 a ⟨N49, K50, D51, S52, u53, e54, w55, w56, e57, rfl, h⟩ H
   refine c_nil ?_
   refine effQ.ok (v := (.agg #[(.i N49), (.i K50), (.i D51), (.i S52), u53.v, e54.v, (.i w55), (.pointer w56), (.i e57)])) (H.weaken (L' := [(48, (.agg #[(.i N49), (.i K50), (.i D51), (.i S52), u53.v, e54.v, (.i w55), (.pointer w56), (.i e57)]))]) ⟨rfl, trivial⟩) ⟨[(0, l15.v), (1, d1.v), (2, (.i (d1.l : Int))), (3, (Slc.v (l15.cut 1 (Int.toNat (0)) (Int.toNat ((d1.l : Int)))))), (5, s35.v), (7, l15.v), (8, d1.v), (9, (.i (d1.l : Int))), (10, (Slc.v (l15.cut 1 (Int.toNat (0)) (Int.toNat ((d1.l : Int)))))), (4, (.agg #[(.i N49), (.i K50), (.i D51), (.i S52), u53.v, e54.v, (.i w55), (.pointer w56), (.i e57)]))], ⟨rfl, rfl, rfl, rfl, rfl, rfl, rfl, rfl, rfl, rfl, trivial⟩, ?_⟩
   refine Stg.eff [5, 7, 8, 9, 10] (by kernel_rfl) rfl (.cons ?_ (.cons ?_ (.cons ?_ (.cons ?_ (.cons ?_ .nil))))) ?_
   ·refine Ans.mk rfl rfl fun a H => ?_
    replace H := H.weaken (L' := [(12, s35.v)]) ⟨rfl, trivial⟩
    refine s_move H rfl rfl (lt_ rfl) fun a H => c_nil ⟨rfl, rfl, H.weaken (L' := [(49, s35.v)]) ⟨rfl, trivial⟩⟩
   ·refine Ans.mk rfl rfl fun a H => ?_
    replace H := H.weaken (L' := [(5, l15.v)]) ⟨rfl, trivial⟩
    refine s_move H rfl rfl (lt_ rfl) fun a H => c_nil ⟨rfl, rfl, H.weaken (L' := [(51, l15.v)]) ⟨rfl, trivial⟩⟩
   ·refine Ans.mk rfl rfl fun a H => ?_
    replace H := H.weaken (L' := [(0, d1.v)]) ⟨rfl, trivial⟩
    refine s_move H rfl rfl (lt_ rfl) fun a H => c_nil ⟨rfl, rfl, H.weaken (L' := [(52, d1.v)]) ⟨rfl, trivial⟩⟩
   ·refine Ans.mk rfl rfl fun a H => ?_
    replace H := H.weaken (L' := [(52, d1.v)]) ⟨rfl, trivial⟩
    refine s_blt H rfl (H.args (vs := [d1.v]) rfl) (lt_ rfl) (fun cs => b_lenS (z := d1) sl_22) fun a H => c_nil ⟨rfl, rfl, H.weaken (L' := [(53, (.i (d1.l : Int)))]) ⟨rfl, trivial⟩⟩
   ·refine Ans.mk rfl rfl fun a H => ?_
    replace H := H.weaken (L' := [(51, l15.v), (53, (.i (d1.l : Int)))]) ⟨rfl, rfl, trivial⟩
    refine s_slice (v := (Slc.v (l15.cut 1 (Int.toNat (0)) (Int.toNat ((d1.l : Int)))))) H rfl rfl ⟨rfl, rfl⟩ ⟨rfl, rfl⟩ ⟨rfl, rfl⟩ (r_sliceSlc (lo := none) (hi := (some (.i64, (d1.l : Int)))) slc_22 rfl rfl h45 h46 h47) (lt_ rfl) fun a H => c_nil ⟨rfl, rfl, H.weaken (L' := [(54, (Slc.v (l15.cut 1 (Int.toNat (0)) (Int.toNat ((d1.l : Int))))))]) ⟨rfl, trivial⟩⟩
   ·intro a H
    replace H := H.weaken (L' := [(49, s35.v)]) ⟨rfl, trivial⟩
    refine s_call H rfl body_11 (H.args (vs := [s35.v]) rfl) (lt_ rfl) h ?_ (fun c w' h H => e_panic (P := PP) (fn := Tryz.f5) H h)
    clear H h a
    rintro _ w58 a ⟨N59, K60, D61, S62, u63, e64, w65, w66, e67, rfl, h⟩ H
    refine c_nil ?_
    refine effQ.ok (v := (.agg #[(.i N59), (.i K60), (.i D61), (.i S62), u63.v, e64.v, (.i w65), (.pointer w66), (.i e67)])) (H.weaken (L' := [(50, (.agg #[(.i N59), (.i K60), (.i D61), (.i S62), u63.v, e64.v, (.i w65), (.pointer w66), (.i e67)]))]) ⟨rfl, trivial⟩) ⟨[(0, l15.v), (1, d1.v), (2, (.i (d1.l : Int))), (3, (Slc.v (l15.cut 1 (Int.toNat (0)) (Int.toNat ((d1.l : Int)))))), (5, s35.v), (7, l15.v), (8, d1.v), (9, (.i (d1.l : Int))), (10, (Slc.v (l15.cut 1 (Int.toNat (0)) (Int.toNat ((d1.l : Int)))))), (4, (.agg #[(.i N49), (.i K50), (.i D51), (.i S52), u53.v, e54.v, (.i w55), (.pointer w56), (.i e57)])), (6, (.agg #[(.i N59), (.i K60), (.i D61), (.i S62), u63.v, e64.v, (.i w65), (.pointer w66), (.i e67)]))], ⟨rfl, rfl, rfl, rfl, rfl, rfl, rfl, rfl, rfl, rfl, rfl, trivial⟩, ?_⟩
    refine Stg.eff [7, 8, 9, 10] (by kernel_rfl) rfl (.cons ?_ (.cons ?_ (.cons ?_ (.cons ?_ .nil)))) ?_
    ·refine Ans.mk rfl rfl fun a H => ?_
     replace H := H.weaken (L' := [(5, l15.v)]) ⟨rfl, trivial⟩
     refine s_move H rfl rfl (lt_ rfl) fun a H => c_nil ⟨rfl, rfl, H.weaken (L' := [(51, l15.v)]) ⟨rfl, trivial⟩⟩
    ·refine Ans.mk rfl rfl fun a H => ?_
     replace H := H.weaken (L' := [(0, d1.v)]) ⟨rfl, trivial⟩
     refine s_move H rfl rfl (lt_ rfl) fun a H => c_nil ⟨rfl, rfl, H.weaken (L' := [(52, d1.v)]) ⟨rfl, trivial⟩⟩
    ·refine Ans.mk rfl rfl fun a H => ?_
     replace H := H.weaken (L' := [(52, d1.v)]) ⟨rfl, trivial⟩
     refine s_blt H rfl (H.args (vs := [d1.v]) rfl) (lt_ rfl) (fun cs => b_lenS (z := d1) sl_22) fun a H => c_nil ⟨rfl, rfl, H.weaken (L' := [(53, (.i (d1.l : Int)))]) ⟨rfl, trivial⟩⟩
    ·refine Ans.mk rfl rfl fun a H => ?_
     replace H := H.weaken (L' := [(51, l15.v), (53, (.i (d1.l : Int)))]) ⟨rfl, rfl, trivial⟩
     refine s_slice (v := (Slc.v (l15.cut 1 (Int.toNat (0)) (Int.toNat ((d1.l : Int)))))) H rfl rfl ⟨rfl, rfl⟩ ⟨rfl, rfl⟩ ⟨rfl, rfl⟩ (r_sliceSlc (lo := none) (hi := (some (.i64, (d1.l : Int)))) slc_22 rfl rfl h45 h46 h47) (lt_ rfl) fun a H => c_nil ⟨rfl, rfl, H.weaken (L' := [(54, (Slc.v (l15.cut 1 (Int.toNat (0)) (Int.toNat ((d1.l : Int))))))]) ⟨rfl, trivial⟩⟩
    ·intro a H
     replace H := H.weaken (L' := [(54, (Slc.v (l15.cut 1 (Int.toNat (0)) (Int.toNat ((d1.l : Int))))))]) ⟨rfl, trivial⟩
     refine s_call H rfl body_11 (H.args (vs := [(Slc.v (l15.cut 1 (Int.toNat (0)) (Int.toNat ((d1.l : Int)))))]) rfl) (lt_ rfl) h ?_ (fun c w' h H => e_panic (P := PP) (fn := Tryz.f5) H h)
     clear H h a
     rintro _ w68 a ⟨N69, K70, D71, S72, u73, e74, w75, w76, e77, rfl, h⟩ H
     refine c_nil ?_
     refine effQ.ok (v := (.agg #[(.i N69), (.i K70), (.i D71), (.i S72), u73.v, e74.v, (.i w75), (.pointer w76), (.i e77)])) (H.weaken (L' := [(55, (.agg #[(.i N69), (.i K70), (.i D71), (.i S72), u73.v, e74.v, (.i w75), (.pointer w76), (.i e77)]))]) ⟨rfl, trivial⟩) ⟨[(0, l15.v), (1, d1.v), (2, (.i (d1.l : Int))), (3, (Slc.v (l15.cut 1 (Int.toNat (0)) (Int.toNat ((d1.l : Int)))))), (5, s35.v), (7, l15.v), (8, d1.v), (9, (.i (d1.l : Int))), (10, (Slc.v (l15.cut 1 (Int.toNat (0)) (Int.toNat ((d1.l : Int)))))), (4, (.agg #[(.i N49), (.i K50), (.i D51), (.i S52), u53.v, e54.v, (.i w55), (.pointer w56), (.i e57)])), (6, (.agg #[(.i N59), (.i K60), (.i D61), (.i S62), u63.v, e64.v, (.i w65), (.pointer w66), (.i e67)])), (11, (.agg #[(.i N69), (.i K70), (.i D71), (.i S72), u73.v, e74.v, (.i w75), (.pointer w76), (.i e77)]))], ⟨rfl, rfl, rfl, rfl, rfl, rfl, rfl, rfl, rfl, rfl, rfl, rfl, trivial⟩, ?_⟩
     refine Stg.eff [] (by kernel_rfl) rfl .nil ?_
     ·intro a H
      replace H := H.weaken (L' := [(48, (.agg #[(.i N49), (.i K50), (.i D51), (.i S52), u53.v, e54.v, (.i w55), (.pointer w56), (.i e57)])), (50, (.agg #[(.i N59), (.i K60), (.i D61), (.i S62), u63.v, e64.v, (.i w65), (.pointer w66), (.i e67)])), (55, (.agg #[(.i N69), (.i K70), (.i D71), (.i S72), u73.v, e74.v, (.i w75), (.pointer w76), (.i e77)]))]) ⟨rfl, rfl, rfl, trivial⟩
      replace h := h.get
      obtain ⟨b78, w79, n80, h⟩ := h
      refine s_bslc H rfl (by rw [H.parts (vs := [(0, (.agg #[(.i N49), (.i K50), (.i D51), (.i S52), u53.v, e54.v, (.i w55), (.pointer w56), (.i e57)])), (1, (.agg #[(.i N59), (.i K60), (.i D61), (.i S62), u63.v, e64.v, (.i w65), (.pointer w66), (.i e67)])), (2, (.agg #[(.i N69), (.i K70), (.i D71), (.i S72), u73.v, e74.v, (.i w75), (.pointer w76), (.i e77)]))]) rfl]; exact bs_51_3_ii64ii64ii64ii64ssii64pii640_ii64ii64ii64i_811187 w68 N49 K50 D51 S52 u53 e54 w55 w56 e57 N59 K60 D61 S62 u63 e64 w65 w66 e67 N69 K70 D71 S72 u73 e74 w75 w76 e77) (lt_ rfl) ?_
      rw [← n80.at_]
      clear H a
      intro a H
      refine n80.go <| c_nil ?_
      refine effQ.ok (v := (Slc.v (Slc.mk (some (blk b78)) 3 3))) (H.weaken (L' := [(56, (Slc.v (Slc.mk (some (blk b78)) 3 3)))]) ⟨rfl, trivial⟩) ⟨[(0, l15.v), (1, d1.v), (2, (.i (d1.l : Int))), (3, (Slc.v (l15.cut 1 (Int.toNat (0)) (Int.toNat ((d1.l : Int)))))), (5, s35.v), (7, l15.v), (8, d1.v), (9, (.i (d1.l : Int))), (10, (Slc.v (l15.cut 1 (Int.toNat (0)) (Int.toNat ((d1.l : Int)))))), (4, (.agg #[(.i N49), (.i K50), (.i D51), (.i S52), u53.v, e54.v, (.i w55), (.pointer w56), (.i e57)])), (6, (.agg #[(.i N59), (.i K60), (.i D61), (.i S62), u63.v, e64.v, (.i w65), (.pointer w66), (.i e67)])), (11, (.agg #[(.i N69), (.i K70), (.i D71), (.i S72), u73.v, e74.v, (.i w75), (.pointer w76), (.i e77)])), (12, (Slc.v (Slc.mk (some (blk b78)) 3 3))), (13, (Slc.v (Slc.mk (some (blk b78)) 3 3)))], ⟨rfl, rfl, rfl, rfl, rfl, rfl, rfl, rfl, rfl, rfl, rfl, rfl, rfl, trivial⟩, ?_⟩
      refine Stg.fin [13] (by kernel_rfl) (.cons ?_ .nil) ?_
      ·refine Ans.mk rfl rfl fun a H => ?_
       replace H := H.weaken (L' := [(56, (Slc.v (Slc.mk (some (blk b78)) 3 3)))]) ⟨rfl, trivial⟩
       refine s_assign H rfl rfl (lt_ rfl) fun a H => c_nil ⟨rfl, rfl, H.weaken (L' := [(13, (Slc.v (Slc.mk (some (blk b78)) 3 3)))]) ⟨rfl, trivial⟩⟩
      ·intro a H
       replace H := H.weaken (L' := [(0, d1.v), (3, (.pointer (some (blk b10)))), (5, l15.v), (10, (.pointer S25)), (12, s35.v), (13, (Slc.v (Slc.mk (some (blk b78)) 3 3)))]) ⟨rfl, rfl, rfl, rfl, rfl, rfl, trivial⟩
       refine hK41 _ _ <| c_seq fun K81 hK81 => c_seq fun K82 hK82 => c_reg <| s_move H rfl rfl (lt_ rfl) fun a H => ?_
       obtain ⟨a83, h84, h85, h86, h⟩ := h
       refine s_idxS (s := Slc.mk (some (blk b78)) 3 3) H rfl rfl rfl slc_51 h84 h85 h86 (lt_ rfl) fun a H => ?_
       obtain ⟨N87, hc88, K89, hc90, D91, hc92, S93, hc94, u95, hc96, e97, hc98, w99, hc100, w101, hc102, e103, hc104, h⟩ := h
       refine s_loadN (l := [(.i N87), (.i K89), (.i D91), (.i S93), u95.v, e97.v, (.i w99), (.pointer w101), (.i e103)]) H rfl rfl agg_49 rfl ⟨hc88, hc90, hc92, hc94, hc96, hc98, hc100, hc102, hc104, trivial⟩ (lt_ rfl) fun a H => s_move H rfl rfl (lt_ rfl) fun a H => s_call H rfl body_12 (H.args (vs := [(.agg #[(.i N87), (.i K89), (.i D91), (.i S93), u95.v, e97.v, (.i w99), (.pointer w101), (.i e103)]), d1.v]) rfl) (lt_ rfl) h ?_ (fun c w' h H => e_panic (P := PP) (fn := Tryz.f5) H h)
       clear H h a
       rintro _ w105 a ⟨r106, rfl, h⟩ H
       refine s_un H rfl rfl r_not (lt_ rfl) fun a H => s_move H rfl rfl (lt_ rfl) fun a H => ?_
       obtain ⟨R109, h, h356⟩ := h
       refine g_joinW (n := 155) R109 (fun x110 => [(70, (.bool x110)), (0, d1.v), (3, (.pointer (some (blk b10)))), (5, l15.v), (10, (.pointer S25)), (13, (Slc.v (Slc.mk (some (blk b78)) 3 3)))]) (.succ (.succ (.succ (.succ (.succ (.succ (.succ (.zero _)))))))) ?_ ?_
       ·intro h108
        clear h356
        rcases Bool.eq_false_or_eq_true (!r106) with h107 | h107
        ·replace H := H.ch (t := 63) (b := true) rfl h107
         replace h := h.2 h107
         iterate 6 refine s_skip H (wantN H rfl rfl rfl) rfl (lt_ rfl) fun a H => ?_
         refine s_pickT H rfl rfl rfl (lt_ rfl) fun a H => ?_
         exact h108 _ _ _ h (H.weaken ⟨rfl, rfl, rfl, rfl, rfl, rfl, trivial⟩)
        ·replace H := H.ch (t := 63) (b := false) rfl h107
         replace h := h.1 h107
         refine s_move H (wantG H rfl rfl) rfl (lt_ rfl) fun a H => ?_
         obtain ⟨a112, h113, h114, h115, h⟩ := h
         refine s_idxS (s := Slc.mk (some (blk b78)) 3 3) H (wantG H rfl rfl) rfl rfl slc_51 h113 h114 h115 (lt_ rfl) fun a H => ?_
         obtain ⟨N116, hc117, K118, hc119, D120, hc121, S122, hc123, u124, hc125, e126, hc127, w128, hc129, w130, hc131, e132, hc133, h⟩ := h
         refine s_loadN (l := [(.i N116), (.i K118), (.i D120), (.i S122), u124.v, e126.v, (.i w128), (.pointer w130), (.i e132)]) H (wantG H rfl rfl) rfl agg_49 rfl ⟨hc117, hc119, hc121, hc123, hc125, hc127, hc129, hc131, hc133, trivial⟩ (lt_ rfl) fun a H => s_move H (wantG H rfl rfl) rfl (lt_ rfl) fun a H => ?_
         refine s_call H (wantG H rfl rfl) body_12 (H.args (vs := [(.agg #[(.i N116), (.i K118), (.i D120), (.i S122), u124.v, e126.v, (.i w128), (.pointer w130), (.i e132)]), s35.v]) rfl) (lt_ rfl) h ?_ (fun c w' h H => e_panic (P := PP) (fn := Tryz.f5) H h)
         clear H h a
         rintro _ w134 a ⟨r135, rfl, h⟩ H
         refine s_un H (wantG H rfl rfl) rfl r_not (lt_ rfl) fun a H => s_pickF H rfl rfl rfl (lt_ rfl) fun a H => ?_
         exact h108 _ _ _ h (H.weaken ⟨rfl, rfl, rfl, rfl, rfl, rfl, trivial⟩)
       ·clear H a h
        intro a x110 w111 h H
        replace h := h356 x110 w111 h
        clear h356
        refine s_move H rfl rfl (lt_ rfl) fun a H => ?_
        obtain ⟨R142, h, h355⟩ := h
        refine g_joinW (n := 155) R142 (fun x143 => [(78, (.bool x143)), (0, d1.v), (3, (.pointer (some (blk b10)))), (5, l15.v), (10, (.pointer S25)), (13, (Slc.v (Slc.mk (some (blk b78)) 3 3)))]) (.succ (.succ (.succ (.succ (.succ (.succ (.succ (.zero _)))))))) ?_ ?_
        ·intro h141
         clear h355
         rcases Bool.eq_false_or_eq_true x110 with h140 | h140
         ·replace H := H.ch (t := 71) (b := true) rfl h140
          replace h := h.2 h140
          iterate 6 refine s_skip H (wantN H rfl rfl rfl) rfl (lt_ rfl) fun a H => ?_
          refine s_pickT H rfl rfl rfl (lt_ rfl) fun a H => ?_
          exact h141 _ _ _ h (H.weaken ⟨rfl, rfl, rfl, rfl, rfl, rfl, trivial⟩)
         ·replace H := H.ch (t := 71) (b := false) rfl h140
          replace h := h.1 h140
          refine s_move H (wantG H rfl rfl) rfl (lt_ rfl) fun a H => ?_
          obtain ⟨a145, h146, h147, h148, h⟩ := h
          refine s_idxS (s := Slc.mk (some (blk b78)) 3 3) H (wantG H rfl rfl) rfl rfl slc_51 h146 h147 h148 (lt_ rfl) fun a H => ?_
          obtain ⟨N149, hc150, K151, hc152, D153, hc154, S155, hc156, u157, hc158, e159, hc160, w161, hc162, w163, hc164, e165, hc166, h⟩ := h
          refine s_loadN (l := [(.i N149), (.i K151), (.i D153), (.i S155), u157.v, e159.v, (.i w161), (.pointer w163), (.i e165)]) H (wantG H rfl rfl) rfl agg_49 rfl ⟨hc150, hc152, hc154, hc156, hc158, hc160, hc162, hc164, hc166, trivial⟩ (lt_ rfl) fun a H => s_move H (wantG H rfl rfl) rfl (lt_ rfl) fun a H => ?_
          refine s_call H (wantG H rfl rfl) body_12 (H.args (vs := [(.agg #[(.i N149), (.i K151), (.i D153), (.i S155), u157.v, e159.v, (.i w161), (.pointer w163), (.i e165)]), d1.v]) rfl) (lt_ rfl) h ?_ (fun c w' h H => e_panic (P := PP) (fn := Tryz.f5) H h)
          clear H h a
          rintro _ w167 a ⟨r168, rfl, h⟩ H
          refine s_un H (wantG H rfl rfl) rfl r_not (lt_ rfl) fun a H => s_pickF H rfl rfl rfl (lt_ rfl) fun a H => ?_
          exact h141 _ _ _ h (H.weaken ⟨rfl, rfl, rfl, rfl, rfl, rfl, trivial⟩)
        ·clear H a h
         intro a x143 w144 h H
         replace h := h355 x143 w144 h
         clear h355
         refine s_move H rfl rfl (lt_ rfl) fun a H => ?_
         obtain ⟨R175, h, h354⟩ := h
         refine g_joinW (n := 155) R175 (fun x176 => [(85, (.bool x176)), (0, d1.v), (3, (.pointer (some (blk b10)))), (5, l15.v), (10, (.pointer S25)), (13, (Slc.v (Slc.mk (some (blk b78)) 3 3)))]) (.succ (.succ (.succ (.succ (.succ (.succ (.zero _))))))) ?_ ?_
         ·intro h174
          clear h354
          rcases Bool.eq_false_or_eq_true x143 with h173 | h173
          ·replace H := H.ch (t := 79) (b := true) rfl h173
           replace h := h.2 h173
           iterate 5 refine s_skip H (wantN H rfl rfl rfl) rfl (lt_ rfl) fun a H => ?_
           refine s_pickT H rfl rfl rfl (lt_ rfl) fun a H => ?_
           exact h174 _ _ _ h (H.weaken ⟨rfl, rfl, rfl, rfl, rfl, rfl, trivial⟩)
          ·replace H := H.ch (t := 79) (b := false) rfl h173
           replace h := h.1 h173
           refine s_move H (wantG H rfl rfl) rfl (lt_ rfl) fun a H => s_move H (wantG H rfl rfl) rfl (lt_ rfl) fun a H => s_call H (wantG H rfl rfl) body_9 (H.args (vs := [d1.v]) rfl) (lt_ rfl) h ?_ (fun c w' h H => e_panic (P := PP) (fn := Tryz.f5) H h)
           clear H h a
           rintro _ w178 a ⟨l179, rfl, h⟩ H
           refine s_call H (wantG H rfl rfl) body_13 (H.args (vs := [l15.v, l179.v]) rfl) (lt_ rfl) h ?_ (fun c w' h H => e_panic (P := PP) (fn := Tryz.f5) H h)
           clear H h a
           rintro _ w180 a ⟨s181, rfl, h⟩ H
           refine s_un H (wantG H rfl rfl) rfl r_not (lt_ rfl) fun a H => s_pickF H rfl rfl rfl (lt_ rfl) fun a H => ?_
           exact h174 _ _ _ h (H.weaken ⟨rfl, rfl, rfl, rfl, rfl, rfl, trivial⟩)
         ·clear H a h
          intro a x176 w177 h H
          replace h := h354 x176 w177 h
          clear h354
          refine c_nil <| hK82 _ _ <| c_cond H rfl (fun h190 => ?_) (fun h190 => ?_)
          ·replace h := h.1 h190
           refine c_seq fun K191 hK191 => c_reg <| s_assign H rfl rfl (lt_ rfl) fun a H => c_nil <| hK191 _ _ <| c_ret ?_
           exact e_ret1 H rfl rfl h
          ·replace h := h.2 h190
           refine c_skip <| hK81 _ _ <| c_seq fun K192 hK192 => c_seq fun K193 hK193 => c_reg <| s_move H rfl rfl (lt_ rfl) fun a H => s_call H rfl body_15 (H.args (vs := [(Slc.v (Slc.mk (some (blk b78)) 3 3))]) rfl) (lt_ rfl) h ?_ (fun c w' h H => e_panic (P := PP) (fn := Tryz.f5) H h)
           clear H h a
           rintro _ w194 a ⟨b195, rfl, h⟩ H
           refine s_call H rfl body_14 (H.args (vs := [b195.v]) rfl) (lt_ rfl) h ?_ (fun c w' h H => e_panic (P := PP) (fn := Tryz.f5) H h)
           clear H h a
           rintro _ w196 a ⟨a197, rfl, h⟩ H
           refine s_un H rfl rfl r_not (lt_ rfl) fun a H => s_move H rfl rfl (lt_ rfl) fun a H => ?_
           obtain ⟨R200, h, h345⟩ := h
           refine g_joinW (n := 155) R200 (fun x201 => [(94, (.bool x201)), (0, d1.v), (3, (.pointer (some (blk b10)))), (5, l15.v), (10, (.pointer S25)), (13, (Slc.v (Slc.mk (some (blk b78)) 3 3)))]) (.succ (.succ (.succ (.succ (.zero _))))) ?_ ?_
           ·intro h199
            clear h345
            rcases Bool.eq_false_or_eq_true (!a197) with h198 | h198
            ·replace H := H.ch (t := 90) (b := true) rfl h198
             replace h := h.2 h198
             iterate 3 refine s_skip H (wantN H rfl rfl rfl) rfl (lt_ rfl) fun a H => ?_
             refine s_pickT H rfl rfl rfl (lt_ rfl) fun a H => ?_
             exact h199 _ _ _ h (H.weaken ⟨rfl, rfl, rfl, rfl, rfl, rfl, trivial⟩)
            ·replace H := H.ch (t := 90) (b := false) rfl h198
             replace h := h.1 h198
             refine s_move H (wantG H rfl rfl) rfl (lt_ rfl) fun a H => s_call H (wantG H rfl rfl) body_16 (H.args (vs := [(Slc.v (Slc.mk (some (blk b78)) 3 3))]) rfl) (lt_ rfl) h ?_ (fun c w' h H => e_panic (P := PP) (fn := Tryz.f5) H h)
             clear H h a
             rintro _ w203 a ⟨m204, rfl, h⟩ H
             refine s_un H (wantG H rfl rfl) rfl r_not (lt_ rfl) fun a H => s_pickF H rfl rfl rfl (lt_ rfl) fun a H => ?_
             exact h199 _ _ _ h (H.weaken ⟨rfl, rfl, rfl, rfl, rfl, rfl, trivial⟩)
           ·clear H a h
            intro a x201 w202 h H
            replace h := h345 x201 w202 h
            clear h345
            refine s_move H rfl rfl (lt_ rfl) fun a H => ?_
            obtain ⟨R211, h, h344⟩ := h
            refine g_joinW (n := 155) R211 (fun x212 => [(101, (.bool x212)), (0, d1.v), (3, (.pointer (some (blk b10)))), (5, l15.v), (10, (.pointer S25)), (13, (Slc.v (Slc.mk (some (blk b78)) 3 3)))]) (.succ (.succ (.succ (.succ (.succ (.succ (.zero _))))))) ?_ ?_
            ·intro h210
             clear h344
             rcases Bool.eq_false_or_eq_true x201 with h209 | h209
             ·replace H := H.ch (t := 95) (b := true) rfl h209
              replace h := h.2 h209
              iterate 5 refine s_skip H (wantN H rfl rfl rfl) rfl (lt_ rfl) fun a H => ?_
              refine s_pickT H rfl rfl rfl (lt_ rfl) fun a H => ?_
              exact h210 _ _ _ h (H.weaken ⟨rfl, rfl, rfl, rfl, rfl, rfl, trivial⟩)
             ·replace H := H.ch (t := 95) (b := false) rfl h209
              replace h := h.1 h209
              refine s_move H (wantG H rfl rfl) rfl (lt_ rfl) fun a H => s_move H (wantG H rfl rfl) rfl (lt_ rfl) fun a H => s_call H (wantG H rfl rfl) body_9 (H.args (vs := [d1.v]) rfl) (lt_ rfl) h ?_ (fun c w' h H => e_panic (P := PP) (fn := Tryz.f5) H h)
              clear H h a
              rintro _ w214 a ⟨l215, rfl, h⟩ H
              refine s_call H (wantG H rfl rfl) body_13 (H.args (vs := [l15.v, l215.v]) rfl) (lt_ rfl) h ?_ (fun c w' h H => e_panic (P := PP) (fn := Tryz.f5) H h)
              clear H h a
              rintro _ w216 a ⟨s217, rfl, h⟩ H
              refine s_un H (wantG H rfl rfl) rfl r_not (lt_ rfl) fun a H => s_pickF H rfl rfl rfl (lt_ rfl) fun a H => ?_
              exact h210 _ _ _ h (H.weaken ⟨rfl, rfl, rfl, rfl, rfl, rfl, trivial⟩)
            ·clear H a h
             intro a x212 w213 h H
             replace h := h344 x212 w213 h
             clear h344
             refine c_nil <| hK193 _ _ <| c_cond H rfl (fun h226 => ?_) (fun h226 => ?_)
             ·replace h := h.1 h226
              refine c_seq fun K227 hK227 => c_reg <| s_assign H rfl rfl (lt_ rfl) fun a H => c_nil <| hK227 _ _ <| c_ret ?_
              exact e_ret1 H rfl rfl h
             ·replace h := h.2 h226
              refine c_skip <| hK192 _ _ <| c_seq fun K228 hK228 => c_seq fun K229 hK229 => c_reg <| s_assign H rfl rfl (lt_ rfl) fun a H => c_nil <| hK229 _ _ <| c_block ?_
              obtain ⟨I232, m233, h342, h343⟩ := h
              refine c_loop (σ := Int) (fun z w => I232 z w) (fun z w => m233 z w) (fun z => [(0, d1.v), (3, (.pointer (some (blk b10)))), (5, l15.v), (10, (.pointer S25)), (13, (Slc.v (Slc.mk (some (blk b78)) 3 3))), (14, (.i z))]) 0 h342 (H.weaken ⟨rfl, rfl, rfl, rfl, rfl, rfl, trivial⟩) ?_
              clear H h342
              rintro i230 a w231 h H
              replace h := h343 i230 w231 h
              clear h343
              replace H : Has 155 [] a [(0, d1.v), (3, (.pointer (some (blk b10)))), (5, l15.v), (10, (.pointer S25)), (13, (Slc.v (Slc.mk (some (blk b78)) 3 3))), (14, (.i i230))] := H
              refine c_seq fun K234 hK234 => c_seq fun K235 hK235 => c_reg <| s_move H rfl rfl (lt_ rfl) fun a H => s_move H rfl rfl (lt_ rfl) fun a H => s_blt H rfl (H.args (vs := [d1.v]) rfl) (lt_ rfl) (fun cs => b_lenS (z := d1) sl_22) fun a H => s_bin H rfl rfl rfl r_lss (lt_ rfl) fun a H => c_nil <| hK235 _ _ <| c_cond H rfl (fun h236 => ?_) (fun h236 => ?_)
              ·replace h := h.1 h236
               refine c_skip <| hK234 _ _ <| c_seq fun K237 hK237 => c_block <| c_reg ?_
               iterate 4 refine s_move H rfl rfl (lt_ rfl) fun a H => ?_
               obtain ⟨a238, h239, h240, h241, h⟩ := h
               refine s_idxS (s := l15) H rfl rfl rfl slc_22 h239 h240 h241 (lt_ rfl) fun a H => ?_
               obtain ⟨l242, hc243, h⟩ := h
               refine s_load (v := (.int .u8 l242)) H rfl rfl one_5 hc243 (lt_ rfl) fun a H => s_bin H rfl rfl rfl r_xor (lt_ rfl) fun a H => ?_
               obtain ⟨a244, h245, h246, h247, h⟩ := h
               refine s_idxS (s := l15) H rfl rfl rfl slc_22 h245 h246 h247 (lt_ rfl) fun a H => ?_
               obtain ⟨h249, h250, h⟩ := h
               refine s_sto (p := a244.add (Int.toNat (i230) * 1)) (v := (.int .u8 (xorI .u8 l242 64))) H rfl rfl rfl rfl one_5 rfl h249 h250 ?_
               clear H
               intro H
               generalize hww248 : World.setCell w231 (a244.add (Int.toNat (i230) * 1)) (.int .u8 (xorI .u8 l242 64)) = w248 at h ⊢
               have w248S : SetAt w231 (a244.add (Int.toNat (i230) * 1)) (.int .u8 (xorI .u8 l242 64)) w248 := ⟨hww248.symm⟩
               clear hww248 h249 h250
               refine c_nil <| hK237 _ _ <| c_reg <| s_move H rfl rfl (lt_ rfl) fun a H => s_bin H rfl rfl rfl r_add (lt_ rfl) fun a H => s_assign H rfl rfl (lt_ rfl) fun a H => c_nil <| Exists.intro (wr .i64 (i230 + 1)) ⟨h.1, h.2, H.weaken ⟨rfl, rfl, rfl, rfl, rfl, rfl, trivial⟩⟩
              ·replace h := h.2 h236
               refine c_exit ?_
               first | (simp only [Exit.then, Exit.inBlock, ↓reduceIte]; fail_if_success simp only [Nat.reduceEqDiff]) | simp only [Exit.then, Exit.inBlock, ↓reduceIte, Nat.reduceEqDiff]
               refine hK228 _ _ <| c_seq fun K251 hK251 => c_reg ?_
               replace h := h.get
               obtain ⟨b252, w253, n254, h⟩ := h
               refine s_bslc H rfl (by rw [H.parts (vs := []) rfl]; exact bs_22_0 w231) (lt_ rfl) ?_
               rw [← n254.at_]
               clear H a
               intro a H
               refine n254.go <| s_move H rfl rfl (lt_ rfl) fun a H => s_move H rfl rfl (lt_ rfl) fun a H => s_blt H rfl (H.args (vs := [d1.v]) rfl) (lt_ rfl) (fun cs => b_lenS (z := d1) sl_22) fun a H => ?_
               obtain ⟨h255, h256, h257, h⟩ := h
               refine s_slice (v := (Slc.v (l15.cut 1 (Int.toNat (0)) (Int.toNat ((d1.l : Int)))))) H rfl rfl ⟨rfl, rfl⟩ ⟨rfl, rfl⟩ ⟨rfl, rfl⟩ (r_sliceSlc (lo := none) (hi := (some (.i64, (d1.l : Int)))) slc_22 rfl rfl h255 h256 h257) (lt_ rfl) fun a H => ?_
               obtain ⟨s258, w259, h260, h⟩ := h
               refine s_blt H rfl (H.args (vs := [(Slc.v (Slc.mk (some (blk b252)) 0 0)), (Slc.v (l15.cut 1 (Int.toNat (0)) (Int.toNat ((d1.l : Int)))))]) rfl) (lt_ rfl) (fun cs => b_app (z := s258) h260) ?_
               clear H a h260
               intro a H
               refine s_assign H rfl rfl (lt_ rfl) fun a H => c_nil <| hK251 _ _ <| c_seq fun K261 hK261 => c_seq fun K262 hK262 => c_reg <| s_move H rfl rfl (lt_ rfl) fun a H => s_move H rfl rfl (lt_ rfl) fun a H => s_blt H rfl (H.args (vs := [d1.v]) rfl) (lt_ rfl) (fun cs => b_lenS (z := d1) sl_22) fun a H => ?_
               obtain ⟨h263, h264, h265, h⟩ := h
               refine s_slice (v := (Slc.v (l15.cut 1 (Int.toNat (0)) (Int.toNat ((d1.l : Int)))))) H rfl rfl ⟨rfl, rfl⟩ ⟨rfl, rfl⟩ ⟨rfl, rfl⟩ (r_sliceSlc (lo := none) (hi := (some (.i64, (d1.l : Int)))) slc_22 rfl rfl h263 h264 h265) (lt_ rfl) fun a H => s_call H rfl body_11 (H.args (vs := [(Slc.v (l15.cut 1 (Int.toNat (0)) (Int.toNat ((d1.l : Int)))))]) rfl) (lt_ rfl) h ?_ (fun c w' h H => e_panic (P := PP) (fn := Tryz.f5) H h)
               clear H h a
               rintro _ w266 a ⟨N267, K268, D269, S270, u271, e272, w273, w274, e275, rfl, h⟩ H
               refine s_move H rfl rfl (lt_ rfl) fun a H => s_call H rfl body_12 (H.args (vs := [(.agg #[(.i N267), (.i K268), (.i D269), (.i S270), u271.v, e272.v, (.i w273), (.pointer w274), (.i e275)]), s258.v]) rfl) (lt_ rfl) h ?_ (fun c w' h H => e_panic (P := PP) (fn := Tryz.f5) H h)
               clear H h a
               rintro _ w276 a ⟨r277, rfl, h⟩ H
               refine s_un H rfl rfl r_not (lt_ rfl) fun a H => c_nil <| hK262 _ _ <| c_cond H rfl (fun h278 => ?_) (fun h278 => ?_)
               ·replace h := h.1 h278
                refine c_seq fun K279 hK279 => c_reg <| s_assign H rfl rfl (lt_ rfl) fun a H => c_nil <| hK279 _ _ <| c_ret ?_
                exact e_ret1 H rfl rfl h
               ·replace h := h.2 h278
                refine c_skip <| hK261 _ _ <| c_seq fun K280 hK280 => c_reg <| s_move H rfl rfl (lt_ rfl) fun a H => ?_
                obtain ⟨a281, h282, h283, h284, h⟩ := h
                refine s_idxS (s := Slc.mk (some (blk b78)) 3 3) H rfl rfl rfl slc_51 h282 h283 h284 (lt_ rfl) fun a H => s_fld H rfl rfl fld_49_4 (lt_ rfl) fun a H => ?_
                obtain ⟨l285, hc286, h⟩ := h
                refine s_load (v := (.pointer l285)) H rfl rfl one_29 hc286 (lt_ rfl) fun a H => s_assign H rfl rfl (lt_ rfl) fun a H => c_nil <| hK280 _ _ <| c_seq fun K287 hK287 => c_seq fun K288 hK288 => c_reg <| s_move H rfl rfl (lt_ rfl) fun a H => s_bin H rfl rfl rfl (r_eqP0 ptr_29) (lt_ rfl) fun a H => s_move H rfl rfl (lt_ rfl) fun a H => ?_
                refine g_join (n := 155) [(139, (.bool (l285.isNone || S25.isNone))), (3, (.pointer (some (blk b10)))), (10, (.pointer S25)), (16, (.pointer l285))] (.succ (.succ (.succ (.zero _)))) ?_ ?_
                ·intro h290
                 try clear h
                 rcases Bool.eq_false_or_eq_true l285.isNone with h289 | h289
                 ·replace H := H.ch (t := 136) (b := true) rfl h289
                  refine s_skip H (wantN H rfl rfl rfl) rfl (lt_ rfl) fun a H => s_skip H (wantN H rfl rfl rfl) rfl (lt_ rfl) fun a H => s_pickT H rfl rfl rfl (lt_ rfl) fun a H => ?_
                  exact h290 _ (H.weaken ⟨by rw [h289]; rfl, rfl, rfl, rfl, trivial⟩)
                 ·replace H := H.ch (t := 136) (b := false) rfl h289
                  refine s_move H (wantG H rfl rfl) rfl (lt_ rfl) fun a H => s_bin H (wantG H rfl rfl) rfl rfl (r_eqP0 ptr_45) (lt_ rfl) fun a H => s_pickF H rfl rfl rfl (lt_ rfl) fun a H => ?_
                  exact h290 _ (H.weaken ⟨by rw [h289]; rfl, rfl, rfl, rfl, trivial⟩)
                ·clear H a
                 intro a H
                 refine c_nil <| hK288 _ _ <| c_cond H rfl (fun h291 => ?_) (fun h291 => ?_)
                 ·replace h := h.1 h291
                  refine c_seq fun K292 hK292 => c_reg <| s_assign H rfl rfl (lt_ rfl) fun a H => c_nil <| hK292 _ _ <| c_ret ?_
                  exact e_ret1 H rfl rfl h
                 ·replace h := h.2 h291
                  refine c_skip <| hK287 _ _ <| c_seq fun K293 hK293 => c_reg <| s_move H rfl rfl (lt_ rfl) fun a H => s_move H rfl rfl (lt_ rfl) fun a H => ?_
                  obtain ⟨K294, hc295, K296, hc297, C298, hc299, C300, hc301, F302, hc303, H304, hc305, D306, hc307, h⟩ := h
                  refine s_loadN (l := [(.i K294), (.string K296), (.i C298), (.i C300), (.bool F302), (.bool H304), D306.v]) H rfl rfl agg_28 rfl ⟨hc295, hc297, hc299, hc301, hc303, hc305, hc307, trivial⟩ (lt_ rfl) fun a H => s_call H rfl body_17 (H.args (vs := [(.pointer l285), (.pointer S25), (.agg #[(.i K294), (.string K296), (.i C298), (.i C300), (.bool F302), (.bool H304), D306.v])]) rfl) (lt_ rfl) h ?_ (fun c w' h H => e_panic (P := PP) (fn := Tryz.f5) H h)
                  clear H h a
                  rintro _ w308 a ⟨p309, p310, rfl, h⟩ H
                  refine s_move H rfl rfl (lt_ rfl) fun a H => s_ext H rfl rfl rfl (lt_ rfl) fun a H => s_ext H rfl rfl rfl (lt_ rfl) fun a H => s_assign H rfl rfl (lt_ rfl) fun a H => s_assign H rfl rfl (lt_ rfl) fun a H => c_nil <| hK293 _ _ <| c_seq fun K311 hK311 => c_reg <| s_move H rfl rfl (lt_ rfl) fun a H => s_move H rfl rfl (lt_ rfl) fun a H => ?_
                  obtain ⟨R314, h, h329⟩ := h
                  refine g_joinW (n := 155) R314 (fun x315 => [(154, (.bool x315))]) (.succ (.succ (.succ (.succ (.succ (.succ (.zero _))))))) ?_ ?_
                  ·intro h313
                   clear h329
                   rcases Bool.eq_false_or_eq_true p310 with h312 | h312
                   ·replace H := H.ch (t := 148) (b := true) rfl h312
                    replace h := h.1 h312
                    refine s_move H (wantG H rfl rfl) rfl (lt_ rfl) fun a H => s_call H (wantG H rfl rfl) body_18 (H.args (vs := [(.pointer l285)]) rfl) (lt_ rfl) h ?_ (fun c w' h H => e_panic (P := PP) (fn := Tryz.f5) H h)
                    clear H h a
                    rintro _ w317 a ⟨C318, rfl, h⟩ H
                    refine s_move H (wantG H rfl rfl) rfl (lt_ rfl) fun a H => s_call H (wantG H rfl rfl) body_19 (H.args (vs := [(.pointer S25)]) rfl) (lt_ rfl) h ?_ (fun c w' h H => e_panic (P := PP) (fn := Tryz.f5) H h)
                    clear H h a
                    rintro _ w319 a ⟨C320, rfl, h⟩ H
                    refine s_bin H (wantG H rfl rfl) rfl rfl r_eql (lt_ rfl) fun a H => s_pickT H rfl rfl rfl (lt_ rfl) fun a H => ?_
                    exact h313 _ _ _ h (H.weaken ⟨rfl, trivial⟩)
                   ·replace H := H.ch (t := 148) (b := false) rfl h312
                    replace h := h.2 h312
                    iterate 5 refine s_skip H (wantN H rfl rfl rfl) rfl (lt_ rfl) fun a H => ?_
                    refine s_pickF H rfl rfl rfl (lt_ rfl) fun a H => ?_
                    exact h313 _ _ _ h (H.weaken ⟨rfl, trivial⟩)
                  ·clear H a h
                   intro a x315 w316 h H
                   replace h := h329 x315 w316 h
                   clear h329
                   refine s_assign H rfl rfl (lt_ rfl) fun a H => c_nil <| hK311 _ _ <| c_ret ?_
                   exact e_ret1 H rfl rfl h
 clear h389
 refine c_seq fun K374 hK374 => c_reg <| s_move H rfl rfl (lt_ rfl) fun a H => s_blt H rfl (H.args (vs := [s35.v]) rfl) (lt_ rfl) (fun cs => b_lenS (z := s35) sl_22) fun a H => s_bin H rfl rfl rfl r_gtr (lt_ rfl) fun a H => c_nil <| hK374 _ _ <| c_cond H rfl (fun h375 => ?_) (fun h375 => ?_)
 ·replace h := h.1 h375
  refine c_reg <| s_move H rfl rfl (lt_ rfl) fun a H => s_move H rfl rfl (lt_ rfl) fun a H => s_blt H rfl (H.args (vs := [s35.v]) rfl) (lt_ rfl) (fun cs => b_lenS (z := s35) sl_22) fun a H => s_bin H rfl rfl rfl r_sub (lt_ rfl) fun a H => ?_
  obtain ⟨a376, h377, h378, h379, h⟩ := h
  refine s_idxS (s := s35) H rfl rfl rfl slc_22 h377 h378 h379 (lt_ rfl) fun a H => ?_
  obtain ⟨l380, hc381, h⟩ := h
  refine s_load (v := (.int .u8 l380)) H rfl rfl one_5 hc381 (lt_ rfl) fun a H => s_bin H rfl rfl rfl r_xor (lt_ rfl) fun a H => ?_
  obtain ⟨a382, h383, h384, h385, h⟩ := h
  refine s_idxS (s := s35) H rfl rfl rfl slc_22 h383 h384 h385 (lt_ rfl) fun a H => ?_
  obtain ⟨h387, h388, h⟩ := h
  refine s_sto (p := a382.add (Int.toNat (wr .i64 ((s35.l : Int) - 1)) * 1)) (v := (.int .u8 (xorI .u8 l380 1))) H rfl rfl rfl rfl one_5 rfl h387 h388 ?_
  clear H
  intro H
  generalize hww386 : World.setCell w36 (a382.add (Int.toNat (wr .i64 ((s35.l : Int) - 1)) * 1)) (.int .u8 (xorI .u8 l380 1)) = w386 at h ⊢
  have w386S : SetAt w36 (a382.add (Int.toNat (wr .i64 ((s35.l : Int) - 1)) * 1)) (.int .u8 (xorI .u8 l380 1)) w386 := ⟨hww386.symm⟩
  clear hww386 h387 h388
  refine c_nil ?_
  exact h373 _ _ h (H.weaken ⟨rfl, rfl, rfl, rfl, rfl, trivial⟩)
 ·replace h := h.2 h375
  refine c_skip ?_
  exact h373 _ _ h (H.weaken ⟨rfl, rfl, rfl, rfl, rfl, trivial⟩)

theorem sim_record_mayHead (N1 K2 D3 S4 : Int) (w : World) (Q : Ending → World → Prop) (h : vc_record_mayHead N1 K2 D3 S4 w Q) : Calls PP F_record_mayHead #[(.agg #[(.i N1), (.i K2), (.i D3), (.i S4)])] w Q := by
 unfold vc_record_mayHead at h
 refine enter (n := 21) Tryz.func6 rfl rfl (Nat.le_of_ble_eq_true rfl) fun a H => c_seq fun K5 hK5 => c_reg ?_
 replace h := h.get
 obtain ⟨b6, w7, n8, h⟩ := h
 refine s_box H rfl rfl (lt_ rfl) ?_
 rw [← n8.at_]
 clear H a
 intro a H
 refine n8.go <| s_assign H rfl rfl (lt_ rfl) fun a H => c_nil <| hK5 _ _ <| c_seq fun K9 hK9 => c_seq fun K10 hK10 => c_reg <| s_fld H rfl rfl fld_36_0 (lt_ rfl) fun a H => s_loadN (l := [(.i N1), (.i K2), (.i D3)]) H rfl rfl agg_34 rfl ⟨(n8.cell (i := 0) rfl), (n8.cell (i := 1) rfl), (n8.cell (i := 2) rfl), trivial⟩ (lt_ rfl) fun a H => s_call H rfl body_20 (H.args (vs := [(.agg #[(.i N1), (.i K2), (.i D3)])]) rfl) (lt_ rfl) h ?_ (fun c w' h H => e_panic (P := PP) (fn := Tryz.f6) H h)
 clear H h a
 rintro _ w11 a ⟨C12, rfl, h⟩ H
 refine s_assign H rfl rfl (lt_ rfl) fun a H => c_nil <| hK10 _ _ <| c_seq fun K13 hK13 => c_reg <| s_move H rfl rfl (lt_ rfl) fun a H => s_bin H rfl rfl rfl r_neq (lt_ rfl) fun a H => c_nil <| hK13 _ _ <| c_cond H rfl (fun h14 => ?_) (fun h14 => ?_)
 ·replace h := h.1 h14
  refine c_seq fun K15 hK15 => c_reg <| s_move H rfl rfl (lt_ rfl) fun a H => s_assign H rfl rfl (lt_ rfl) fun a H => c_nil <| hK15 _ _ <| c_ret ?_
  exact e_ret1 H rfl rfl h
 ·replace h := h.2 h14
  refine c_skip <| hK9 _ _ <| c_seq fun K16 hK16 => c_seq fun K17 hK17 => c_reg <| s_fld H rfl rfl fld_36_1 (lt_ rfl) fun a H => ?_
  obtain ⟨l18, hc19, h⟩ := h
  refine s_load (v := (.i l18)) H rfl rfl one_3 hc19 (lt_ rfl) fun a H => s_bin H rfl rfl rfl r_lss (lt_ rfl) fun a H => s_move H rfl rfl (lt_ rfl) fun a H => ?_
  obtain ⟨x26, h27, h28, h⟩ := h
  refine g_join (n := 21) [(20, (.bool x26))] (.succ (.succ (.succ (.succ (.succ (.succ (.succ (.zero _)))))))) ?_ ?_
  ·intro h21
   try clear h
   rcases Bool.eq_false_or_eq_true (decide (l18 < 0)) with h20 | h20
   ·replace H := H.ch (t := 13) (b := true) rfl h20
    iterate 6 refine s_skip H (wantN H rfl rfl rfl) rfl (lt_ rfl) fun a H => ?_
    refine s_pickT H rfl rfl rfl (lt_ rfl) fun a H => ?_
    replace h := h28 h20
    subst h
    exact h21 _ (H.weaken ⟨rfl, trivial⟩)
   ·replace H := H.ch (t := 13) (b := false) rfl h20
    replace h := h27 h20
    refine s_fld H (wantG H rfl rfl) rfl fld_36_1 (lt_ rfl) fun a H => ?_
    obtain ⟨l22, hc23, h⟩ := h
    refine s_load (v := (.i l22)) H (wantG H rfl rfl) rfl one_3 hc23 (lt_ rfl) fun a H => s_fld H (wantG H rfl rfl) rfl fld_36_0 (lt_ rfl) fun a H => s_fld H (wantG H rfl rfl) rfl fld_34_0 (lt_ rfl) fun a H => ?_
    obtain ⟨l24, hc25, h⟩ := h
    refine s_load (v := (.i l24)) H (wantG H rfl rfl) rfl one_3 hc25 (lt_ rfl) fun a H => s_bin H (wantG H rfl rfl) rfl rfl r_geq (lt_ rfl) fun a H => s_pickF H rfl rfl rfl (lt_ rfl) fun a H => ?_
    subst h
    exact h21 _ (H.weaken ⟨rfl, trivial⟩)
  ·clear H a
   clear h27 h28
   intro a H
   refine c_nil <| hK17 _ _ <| c_cond H rfl (fun h29 => ?_) (fun h29 => ?_)
   ·replace h := h.1 h29
    refine c_seq fun K30 hK30 => c_reg <| s_assign H rfl rfl (lt_ rfl) fun a H => c_nil <| hK30 _ _ <| c_ret ?_
    exact e_ret1 H rfl rfl h
   ·replace h := h.2 h29
    refine c_skip <| hK16 _ _ <| c_seq fun K31 hK31 => c_reg <| s_assign H rfl rfl (lt_ rfl) fun a H => c_nil <| hK31 _ _ <| c_ret ?_
    exact e_ret1 H rfl rfl h

theorem sim_record_headOf (N1 K2 D3 S4 : Int) (w : World) (Q : Ending → World → Prop) (h : vc_record_headOf N1 K2 D3 S4 w Q) : Calls PP F_record_headOf #[(.agg #[(.i N1), (.i K2), (.i D3), (.i S4)])] w Q := by
 unfold vc_record_headOf at h
 refine enter (n := 40) Tryz.func7 rfl rfl (Nat.le_of_ble_eq_true rfl) fun a H => c_seq fun K5 hK5 => c_reg ?_
 replace h := h.get
 obtain ⟨b6, w7, n8, h⟩ := h
 refine s_box H rfl rfl (lt_ rfl) ?_
 rw [← n8.at_]
 clear H a
 intro a H
 refine n8.go <| s_assign H rfl rfl (lt_ rfl) fun a H => c_nil <| hK5 _ _ <| c_seq fun K9 hK9 => c_reg <| s_call H rfl body_21 (H.args (vs := []) rfl) (lt_ rfl) h ?_ (fun c w' h H => e_panic (P := PP) (fn := Tryz.f7) H h)
 clear H h a
 rintro _ w10 a ⟨N11, rfl, h⟩ H
 refine s_assign H rfl rfl (lt_ rfl) fun a H => c_nil <| hK9 _ _ <| c_seq fun K12 hK12 => c_reg <| s_move H rfl rfl (lt_ rfl) fun a H => s_call H rfl body_22 (H.args (vs := [(.pointer N11), (.int .u8 72)]) rfl) (lt_ rfl) h ?_ (fun c w' h H => e_panic (P := PP) (fn := Tryz.f7) H h)
 clear H h a
 rintro _ w13 a ⟨rfl, h⟩ H
 refine c_nil <| hK12 _ _ <| c_seq fun K14 hK14 => c_seq fun K15 hK15 => c_reg <| s_fld H rfl rfl fld_36_0 (lt_ rfl) fun a H => s_fld H rfl rfl fld_34_0 (lt_ rfl) fun a H => ?_
 obtain ⟨l16, hc17, h⟩ := h
 refine s_load (v := (.i l16)) H rfl rfl one_3 hc17 (lt_ rfl) fun a H => s_fld H rfl rfl fld_36_0 (lt_ rfl) fun a H => s_fld H rfl rfl fld_34_1 (lt_ rfl) fun a H => ?_
 obtain ⟨l18, hc19, h⟩ := h
 refine s_load (v := (.i l18)) H rfl rfl one_3 hc19 (lt_ rfl) fun a H => s_fld H rfl rfl fld_36_0 (lt_ rfl) fun a H => s_fld H rfl rfl fld_34_2 (lt_ rfl) fun a H => ?_
 obtain ⟨l20, hc21, h⟩ := h
 refine s_load (v := (.i l20)) H rfl rfl one_3 hc21 (lt_ rfl) fun a H => s_fld H rfl rfl fld_36_1 (lt_ rfl) fun a H => ?_
 obtain ⟨l22, hc23, h⟩ := h
 refine s_load (v := (.i l22)) H rfl rfl one_3 hc23 (lt_ rfl) fun a H => ?_
 replace h := h.get
 obtain ⟨b24, w25, n26, h⟩ := h
 refine s_bslc H rfl (by rw [H.parts (vs := [(0, (.i l16)), (1, (.i l18)), (2, (.i l20)), (3, (.i l22))]) rfl]; exact bs_44_4_ii640_ii641_ii642_ii643 w13 l16 l18 l20 l22) (lt_ rfl) ?_
 rw [← n26.at_]
 clear H a
 intro a H
 refine n26.go <| s_blt H rfl (H.args (vs := [(Slc.v (Slc.mk (some (blk b24)) 4 4))]) rfl) (lt_ rfl) (fun cs => b_lenS (z := Slc.mk (some (blk b24)) 4 4) sl_44) fun a H => s_move H rfl rfl (lt_ rfl) fun a H => c_nil <| hK15 _ _ <| c_block ?_
 obtain ⟨I29, m30, h79, h80⟩ := h
 refine c_loop (σ := Int) (fun z w => I29 z w) (fun z w => m30 z w) (fun z => [(3, (.pointer N11)), (21, (Slc.v (Slc.mk (some (blk b24)) 4 4))), (22, (.i ((Slc.mk (some (blk b24)) 4 4).l : Int))), (23, (.i z))]) 0 h79 (H.weaken ⟨rfl, rfl, rfl, rfl, trivial⟩) ?_
 clear H h79
 rintro s27 a w28 h H
 replace h := h80 s27 w28 h
 clear h80
 replace H : Has 40 [] a [(3, (.pointer N11)), (21, (Slc.v (Slc.mk (some (blk b24)) 4 4))), (22, (.i ((Slc.mk (some (blk b24)) 4 4).l : Int))), (23, (.i s27))] := H
 refine c_seq fun K31 hK31 => c_reg <| s_bin H rfl rfl rfl r_lss (lt_ rfl) fun a H => c_nil <| hK31 _ _ <| c_seq fun K32 hK32 => c_cond H rfl (fun h33 => ?_) (fun h33 => ?_)
 ·replace h := h.1 h33
  refine c_skip <| hK32 _ _ <| c_seq fun K34 hK34 => c_block <| c_seq fun K35 hK35 => c_reg ?_
  obtain ⟨a36, h37, h38, h39, h⟩ := h
  refine s_idxS (s := Slc.mk (some (blk b24)) 4 4) H rfl rfl rfl slc_44 h37 h38 h39 (lt_ rfl) fun a H => ?_
  obtain ⟨l40, hc41, h⟩ := h
  refine s_load (v := (.i l40)) H rfl rfl one_3 hc41 (lt_ rfl) fun a H => s_assign H rfl rfl (lt_ rfl) fun a H => c_nil <| hK35 _ _ <| c_reg <| s_move H rfl rfl (lt_ rfl) fun a H => s_move H rfl rfl (lt_ rfl) fun a H => s_call H rfl body_23 (H.args (vs := [(.pointer N11), (.i l40)]) rfl) (lt_ rfl) h ?_ (fun c w' h H => e_panic (P := PP) (fn := Tryz.f7) H h)
  clear H h a
  rintro _ w42 a ⟨rfl, h⟩ H
  refine c_nil <| hK34 _ _ <| c_reg <| s_bin H rfl rfl rfl r_add (lt_ rfl) fun a H => s_move H rfl rfl (lt_ rfl) fun a H => c_nil <| Exists.intro (wr .i64 (s27 + 1)) ⟨h.1, h.2, H.weaken ⟨rfl, rfl, rfl, rfl, trivial⟩⟩
 ·replace h := h.2 h33
  refine c_exit ?_
  first | (simp only [Exit.then, Exit.inBlock, ↓reduceIte]; fail_if_success simp only [Nat.reduceEqDiff]) | simp only [Exit.then, Exit.inBlock, ↓reduceIte, Nat.reduceEqDiff]
  refine hK14 _ _ <| c_seq fun K47 hK47 => c_reg <| s_move H rfl rfl (lt_ rfl) fun a H => s_call H rfl body_24 (H.args (vs := [(.pointer N11)]) rfl) (lt_ rfl) h ?_ (fun c w' h H => e_panic (P := PP) (fn := Tryz.f7) H h)
  clear H h a
  rintro _ w48 a ⟨D49, rfl, h⟩ H
  refine s_assign H rfl rfl (lt_ rfl) fun a H => c_nil <| hK47 _ _ <| c_seq fun K50 hK50 => c_reg <| s_move H rfl rfl (lt_ rfl) fun a H => s_move H rfl rfl (lt_ rfl) fun a H => ?_
  replace h := h.get
  obtain ⟨b51, w52, n53, h⟩ := h
  refine s_bslc H rfl (by rw [H.parts (vs := [(0, D49.v)]) rfl]; exact bs_55_1_s0 w48 D49) (lt_ rfl) ?_
  rw [← n53.at_]
  clear H a
  intro a H
  refine n53.go <| s_call H rfl body_27 (H.args (vs := [(Slc.v (Slc.mk (some (blk b51)) 1 1))]) rfl) (lt_ rfl) h ?_ (fun c w' h H => e_panic (P := PP) (fn := Tryz.f7) H h)
  clear H h a
  rintro _ w54 a ⟨O55, rfl, h⟩ H
  refine s_call H rfl body_26 (H.args (vs := [(.int .u32 O55)]) rfl) (lt_ rfl) h ?_ (fun c w' h H => e_panic (P := PP) (fn := Tryz.f7) H h)
  clear H h a
  rintro _ w56 a ⟨f57, rfl, h⟩ H
  replace h := h.get
  obtain ⟨b58, w59, n60, h⟩ := h
  refine s_bslc H rfl (by rw [H.parts (vs := [(0, D49.v), (1, f57.v)]) rfl]; exact bs_55_2_s0_s1 w56 D49 f57) (lt_ rfl) ?_
  rw [← n60.at_]
  clear H a
  intro a H
  refine n60.go <| s_call H rfl body_25 (H.args (vs := [(Slc.v (Slc.mk (some (blk b58)) 2 2))]) rfl) (lt_ rfl) h ?_ (fun c w' h H => e_panic (P := PP) (fn := Tryz.f7) H h)
  clear H h a
  rintro _ w61 a ⟨C62, rfl, h⟩ H
  refine s_assign H rfl rfl (lt_ rfl) fun a H => c_nil <| hK50 _ _ <| c_ret ?_
  exact e_ret1 H rfl rfl h

theorem sim_slices_Clone (s1 : Slc) (w : World) (Q : Ending → World → Prop) (h : vc_slices_Clone s1 w Q) : Calls PP F_slices_Clone #[s1.v] w Q := by
 unfold vc_slices_Clone at h
 refine enter (n := 8) Tryz.func8 rfl rfl (Nat.le_of_ble_eq_true rfl) fun a H => c_seq fun K2 hK2 => c_reg <| s_assign H rfl rfl (lt_ rfl) fun a H => c_nil <| hK2 _ _ <| c_seq fun K3 hK3 => c_seq fun K4 hK4 => c_reg <| s_move H rfl rfl (lt_ rfl) fun a H => s_bin H rfl rfl rfl (r_eqS0 (z := s1) sl_22) (lt_ rfl) fun a H => c_nil <| hK4 _ _ <| c_cond H rfl (fun h5 => ?_) (fun h5 => ?_)
 ·replace h := h.1 h5
  refine c_seq fun K6 hK6 => c_reg <| s_assign H rfl rfl (lt_ rfl) fun a H => c_nil <| hK6 _ _ <| c_ret ?_
  exact e_ret1 H rfl rfl h
 ·replace h := h.2 h5
  refine c_skip <| hK3 _ _ <| c_seq fun K7 hK7 => c_reg ?_
  replace h := h.get
  obtain ⟨b8, w9, n10, h⟩ := h
  refine s_bslc H rfl (by rw [H.parts (vs := []) rfl]; exact bs_22_0 w) (lt_ rfl) ?_
  rw [← n10.at_]
  clear H a
  intro a H
  refine n10.go <| s_move H rfl rfl (lt_ rfl) fun a H => ?_
  obtain ⟨s11, w12, h13, h⟩ := h
  refine s_blt H rfl (H.args (vs := [(Slc.v (Slc.mk (some (blk b8)) 0 0)), s1.v]) rfl) (lt_ rfl) (fun cs => b_app (z := s11) h13) ?_
  clear H a h13
  intro a H
  refine s_assign H rfl rfl (lt_ rfl) fun a H => c_nil <| hK7 _ _ <| c_ret ?_
  exact e_ret1 H rfl rfl h

theorem sim_sherdlaw11_lent (l1 : Slc) (w : World) (Q : Ending → World → Prop) (h : vc_sherdlaw11_lent l1 w Q) : Calls PP F_sherdlaw11_lent #[l1.v] w Q := by
 unfold vc_sherdlaw11_lent at h
 refine enter (n := 8) Tryz.func9 rfl rfl (Nat.le_of_ble_eq_true rfl) fun a H => c_seq fun K2 hK2 => c_reg <| s_assign H rfl rfl (lt_ rfl) fun a H => c_nil <| hK2 _ _ <| c_seq fun K3 hK3 => c_reg ?_
 replace h := h.get
 obtain ⟨b4, w5, n6, h⟩ := h
 refine s_bslc H rfl (by rw [H.parts (vs := []) rfl]; exact bs_22_0 w) (lt_ rfl) ?_
 rw [← n6.at_]
 clear H a
 intro a H
 refine n6.go <| s_move H rfl rfl (lt_ rfl) fun a H => ?_
 obtain ⟨s7, w8, h9, h⟩ := h
 refine s_blt H rfl (H.args (vs := [(Slc.v (Slc.mk (some (blk b4)) 0 0)), l1.v]) rfl) (lt_ rfl) (fun cs => b_app (z := s7) h9) ?_
 clear H a h9
 intro a H
 replace h := h.get
 obtain ⟨b10, w11, n12, h⟩ := h
 refine s_bslc H rfl (by rw [H.parts (vs := [(0, (.int .u8 77))]) rfl]; exact bs_22_1_iu80 w8 77) (lt_ rfl) ?_
 rw [← n12.at_]
 clear H a
 intro a H
 refine n12.go ?_
 obtain ⟨s13, w14, h15, h⟩ := h
 refine s_blt H rfl (H.args (vs := [s7.v, (Slc.v (Slc.mk (some (blk b10)) 1 1))]) rfl) (lt_ rfl) (fun cs => b_app (z := s13) h15) ?_
 clear H a h15
 intro a H
 refine s_assign H rfl rfl (lt_ rfl) fun a H => c_nil <| hK3 _ _ <| c_ret ?_
 exact e_ret1 H rfl rfl h

theorem sim_sherdref11_Scan (d1 : Slc) (w : World) (Q : Ending → World → Prop) (h : vc_sherdref11_Scan d1 w Q) : Calls PP F_sherdref11_Scan #[d1.v] w Q := by
 unfold vc_sherdref11_Scan at h
 refine enter (n := 92) Tryz.func10 rfl rfl (Nat.le_of_ble_eq_true rfl) fun a H => c_seq fun K2 hK2 => c_reg ?_
 replace h := h.get
 obtain ⟨b3, w4, n5, h⟩ := h
 refine s_alloc H rfl zero_36 (lt_ rfl) ?_
 rw [← n5.at_]
 clear H a
 intro a H
 refine n5.go ?_
 iterate 5 refine s_assign H rfl rfl (lt_ rfl) fun a H => ?_
 refine c_nil <| hK2 _ _ <| c_seq fun K6 hK6 => c_reg <| s_move H rfl rfl (lt_ rfl) fun a H => s_call H rfl body_28 (H.args (vs := [d1.v]) rfl) (lt_ rfl) h ?_ (fun c w' h H => e_panic (P := PP) (fn := Tryz.f10) H h)
 clear H h a
 rintro _ w7 a ⟨N8, K9, D10, S11, h12, h13, rfl, h⟩ H
 refine s_move H rfl rfl (lt_ rfl) fun a H => ?_
 iterate 3 refine s_ext H rfl rfl rfl (lt_ rfl) fun a H => ?_
 replace h := h.get
 obtain ⟨b14, w15, n16, h⟩ := h
 refine s_alloc H rfl zero_36 (lt_ rfl) ?_
 rw [← n16.at_]
 clear H a
 intro a H
 refine n16.go <| s_stoN (l := [(.i N8), (.i K9), (.i D10), (.i S11)]) H rfl rfl rfl rfl agg_36 rfl rfl h ?_
 clear h H
 intro w17 h H
 refine s_assign H rfl rfl (lt_ rfl) fun a H => s_assign H rfl rfl (lt_ rfl) fun a H => c_nil <| hK6 _ _ <| c_seq fun K18 hK18 => c_seq fun K19 hK19 => c_reg <| s_move H rfl rfl (lt_ rfl) fun a H => s_un H rfl rfl r_not (lt_ rfl) fun a H => c_nil <| hK19 _ _ <| c_cond H rfl (fun h20 => ?_) (fun h20 => ?_)
 ·replace h := h.1 h20
  refine c_seq fun K21 hK21 => c_reg <| s_build H rfl (by rw [H.parts (vs := []) rfl]; exact bd_36 w17) (lt_ rfl) fun a H => s_stoN (l := [(.i 0), (.i 0), (.i 0), (.i 0)]) H rfl rfl rfl rfl agg_36 rfl rfl h ?_
  clear h H
  intro w22 h H
  iterate 5 refine s_assign H rfl rfl (lt_ rfl) fun a H => ?_
  refine c_nil <| hK21 _ _ <| c_ret ?_
  obtain ⟨N23, hc24, K25, hc26, D27, hc28, S29, hc30, h⟩ := h
  exact e_ret6 H rfl ⟨_, rfl, run_loadN (l := [(.i N23), (.i K25), (.i D27), (.i S29)]) agg_36 rfl ⟨hc24, hc26, hc28, hc30, trivial⟩⟩ rfl rfl rfl rfl rfl h
 ·replace h := h.2 h20
  refine c_skip <| hK18 _ _ <| c_seq fun K31 hK31 => c_reg ?_
  replace h := h.get
  obtain ⟨b32, w33, n34, h⟩ := h
  refine s_bslc H rfl (by rw [H.parts (vs := []) rfl]; exact bs_22_0 w17) (lt_ rfl) ?_
  rw [← n34.at_]
  clear H a
  intro a H
  refine n34.go <| s_move H rfl rfl (lt_ rfl) fun a H => s_move H rfl rfl (lt_ rfl) fun a H => s_bin H rfl rfl rfl r_sub (lt_ rfl) fun a H => s_move H rfl rfl (lt_ rfl) fun a H => ?_
  obtain ⟨h35, h36, h37, h⟩ := h
  refine s_slice (v := (Slc.v (d1.cut 1 (Int.toNat (wr .i64 (h12 - 4))) (Int.toNat (h12))))) H rfl rfl ⟨rfl, rfl⟩ ⟨rfl, rfl⟩ ⟨rfl, rfl⟩ (r_sliceSlc (lo := (some (.i64, wr .i64 (h12 - 4)))) (hi := (some (.i64, h12))) slc_22 rfl rfl h35 h36 h37) (lt_ rfl) fun a H => ?_
  obtain ⟨s38, w39, h40, h⟩ := h
  refine s_blt H rfl (H.args (vs := [(Slc.v (Slc.mk (some (blk b32)) 0 0)), (Slc.v (d1.cut 1 (Int.toNat (wr .i64 (h12 - 4))) (Int.toNat (h12))))]) rfl) (lt_ rfl) (fun cs => b_app (z := s38) h40) ?_
  clear H a h40
  intro a H
  refine s_build H rfl (by rw [H.parts (vs := [(0, s38.v)]) rfl]; exact bd_74_s0 w39 s38) (lt_ rfl) fun a H => ?_
  replace h := h.get
  obtain ⟨b41, w42, n43, h⟩ := h
  refine s_box H rfl rfl (lt_ rfl) ?_
  rw [← n43.at_]
  clear H a
  intro a H
  refine n43.go <| s_assign H rfl rfl (lt_ rfl) fun a H => c_nil <| hK31 _ _ <| c_seq fun K44 hK44 => c_reg <| s_move H rfl rfl (lt_ rfl) fun a H => ?_
  replace h := h.get
  obtain ⟨b45, w46, n47, h⟩ := h
  refine s_bslc H rfl (by rw [H.parts (vs := [(0, (.i h12))]) rfl]; exact bs_44_1_ii640 w42 h12) (lt_ rfl) ?_
  rw [← n47.at_]
  clear H a
  intro a H
  refine n47.go <| s_assign H rfl rfl (lt_ rfl) fun a H => c_nil <| hK44 _ _ <| c_seq fun K48 hK48 => c_reg <| s_assign H rfl rfl (lt_ rfl) fun a H => c_nil <| hK48 _ _ <| c_seq fun K49 hK49 => ?_
  obtain ⟨R52, h, h189⟩ := h
  have h72 : ∀ (a : Act) (m50 : Slc) (l51 : Slc) (w53 : World), R52 m50 l51 w53 → Has 92 [] a [(2, (.pointer (some (blk b3)))), (8, (.pointer (some (blk b14)))), (11, (.pointer (some (blk b41)))), (12, m50.v), (13, l51.v)] → K49 a w53 := by
   clear h
   intro a m50 l51 w53 h H
   replace h := h189 m50 l51 w53 h
   refine hK49 _ _ <| c_seq fun K54 hK54 => c_reg ?_
   obtain ⟨N55, hc56, K57, hc58, D59, hc60, S61, hc62, h⟩ := h
   refine s_loadN (l := [(.i N55), (.i K57), (.i D59), (.i S61)]) H rfl rfl agg_36 rfl ⟨hc56, hc58, hc60, hc62, trivial⟩ (lt_ rfl) fun a H => ?_
   iterate 3 refine s_move H rfl rfl (lt_ rfl) fun a H => ?_
   refine s_stoN (l := [(.i N55), (.i K57), (.i D59), (.i S61)]) H rfl rfl rfl rfl agg_36 rfl rfl h ?_
   clear h H
   intro w63 h H
   iterate 5 refine s_assign H rfl rfl (lt_ rfl) fun a H => ?_
   refine c_nil <| hK54 _ _ <| c_ret ?_
   obtain ⟨N64, hc65, K66, hc67, D68, hc69, S70, hc71, h⟩ := h
   exact e_ret6 H rfl ⟨_, rfl, run_loadN (l := [(.i N64), (.i K66), (.i D68), (.i S70)]) agg_36 rfl ⟨hc65, hc67, hc69, hc71, trivial⟩⟩ rfl rfl rfl rfl rfl h
  clear h189
  refine c_block ?_
  obtain ⟨I77, m78, h187, h188⟩ := h
  refine c_loop (σ := Int × Slc × Slc) (fun z w => I77 z.1 z.2.1 z.2.2 w) (fun z w => m78 z.1 z.2.1 z.2.2 w) (fun z => [(0, d1.v), (2, (.pointer (some (blk b3)))), (8, (.pointer (some (blk b14)))), (9, (.i z.1)), (11, (.pointer (some (blk b41)))), (12, z.2.1.v), (13, z.2.2.v)]) (h12, Slc.mk (some (blk b45)) 1 1, Slc.nil) h187 (H.weaken ⟨rfl, rfl, rfl, rfl, rfl, rfl, rfl, trivial⟩) ?_
  clear H h187
  rintro ⟨a73, m74, l75⟩ a w76 h H
  replace h := h188 a73 m74 l75 w76 h
  clear h188
  replace H : Has 92 [] a [(0, d1.v), (2, (.pointer (some (blk b3)))), (8, (.pointer (some (blk b14)))), (9, (.i a73)), (11, (.pointer (some (blk b41)))), (12, m74.v), (13, l75.v)] := H
  refine c_seq fun K79 hK79 => c_seq fun K80 hK80 => c_reg <| s_move H rfl rfl (lt_ rfl) fun a H => s_move H rfl rfl (lt_ rfl) fun a H => s_blt H rfl (H.args (vs := [d1.v]) rfl) (lt_ rfl) (fun cs => b_lenS (z := d1) sl_22) fun a H => s_bin H rfl rfl rfl r_lss (lt_ rfl) fun a H => c_nil <| hK80 _ _ <| c_cond H rfl (fun h81 => ?_) (fun h81 => ?_)
  ·replace h := h.1 h81
   refine c_skip <| hK79 _ _ <| c_block <| c_seq fun K82 hK82 => ?_
   replace H := H.weaken (L' := [(0, d1.v), (2, (.pointer (some (blk b3)))), (8, (.pointer (some (blk b14)))), (9, (.i a73)), (11, (.pointer (some (blk b41)))), (12, m74.v), (13, l75.v)]) ⟨rfl, rfl, rfl, rfl, rfl, rfl, rfl, trivial⟩
   obtain ⟨l85, h88, h89, h90, h⟩ := h
   obtain ⟨R83, h185, h87, h180, h181, h182, h183⟩ := h
   refine c_anyF (V := [(0, (.pointer (some (blk b41)))), (1, (.pointer (some (blk b41)))), (2, (.pointer (some ((blk b41).add 0)))), (3, l85.v), (4, d1.v), (5, (.i a73)), (6, (Slc.v (d1.cut 1 (Int.toNat (a73)) (Int.toNat ((d1.l : Int))))))]) 3 (⟨⟨[[], [0], [1], [2], [], [], [4, 5], [3, 6], [7], [8], [8], [8], [], [0, 1, 2, 3, 4, 5, 6, 7, 8, 9, 12], [0, 1, 2, 3, 4, 5, 6, 7, 8, 9, 10, 12, 13], [0, 1, 2, 3, 4, 5, 6, 7, 8, 9, 10, 11, 12, 13, 14]], [some 42, some 43, some 44, some 45, some 46, some 47, some 48, some 49, some 41, some 50, some 51, some 52, some 14, none, some 15, some 16], [7, 12, 13], [], []⟩, [[], [], [], [], [], [], [], [], [7], [7], [7], [7], [], [7, 12], [7, 12, 13], [7, 12, 13]], [[7, 13], [7, 13], [7, 13], [7, 13], [7, 13], [7, 13], [7, 13], [13], [13], [13], [], [], [13], [], [], []]⟩ : Rh) [(0, d1.v), (2, (.pointer (some (blk b3)))), (8, (.pointer (some (blk b14)))), (9, (.i a73)), (11, (.pointer (some (blk b41)))), (12, m74.v), (13, l75.v)] mixed (by kernel_rfl) H fun F186 h184 => ?_
   clear H a
   have st_7_12_13 : ∀ (K92 : Int) (K93 : ByteArray) (C94 : Int) (C95 : Int) (F96 : Bool) (H97 : Bool) (D98 : Slc) (n99 : Int) (n100 : Int) (b105 : Nat) (w84 : World), R83 (some (K92, K93, C94, C95, F96, H97, D98, n99, n100)) (some b105) (some ()) w84 → F186 0 [7, 12, 13] [(0, (.pointer (some (blk b41)))), (1, (.pointer (some (blk b41)))), (2, (.pointer (some ((blk b41).add 0)))), (3, l85.v), (4, d1.v), (5, (.i a73)), (6, (Slc.v (d1.cut 1 (Int.toNat (a73)) (Int.toNat ((d1.l : Int)))))), (7, (.tuple #[(.agg #[(.i K92), (.string K93), (.i C94), (.i C95), (.bool F96), (.bool H97), D98.v]), (.i n99), (.i n100)])), (8, (.tuple #[(.agg #[(.i K92), (.string K93), (.i C94), (.i C95), (.bool F96), (.bool H97), D98.v]), (.i n99), (.i n100)])), (9, (.agg #[(.i K92), (.string K93), (.i C94), (.i C95), (.bool F96), (.bool H97), D98.v])), (10, (.i n99)), (11, (.i n100)), (12, (.pointer (some (blk b105)))), (13, undef), (14, (.i n99)), (15, (.i n100))] w84 := by
    intro K92 K93 C94 C95 F96 H97 D98 n99 n100 b105 w84 hr
    rw [h184]
    refine StT.last [10, 11, 14, 15] (by kernel_rfl) (by kernel_rfl) (.cons ?_ (.cons ?_ (.cons ?_ (.cons ?_ .nil)))) ?_
    ·refine Ans.mk rfl rfl fun a H => ?_
     replace H := H.weaken (L' := [(41, (.tuple #[(.agg #[(.i K92), (.string K93), (.i C94), (.i C95), (.bool F96), (.bool H97), D98.v]), (.i n99), (.i n100)]))]) ⟨rfl, trivial⟩
     refine s_ext H rfl rfl rfl (lt_ rfl) fun a H => c_nil ⟨rfl, rfl, H.weaken (L' := [(51, (.i n99))]) ⟨rfl, trivial⟩⟩
    ·refine Ans.mk rfl rfl fun a H => ?_
     replace H := H.weaken (L' := [(41, (.tuple #[(.agg #[(.i K92), (.string K93), (.i C94), (.i C95), (.bool F96), (.bool H97), D98.v]), (.i n99), (.i n100)]))]) ⟨rfl, trivial⟩
     refine s_ext H rfl rfl rfl (lt_ rfl) fun a H => c_nil ⟨rfl, rfl, H.weaken (L' := [(52, (.i n100))]) ⟨rfl, trivial⟩⟩
    ·refine Ans.mk rfl rfl fun a H => ?_
     replace H := H.weaken (L' := [(51, (.i n99))]) ⟨rfl, trivial⟩
     refine s_assign H rfl rfl (lt_ rfl) fun a H => c_nil ⟨rfl, rfl, H.weaken (L' := [(15, (.i n99))]) ⟨rfl, trivial⟩⟩
    ·refine Ans.mk rfl rfl fun a H => ?_
     replace H := H.weaken (L' := [(52, (.i n100))]) ⟨rfl, trivial⟩
     refine s_assign H rfl rfl (lt_ rfl) fun a H => c_nil ⟨rfl, rfl, H.weaken (L' := [(16, (.i n100))]) ⟨rfl, trivial⟩⟩
    ·intro a H
     have h := h183 K92 K93 C94 C95 F96 H97 D98 n99 n100 b105 w84 hr
     replace H := H.weaken (L' := [(0, d1.v), (2, (.pointer (some (blk b3)))), (8, (.pointer (some (blk b14)))), (9, (.i a73)), (11, (.pointer (some (blk b41)))), (12, m74.v), (13, l75.v), (14, (.pointer (some (blk b105)))), (15, (.i n99)), (16, (.i n100))]) ⟨rfl, rfl, rfl, rfl, rfl, rfl, rfl, rfl, rfl, rfl, trivial⟩
     refine hK82 _ _ <| c_seq fun K112 hK112 => c_seq fun K113 hK113 => c_reg <| s_move H rfl rfl (lt_ rfl) fun a H => s_bin H rfl rfl rfl r_neq (lt_ rfl) fun a H => c_nil <| hK113 _ _ <| c_cond H rfl (fun h114 => ?_) (fun h114 => ?_)
     ·replace h := h.1 h114
      refine c_seq fun K115 hK115 => c_reg ?_
      obtain ⟨N116, hc117, K118, hc119, D120, hc121, S122, hc123, h⟩ := h
      refine s_loadN (l := [(.i N116), (.i K118), (.i D120), (.i S122)]) H rfl rfl agg_36 rfl ⟨hc117, hc119, hc121, hc123, trivial⟩ (lt_ rfl) fun a H => ?_
      iterate 4 refine s_move H rfl rfl (lt_ rfl) fun a H => ?_
      refine s_stoN (l := [(.i N116), (.i K118), (.i D120), (.i S122)]) H rfl rfl rfl rfl agg_36 rfl rfl h ?_
      clear h H
      intro w124 h H
      iterate 5 refine s_assign H rfl rfl (lt_ rfl) fun a H => ?_
      refine c_nil <| hK115 _ _ <| c_ret ?_
      obtain ⟨N125, hc126, K127, hc128, D129, hc130, S131, hc132, h⟩ := h
      exact e_ret6 H rfl ⟨_, rfl, run_loadN (l := [(.i N125), (.i K127), (.i D129), (.i S131)]) agg_36 rfl ⟨hc126, hc128, hc130, hc132, trivial⟩⟩ rfl rfl rfl rfl rfl h
     ·replace h := h.2 h114
      refine c_skip <| hK112 _ _ <| c_seq fun K133 hK133 => c_reg <| s_move H rfl rfl (lt_ rfl) fun a H => s_move H rfl rfl (lt_ rfl) fun a H => s_bin H rfl rfl rfl r_add (lt_ rfl) fun a H => s_assign H rfl rfl (lt_ rfl) fun a H => c_nil <| hK133 _ _ <| c_seq fun K134 hK134 => c_reg <| s_move H rfl rfl (lt_ rfl) fun a H => ?_
      replace h := h.get
      obtain ⟨b135, w136, n137, h⟩ := h
      refine s_bslc H rfl (by rw [H.parts (vs := []) rfl]; exact bs_22_0 w84) (lt_ rfl) ?_
      rw [← n137.at_]
      clear H a
      intro a H
      refine n137.go <| s_move H rfl rfl (lt_ rfl) fun a H => s_move H rfl rfl (lt_ rfl) fun a H => s_bin H rfl rfl rfl r_sub (lt_ rfl) fun a H => s_move H rfl rfl (lt_ rfl) fun a H => ?_
      obtain ⟨h138, h139, h140, h⟩ := h
      refine s_slice (v := (Slc.v (d1.cut 1 (Int.toNat (wr .i64 ((wr .i64 (a73 + n99)) - 4))) (Int.toNat (wr .i64 (a73 + n99)))))) H rfl rfl ⟨rfl, rfl⟩ ⟨rfl, rfl⟩ ⟨rfl, rfl⟩ (r_sliceSlc (lo := (some (.i64, wr .i64 ((wr .i64 (a73 + n99)) - 4)))) (hi := (some (.i64, wr .i64 (a73 + n99)))) slc_22 rfl rfl h138 h139 h140) (lt_ rfl) fun a H => ?_
      obtain ⟨s141, w142, h143, h⟩ := h
      refine s_blt H rfl (H.args (vs := [(Slc.v (Slc.mk (some (blk b135)) 0 0)), (Slc.v (d1.cut 1 (Int.toNat (wr .i64 ((wr .i64 (a73 + n99)) - 4))) (Int.toNat (wr .i64 (a73 + n99)))))]) rfl) (lt_ rfl) (fun cs => b_app (z := s141) h143) ?_
      clear H a h143
      intro a H
      refine s_nil H rfl rfl (lt_ rfl) fun a H => s_fld H rfl rfl fld_74_0 (lt_ rfl) fun a H => ?_
      obtain ⟨h145, h146, h⟩ := h
      refine s_sto (p := (blk b41).add 0) (v := s141.v) H rfl rfl rfl rfl one_22 rfl h145 h146 ?_
      clear H
      intro H
      generalize hww144 : World.setCell w142 ((blk b41).add 0) s141.v = w144 at h ⊢
      have w144S : SetAt w142 ((blk b41).add 0) s141.v w144 := ⟨hww144.symm⟩
      clear hww144 h145 h146
      refine c_nil <| hK134 _ _ <| c_seq fun K147 hK147 => c_reg <| s_move H rfl rfl (lt_ rfl) fun a H => s_nil H rfl rfl (lt_ rfl) fun a H => s_fld H rfl rfl fld_74_1 (lt_ rfl) fun a H => ?_
      obtain ⟨l148, hc149, h⟩ := h
      refine s_load (v := (.i l148)) H rfl rfl one_3 hc149 (lt_ rfl) fun a H => s_bin H rfl rfl rfl r_add (lt_ rfl) fun a H => s_nil H rfl rfl (lt_ rfl) fun a H => s_fld H rfl rfl fld_74_1 (lt_ rfl) fun a H => ?_
      obtain ⟨h151, h152, h⟩ := h
      refine s_sto (p := (blk b41).add 1) (v := (.i (wr .i64 (l148 + 1)))) H rfl rfl rfl rfl one_3 rfl h151 h152 ?_
      clear H
      intro H
      generalize hww150 : World.setCell w144 ((blk b41).add 1) (.i (wr .i64 (l148 + 1))) = w150 at h ⊢
      have w150S : SetAt w144 ((blk b41).add 1) (.i (wr .i64 (l148 + 1))) w150 := ⟨hww150.symm⟩
      clear hww150 h151 h152
      refine c_nil <| hK147 _ _ <| c_seq fun K153 hK153 => c_reg <| s_move H rfl rfl (lt_ rfl) fun a H => ?_
      obtain ⟨K154, hc155, K156, hc157, C158, hc159, C160, hc161, F162, hc163, H164, hc165, D166, hc167, h⟩ := h
      refine s_loadN (l := [(.i K154), (.string K156), (.i C158), (.i C160), (.bool F162), (.bool H164), D166.v]) H rfl rfl agg_28 rfl ⟨hc155, hc157, hc159, hc161, hc163, hc165, hc167, trivial⟩ (lt_ rfl) fun a H => ?_
      replace h := h.get
      obtain ⟨b168, w169, n170, h⟩ := h
      refine s_bslc H rfl (by rw [H.parts (vs := [(0, (.agg #[(.i K154), (.string K156), (.i C158), (.i C160), (.bool F162), (.bool H164), D166.v]))]) rfl]; exact bs_43_1_ii64sii64ii64bbs0 w150 K154 K156 C158 C160 F162 H164 D166) (lt_ rfl) ?_
      rw [← n170.at_]
      clear H a
      intro a H
      refine n170.go ?_
      obtain ⟨s171, w172, h173, h⟩ := h
      refine s_blt H rfl (H.args (vs := [l75.v, (Slc.v (Slc.mk (some (blk b168)) 1 1))]) rfl) (lt_ rfl) (fun cs => b_app (z := s171) h173) ?_
      clear H a h173
      intro a H
      refine s_assign H rfl rfl (lt_ rfl) fun a H => c_nil <| hK153 _ _ <| c_reg <| s_move H rfl rfl (lt_ rfl) fun a H => s_move H rfl rfl (lt_ rfl) fun a H => ?_
      replace h := h.get
      obtain ⟨b174, w175, n176, h⟩ := h
      refine s_bslc H rfl (by rw [H.parts (vs := [(0, (.i (wr .i64 (a73 + n99))))]) rfl]; exact bs_44_1_ii640 w172 (wr .i64 (a73 + n99))) (lt_ rfl) ?_
      rw [← n176.at_]
      clear H a
      intro a H
      refine n176.go ?_
      obtain ⟨s177, w178, h179, h⟩ := h
      refine s_blt H rfl (H.args (vs := [m74.v, (Slc.v (Slc.mk (some (blk b174)) 1 1))]) rfl) (lt_ rfl) (fun cs => b_app (z := s177) h179) ?_
      clear H a h179
      intro a H
      refine s_assign H rfl rfl (lt_ rfl) fun a H => c_nil <| Exists.intro (wr .i64 (a73 + n99), s177, s171) ⟨h.1, h.2, H.weaken ⟨rfl, rfl, rfl, rfl, rfl, rfl, rfl, trivial⟩⟩
   have st_7_12 : ∀ (K92 : Int) (K93 : ByteArray) (C94 : Int) (C95 : Int) (F96 : Bool) (H97 : Bool) (D98 : Slc) (n99 : Int) (n100 : Int) (b105 : Nat) (w84 : World), R83 (some (K92, K93, C94, C95, F96, H97, D98, n99, n100)) (some b105) none w84 → F186 1 [7, 12] [(0, (.pointer (some (blk b41)))), (1, (.pointer (some (blk b41)))), (2, (.pointer (some ((blk b41).add 0)))), (3, l85.v), (4, d1.v), (5, (.i a73)), (6, (Slc.v (d1.cut 1 (Int.toNat (a73)) (Int.toNat ((d1.l : Int)))))), (7, (.tuple #[(.agg #[(.i K92), (.string K93), (.i C94), (.i C95), (.bool F96), (.bool H97), D98.v]), (.i n99), (.i n100)])), (8, (.tuple #[(.agg #[(.i K92), (.string K93), (.i C94), (.i C95), (.bool F96), (.bool H97), D98.v]), (.i n99), (.i n100)])), (9, (.agg #[(.i K92), (.string K93), (.i C94), (.i C95), (.bool F96), (.bool H97), D98.v])), (10, (.i n99)), (11, (.i n100)), (12, (.pointer (some (blk b105))))] w84 := by
    intro K92 K93 C94 C95 F96 H97 D98 n99 n100 b105 w84 hr
    rw [h184]
    refine StT.more [8, 9, 10, 11] [13] (by kernel_rfl) (by kernel_rfl) (by kernel_rfl) (.cons ?_ (.cons ?_ (.cons ?_ (.cons ?_ .nil)))) (.cons ?_ .nil)
    ·refine Ans.mk rfl rfl fun a H => ?_
     replace H := H.weaken (L' := [(49, (.tuple #[(.agg #[(.i K92), (.string K93), (.i C94), (.i C95), (.bool F96), (.bool H97), D98.v]), (.i n99), (.i n100)]))]) ⟨rfl, trivial⟩
     refine s_move H rfl rfl (lt_ rfl) fun a H => c_nil ⟨rfl, rfl, H.weaken (L' := [(41, (.tuple #[(.agg #[(.i K92), (.string K93), (.i C94), (.i C95), (.bool F96), (.bool H97), D98.v]), (.i n99), (.i n100)]))]) ⟨rfl, trivial⟩⟩
    ·refine Ans.mk rfl rfl fun a H => ?_
     replace H := H.weaken (L' := [(41, (.tuple #[(.agg #[(.i K92), (.string K93), (.i C94), (.i C95), (.bool F96), (.bool H97), D98.v]), (.i n99), (.i n100)]))]) ⟨rfl, trivial⟩
     refine s_ext H rfl rfl rfl (lt_ rfl) fun a H => c_nil ⟨rfl, rfl, H.weaken (L' := [(50, (.agg #[(.i K92), (.string K93), (.i C94), (.i C95), (.bool F96), (.bool H97), D98.v]))]) ⟨rfl, trivial⟩⟩
    ·refine Ans.mk rfl rfl fun a H => ?_
     replace H := H.weaken (L' := [(41, (.tuple #[(.agg #[(.i K92), (.string K93), (.i C94), (.i C95), (.bool F96), (.bool H97), D98.v]), (.i n99), (.i n100)]))]) ⟨rfl, trivial⟩
     refine s_ext H rfl rfl rfl (lt_ rfl) fun a H => c_nil ⟨rfl, rfl, H.weaken (L' := [(51, (.i n99))]) ⟨rfl, trivial⟩⟩
    ·refine Ans.mk rfl rfl fun a H => ?_
     replace H := H.weaken (L' := [(41, (.tuple #[(.agg #[(.i K92), (.string K93), (.i C94), (.i C95), (.bool F96), (.bool H97), D98.v]), (.i n99), (.i n100)]))]) ⟨rfl, trivial⟩
     refine s_ext H rfl rfl rfl (lt_ rfl) fun a H => c_nil ⟨rfl, rfl, H.weaken (L' := [(52, (.i n100))]) ⟨rfl, trivial⟩⟩
    ·refine ⟨_, rfl, fun a H => ?_⟩
     replace H := H.weaken (L' := [(14, (.pointer (some (blk b105)))), (50, (.agg #[(.i K92), (.string K93), (.i C94), (.i C95), (.bool F96), (.bool H97), D98.v]))]) ⟨rfl, rfl, trivial⟩
     have h := h182 K92 K93 C94 C95 F96 H97 D98 n99 n100 b105 w84 hr
     refine s_stoN (l := [(.i K92), (.string K93), (.i C94), (.i C95), (.bool F96), (.bool H97), D98.v]) H rfl rfl rfl rfl agg_28 rfl rfl h ?_
     clear h H
     intro w108 h H
     refine c_nil ?_
     refine effQ.ok (v := undef) (H.weaken (L' := []) trivial) ⟨[(0, (.pointer (some (blk b41)))), (1, (.pointer (some (blk b41)))), (2, (.pointer (some ((blk b41).add 0)))), (3, l85.v), (4, d1.v), (5, (.i a73)), (6, (Slc.v (d1.cut 1 (Int.toNat (a73)) (Int.toNat ((d1.l : Int)))))), (7, (.tuple #[(.agg #[(.i K92), (.string K93), (.i C94), (.i C95), (.bool F96), (.bool H97), D98.v]), (.i n99), (.i n100)])), (8, (.tuple #[(.agg #[(.i K92), (.string K93), (.i C94), (.i C95), (.bool F96), (.bool H97), D98.v]), (.i n99), (.i n100)])), (9, (.agg #[(.i K92), (.string K93), (.i C94), (.i C95), (.bool F96), (.bool H97), D98.v])), (10, (.i n99)), (11, (.i n100)), (12, (.pointer (some (blk b105)))), (13, undef), (14, (.i n99)), (15, (.i n100))], ⟨rfl, rfl, rfl, rfl, rfl, rfl, rfl, rfl, rfl, rfl, rfl, rfl, rfl, rfl, trivial⟩, ?_⟩
     have hx := st_7_12_13 K92 K93 C94 C95 F96 H97 D98 n99 n100 b105 w108 h
     rw [h184] at hx
     exact hx
   have st_7 : ∀ (K92 : Int) (K93 : ByteArray) (C94 : Int) (C95 : Int) (F96 : Bool) (H97 : Bool) (D98 : Slc) (n99 : Int) (n100 : Int) (w84 : World), R83 (some (K92, K93, C94, C95, F96, H97, D98, n99, n100)) none none w84 → F186 2 [7] [(0, (.pointer (some (blk b41)))), (1, (.pointer (some (blk b41)))), (2, (.pointer (some ((blk b41).add 0)))), (3, l85.v), (4, d1.v), (5, (.i a73)), (6, (Slc.v (d1.cut 1 (Int.toNat (a73)) (Int.toNat ((d1.l : Int)))))), (7, (.tuple #[(.agg #[(.i K92), (.string K93), (.i C94), (.i C95), (.bool F96), (.bool H97), D98.v]), (.i n99), (.i n100)])), (8, (.tuple #[(.agg #[(.i K92), (.string K93), (.i C94), (.i C95), (.bool F96), (.bool H97), D98.v]), (.i n99), (.i n100)])), (9, (.agg #[(.i K92), (.string K93), (.i C94), (.i C95), (.bool F96), (.bool H97), D98.v])), (10, (.i n99)), (11, (.i n100))] w84 := by
    intro K92 K93 C94 C95 F96 H97 D98 n99 n100 w84 hr
    rw [h184]
    refine StT.more [8, 9, 10, 11] [12] (by kernel_rfl) (by kernel_rfl) (by kernel_rfl) (.cons ?_ (.cons ?_ (.cons ?_ (.cons ?_ .nil)))) (.cons ?_ .nil)
    ·refine Ans.mk rfl rfl fun a H => ?_
     replace H := H.weaken (L' := [(49, (.tuple #[(.agg #[(.i K92), (.string K93), (.i C94), (.i C95), (.bool F96), (.bool H97), D98.v]), (.i n99), (.i n100)]))]) ⟨rfl, trivial⟩
     refine s_move H rfl rfl (lt_ rfl) fun a H => c_nil ⟨rfl, rfl, H.weaken (L' := [(41, (.tuple #[(.agg #[(.i K92), (.string K93), (.i C94), (.i C95), (.bool F96), (.bool H97), D98.v]), (.i n99), (.i n100)]))]) ⟨rfl, trivial⟩⟩
    ·refine Ans.mk rfl rfl fun a H => ?_
     replace H := H.weaken (L' := [(41, (.tuple #[(.agg #[(.i K92), (.string K93), (.i C94), (.i C95), (.bool F96), (.bool H97), D98.v]), (.i n99), (.i n100)]))]) ⟨rfl, trivial⟩
     refine s_ext H rfl rfl rfl (lt_ rfl) fun a H => c_nil ⟨rfl, rfl, H.weaken (L' := [(50, (.agg #[(.i K92), (.string K93), (.i C94), (.i C95), (.bool F96), (.bool H97), D98.v]))]) ⟨rfl, trivial⟩⟩
    ·refine Ans.mk rfl rfl fun a H => ?_
     replace H := H.weaken (L' := [(41, (.tuple #[(.agg #[(.i K92), (.string K93), (.i C94), (.i C95), (.bool F96), (.bool H97), D98.v]), (.i n99), (.i n100)]))]) ⟨rfl, trivial⟩
     refine s_ext H rfl rfl rfl (lt_ rfl) fun a H => c_nil ⟨rfl, rfl, H.weaken (L' := [(51, (.i n99))]) ⟨rfl, trivial⟩⟩
    ·refine Ans.mk rfl rfl fun a H => ?_
     replace H := H.weaken (L' := [(41, (.tuple #[(.agg #[(.i K92), (.string K93), (.i C94), (.i C95), (.bool F96), (.bool H97), D98.v]), (.i n99), (.i n100)]))]) ⟨rfl, trivial⟩
     refine s_ext H rfl rfl rfl (lt_ rfl) fun a H => c_nil ⟨rfl, rfl, H.weaken (L' := [(52, (.i n100))]) ⟨rfl, trivial⟩⟩
    ·refine ⟨_, rfl, fun a H => ?_⟩
     replace H := H.weaken (L' := []) trivial
     have h := h181 (some (K92, K93, C94, C95, F96, H97, D98, n99, n100)) w84 hr
     replace h := h.get
     obtain ⟨b105, w106, n107, h⟩ := h
     refine s_alloc H rfl zero_28 (lt_ rfl) ?_
     rw [← n107.at_]
     clear H a
     intro a H
     refine n107.go <| c_nil ?_
     refine effQ.ok (v := (.pointer (some (blk b105)))) (H.weaken (L' := [(14, (.pointer (some (blk b105))))]) ⟨rfl, trivial⟩) ⟨[(0, (.pointer (some (blk b41)))), (1, (.pointer (some (blk b41)))), (2, (.pointer (some ((blk b41).add 0)))), (3, l85.v), (4, d1.v), (5, (.i a73)), (6, (Slc.v (d1.cut 1 (Int.toNat (a73)) (Int.toNat ((d1.l : Int)))))), (7, (.tuple #[(.agg #[(.i K92), (.string K93), (.i C94), (.i C95), (.bool F96), (.bool H97), D98.v]), (.i n99), (.i n100)])), (8, (.tuple #[(.agg #[(.i K92), (.string K93), (.i C94), (.i C95), (.bool F96), (.bool H97), D98.v]), (.i n99), (.i n100)])), (9, (.agg #[(.i K92), (.string K93), (.i C94), (.i C95), (.bool F96), (.bool H97), D98.v])), (10, (.i n99)), (11, (.i n100)), (12, (.pointer (some (blk b105))))], ⟨rfl, rfl, rfl, rfl, rfl, rfl, rfl, rfl, rfl, rfl, rfl, rfl, rfl, trivial⟩, ?_⟩
     have hx := st_7_12 K92 K93 C94 C95 F96 H97 D98 n99 n100 b105 w106 h
     rw [h184] at hx
     exact hx
   have st_12 : ∀ (b105 : Nat) (w84 : World), R83 none (some b105) none w84 → F186 2 [12] [(0, (.pointer (some (blk b41)))), (1, (.pointer (some (blk b41)))), (2, (.pointer (some ((blk b41).add 0)))), (3, l85.v), (4, d1.v), (5, (.i a73)), (6, (Slc.v (d1.cut 1 (Int.toNat (a73)) (Int.toNat ((d1.l : Int)))))), (12, (.pointer (some (blk b105))))] w84 := by
    intro b105 w84 hr
    rw [h184]
    refine StT.more [0, 1, 2, 3, 4, 5, 6] [7] (by kernel_rfl) (by kernel_rfl) (by kernel_rfl) (.cons ?_ (.cons ?_ (.cons ?_ (.cons ?_ (.cons ?_ (.cons ?_ (.cons ?_ .nil))))))) (.cons ?_ .nil)
    ·refine Ans.mk rfl rfl fun a H => ?_
     replace H := H.weaken (L' := [(11, (.pointer (some (blk b41))))]) ⟨rfl, trivial⟩
     refine s_move H rfl rfl (lt_ rfl) fun a H => c_nil ⟨rfl, rfl, H.weaken (L' := [(42, (.pointer (some (blk b41))))]) ⟨rfl, trivial⟩⟩
    ·refine Ans.mk rfl rfl fun a H => ?_
     replace H := H.weaken (L' := [(42, (.pointer (some (blk b41))))]) ⟨rfl, trivial⟩
     refine s_nil H rfl rfl (lt_ rfl) fun a H => c_nil ⟨rfl, rfl, H.weaken (L' := [(43, (.pointer (some (blk b41))))]) ⟨rfl, trivial⟩⟩
    ·refine Ans.mk rfl rfl fun a H => ?_
     replace H := H.weaken (L' := [(43, (.pointer (some (blk b41))))]) ⟨rfl, trivial⟩
     refine s_fld H rfl rfl fld_74_0 (lt_ rfl) fun a H => c_nil ⟨rfl, rfl, H.weaken (L' := [(44, (.pointer (some ((blk b41).add 0))))]) ⟨rfl, trivial⟩⟩
    ·refine Ans.mk rfl rfl fun a H => ?_
     replace H := H.weaken (L' := [(44, (.pointer (some ((blk b41).add 0))))]) ⟨rfl, trivial⟩
     obtain hc86 := h87 (some b105) w84 hr
     refine s_load (v := l85.v) H rfl rfl one_22 hc86 (lt_ rfl) fun a H => c_nil ⟨rfl, rfl, H.weaken (L' := [(45, l85.v)]) ⟨rfl, trivial⟩⟩
    ·refine Ans.mk rfl rfl fun a H => ?_
     replace H := H.weaken (L' := [(0, d1.v)]) ⟨rfl, trivial⟩
     refine s_move H rfl rfl (lt_ rfl) fun a H => c_nil ⟨rfl, rfl, H.weaken (L' := [(46, d1.v)]) ⟨rfl, trivial⟩⟩
    ·refine Ans.mk rfl rfl fun a H => ?_
     replace H := H.weaken (L' := [(9, (.i a73))]) ⟨rfl, trivial⟩
     refine s_move H rfl rfl (lt_ rfl) fun a H => c_nil ⟨rfl, rfl, H.weaken (L' := [(47, (.i a73))]) ⟨rfl, trivial⟩⟩
    ·refine Ans.mk rfl rfl fun a H => ?_
     replace H := H.weaken (L' := [(46, d1.v), (47, (.i a73))]) ⟨rfl, rfl, trivial⟩
     refine s_slice (v := (Slc.v (d1.cut 1 (Int.toNat (a73)) (Int.toNat ((d1.l : Int)))))) H rfl rfl ⟨rfl, rfl⟩ ⟨rfl, rfl⟩ ⟨rfl, rfl⟩ (r_sliceSlc (lo := (some (.i64, a73))) (hi := none) slc_22 rfl rfl h88 h89 h90) (lt_ rfl) fun a H => c_nil ⟨rfl, rfl, H.weaken (L' := [(48, (Slc.v (d1.cut 1 (Int.toNat (a73)) (Int.toNat ((d1.l : Int))))))]) ⟨rfl, trivial⟩⟩
    ·refine ⟨_, rfl, fun a H => ?_⟩
     replace H := H.weaken (L' := [(45, l85.v), (48, (Slc.v (d1.cut 1 (Int.toNat (a73)) (Int.toNat ((d1.l : Int))))))]) ⟨rfl, rfl, trivial⟩
     have h := h180 (some b105) w84 hr
     refine s_call H rfl body_29 (H.args (vs := [l85.v, (Slc.v (d1.cut 1 (Int.toNat (a73)) (Int.toNat ((d1.l : Int)))))]) rfl) (lt_ rfl) h ?_ (fun c w' h H => e_panic (P := PP) (fn := Tryz.f10) H h)
     clear H h a
     rintro _ w91 a ⟨K92, K93, C94, C95, F96, H97, D98, n99, n100, rfl, h⟩ H
     refine c_nil ?_
     refine effQ.ok (v := (.tuple #[(.agg #[(.i K92), (.string K93), (.i C94), (.i C95), (.bool F96), (.bool H97), D98.v]), (.i n99), (.i n100)])) (H.weaken (L' := [(49, (.tuple #[(.agg #[(.i K92), (.string K93), (.i C94), (.i C95), (.bool F96), (.bool H97), D98.v]), (.i n99), (.i n100)]))]) ⟨rfl, trivial⟩) ⟨[(0, (.pointer (some (blk b41)))), (1, (.pointer (some (blk b41)))), (2, (.pointer (some ((blk b41).add 0)))), (3, l85.v), (4, d1.v), (5, (.i a73)), (6, (Slc.v (d1.cut 1 (Int.toNat (a73)) (Int.toNat ((d1.l : Int)))))), (7, (.tuple #[(.agg #[(.i K92), (.string K93), (.i C94), (.i C95), (.bool F96), (.bool H97), D98.v]), (.i n99), (.i n100)])), (8, (.tuple #[(.agg #[(.i K92), (.string K93), (.i C94), (.i C95), (.bool F96), (.bool H97), D98.v]), (.i n99), (.i n100)])), (9, (.agg #[(.i K92), (.string K93), (.i C94), (.i C95), (.bool F96), (.bool H97), D98.v])), (10, (.i n99)), (11, (.i n100)), (12, (.pointer (some (blk b105))))], ⟨rfl, rfl, rfl, rfl, rfl, rfl, rfl, rfl, rfl, trivial⟩, ?_⟩
     have hx := st_7_12 K92 K93 C94 C95 F96 H97 D98 n99 n100 b105 w91 h
     rw [h184] at hx
     exact hx
   have st_ : ∀ (w84 : World), R83 none none none w84 → F186 3 [] [(0, (.pointer (some (blk b41)))), (1, (.pointer (some (blk b41)))), (2, (.pointer (some ((blk b41).add 0)))), (3, l85.v), (4, d1.v), (5, (.i a73)), (6, (Slc.v (d1.cut 1 (Int.toNat (a73)) (Int.toNat ((d1.l : Int))))))] w84 := by
    intro w84 hr
    rw [h184]
    refine StT.more [0, 1, 2, 3, 4, 5, 6] [7, 12] (by kernel_rfl) (by kernel_rfl) (by kernel_rfl) (.cons ?_ (.cons ?_ (.cons ?_ (.cons ?_ (.cons ?_ (.cons ?_ (.cons ?_ .nil))))))) (.cons ?_ (.cons ?_ .nil))
    ·refine Ans.mk rfl rfl fun a H => ?_
     replace H := H.weaken (L' := [(11, (.pointer (some (blk b41))))]) ⟨rfl, trivial⟩
     refine s_move H rfl rfl (lt_ rfl) fun a H => c_nil ⟨rfl, rfl, H.weaken (L' := [(42, (.pointer (some (blk b41))))]) ⟨rfl, trivial⟩⟩
    ·refine Ans.mk rfl rfl fun a H => ?_
     replace H := H.weaken (L' := [(42, (.pointer (some (blk b41))))]) ⟨rfl, trivial⟩
     refine s_nil H rfl rfl (lt_ rfl) fun a H => c_nil ⟨rfl, rfl, H.weaken (L' := [(43, (.pointer (some (blk b41))))]) ⟨rfl, trivial⟩⟩
    ·refine Ans.mk rfl rfl fun a H => ?_
     replace H := H.weaken (L' := [(43, (.pointer (some (blk b41))))]) ⟨rfl, trivial⟩
     refine s_fld H rfl rfl fld_74_0 (lt_ rfl) fun a H => c_nil ⟨rfl, rfl, H.weaken (L' := [(44, (.pointer (some ((blk b41).add 0))))]) ⟨rfl, trivial⟩⟩
    ·refine Ans.mk rfl rfl fun a H => ?_
     replace H := H.weaken (L' := [(44, (.pointer (some ((blk b41).add 0))))]) ⟨rfl, trivial⟩
     obtain hc86 := h87 none w84 hr
     refine s_load (v := l85.v) H rfl rfl one_22 hc86 (lt_ rfl) fun a H => c_nil ⟨rfl, rfl, H.weaken (L' := [(45, l85.v)]) ⟨rfl, trivial⟩⟩
    ·refine Ans.mk rfl rfl fun a H => ?_
     replace H := H.weaken (L' := [(0, d1.v)]) ⟨rfl, trivial⟩
     refine s_move H rfl rfl (lt_ rfl) fun a H => c_nil ⟨rfl, rfl, H.weaken (L' := [(46, d1.v)]) ⟨rfl, trivial⟩⟩
    ·refine Ans.mk rfl rfl fun a H => ?_
     replace H := H.weaken (L' := [(9, (.i a73))]) ⟨rfl, trivial⟩
     refine s_move H rfl rfl (lt_ rfl) fun a H => c_nil ⟨rfl, rfl, H.weaken (L' := [(47, (.i a73))]) ⟨rfl, trivial⟩⟩
    ·refine Ans.mk rfl rfl fun a H => ?_
     replace H := H.weaken (L' := [(46, d1.v), (47, (.i a73))]) ⟨rfl, rfl, trivial⟩
     refine s_slice (v := (Slc.v (d1.cut 1 (Int.toNat (a73)) (Int.toNat ((d1.l : Int)))))) H rfl rfl ⟨rfl, rfl⟩ ⟨rfl, rfl⟩ ⟨rfl, rfl⟩ (r_sliceSlc (lo := (some (.i64, a73))) (hi := none) slc_22 rfl rfl h88 h89 h90) (lt_ rfl) fun a H => c_nil ⟨rfl, rfl, H.weaken (L' := [(48, (Slc.v (d1.cut 1 (Int.toNat (a73)) (Int.toNat ((d1.l : Int))))))]) ⟨rfl, trivial⟩⟩
    ·refine ⟨_, rfl, fun a H => ?_⟩
     replace H := H.weaken (L' := [(45, l85.v), (48, (Slc.v (d1.cut 1 (Int.toNat (a73)) (Int.toNat ((d1.l : Int))))))]) ⟨rfl, rfl, trivial⟩
     have h := h180 none w84 hr
     refine s_call H rfl body_29 (H.args (vs := [l85.v, (Slc.v (d1.cut 1 (Int.toNat (a73)) (Int.toNat ((d1.l : Int)))))]) rfl) (lt_ rfl) h ?_ (fun c w' h H => e_panic (P := PP) (fn := Tryz.f10) H h)
     clear H h a
     rintro _ w91 a ⟨K92, K93, C94, C95, F96, H97, D98, n99, n100, rfl, h⟩ H
     refine c_nil ?_
     refine effQ.ok (v := (.tuple #[(.agg #[(.i K92), (.string K93), (.i C94), (.i C95), (.bool F96), (.bool H97), D98.v]), (.i n99), (.i n100)])) (H.weaken (L' := [(49, (.tuple #[(.agg #[(.i K92), (.string K93), (.i C94), (.i C95), (.bool F96), (.bool H97), D98.v]), (.i n99), (.i n100)]))]) ⟨rfl, trivial⟩) ⟨[(0, (.pointer (some (blk b41)))), (1, (.pointer (some (blk b41)))), (2, (.pointer (some ((blk b41).add 0)))), (3, l85.v), (4, d1.v), (5, (.i a73)), (6, (Slc.v (d1.cut 1 (Int.toNat (a73)) (Int.toNat ((d1.l : Int)))))), (7, (.tuple #[(.agg #[(.i K92), (.string K93), (.i C94), (.i C95), (.bool F96), (.bool H97), D98.v]), (.i n99), (.i n100)])), (8, (.tuple #[(.agg #[(.i K92), (.string K93), (.i C94), (.i C95), (.bool F96), (.bool H97), D98.v]), (.i n99), (.i n100)])), (9, (.agg #[(.i K92), (.string K93), (.i C94), (.i C95), (.bool F96), (.bool H97), D98.v])), (10, (.i n99)), (11, (.i n100))], ⟨rfl, rfl, rfl, rfl, rfl, rfl, rfl, rfl, trivial⟩, ?_⟩
     have hx := st_7 K92 K93 C94 C95 F96 H97 D98 n99 n100 w91 h
     rw [h184] at hx
     exact hx
    ·refine ⟨_, rfl, fun a H => ?_⟩
     replace H := H.weaken (L' := []) trivial
     have h := h181 none w84 hr
     replace h := h.get
     obtain ⟨b105, w106, n107, h⟩ := h
     refine s_alloc H rfl zero_28 (lt_ rfl) ?_
     rw [← n107.at_]
     clear H a
     intro a H
     refine n107.go <| c_nil <| effQ.ok (v := (.pointer (some (blk b105)))) (H.weaken (L' := [(14, (.pointer (some (blk b105))))]) ⟨rfl, trivial⟩) ⟨[(0, (.pointer (some (blk b41)))), (1, (.pointer (some (blk b41)))), (2, (.pointer (some ((blk b41).add 0)))), (3, l85.v), (4, d1.v), (5, (.i a73)), (6, (Slc.v (d1.cut 1 (Int.toNat (a73)) (Int.toNat ((d1.l : Int)))))), (12, (.pointer (some (blk b105))))], ⟨rfl, rfl, rfl, rfl, rfl, rfl, rfl, rfl, trivial⟩, ?_⟩
     have hx := st_12 b105 w106 h
     rw [h184] at hx
     exact hx
   exact st_ _ h185
  ·replace h := h.2 h81
   refine c_exit ?_
   first | (simp only [Exit.then, Exit.inBlock, ↓reduceIte]; fail_if_success simp only [Nat.reduceEqDiff]) | simp only [Exit.then, Exit.inBlock, ↓reduceIte, Nat.reduceEqDiff]
   exact h72 _ _ _ _ h (H.weaken ⟨rfl, rfl, rfl, rfl, rfl, trivial⟩)

theorem sim_sherdlaw11_ask (d1 : Slc) (w : World) (Q : Ending → World → Prop) (h : vc_sherdlaw11_ask d1 w Q) : Calls PP F_sherdlaw11_ask #[d1.v] w Q := by
 unfold vc_sherdlaw11_ask at h
 refine enter (n := 20) Tryz.func11 rfl rfl (Nat.le_of_ble_eq_true rfl) fun a H => c_seq fun K2 hK2 => c_reg ?_
 replace h := h.get
 obtain ⟨b3, w4, n5, h⟩ := h
 refine s_alloc H rfl zero_49 (lt_ rfl) ?_
 rw [← n5.at_]
 clear H a
 intro a H
 refine n5.go <| c_nil <| hK2 _ _ <| c_seq fun K6 hK6 => c_reg ?_
 replace h := h.get
 obtain ⟨b7, w8, n9, h⟩ := h
 refine s_alloc H rfl zero_49 (lt_ rfl) ?_
 rw [← n9.at_]
 clear H a
 intro a H
 refine n9.go <| c_nil <| hK6 _ _ <| c_seq fun K10 hK10 => c_reg <| s_move H rfl rfl (lt_ rfl) fun a H => s_call H rfl body_30 (H.args (vs := [d1.v]) rfl) (lt_ rfl) h ?_ (fun c w' h H => e_panic (P := PP) (fn := Tryz.f11) H h)
 clear H h a
 rintro _ w11 a ⟨N12, K13, D14, S15, S16, S17, S18, S19, S20, rfl, h⟩ H
 refine s_move H rfl rfl (lt_ rfl) fun a H => ?_
 iterate 6 refine s_ext H rfl rfl rfl (lt_ rfl) fun a H => ?_
 refine s_fld H rfl rfl fld_49_0 (lt_ rfl) fun a H => s_stoN (l := [(.i N12), (.i K13), (.i D14), (.i S15)]) H rfl rfl rfl rfl agg_36 rfl rfl h ?_
 clear h H
 intro w21 h H
 refine s_fld H rfl rfl fld_49_1 (lt_ rfl) fun a H => ?_
 obtain ⟨h23, h24, h⟩ := h
 refine s_sto (p := (blk b7).add 4) (v := S16.v) H rfl rfl rfl rfl one_43 rfl h23 h24 ?_
 clear H
 intro H
 generalize hww22 : World.setCell w21 ((blk b7).add 4) S16.v = w22 at h ⊢
 have w22S : SetAt w21 ((blk b7).add 4) S16.v w22 := ⟨hww22.symm⟩
 clear hww22 h23 h24
 refine s_fld H rfl rfl fld_49_2 (lt_ rfl) fun a H => ?_
 obtain ⟨h26, h27, h⟩ := h
 refine s_sto (p := (blk b7).add 5) (v := S17.v) H rfl rfl rfl rfl one_44 rfl h26 h27 ?_
 clear H
 intro H
 generalize hww25 : World.setCell w22 ((blk b7).add 5) S17.v = w25 at h ⊢
 have w25S : SetAt w22 ((blk b7).add 5) S17.v w25 := ⟨hww25.symm⟩
 clear hww25 h26 h27
 refine s_fld H rfl rfl fld_49_3 (lt_ rfl) fun a H => ?_
 obtain ⟨h29, h30, h⟩ := h
 refine s_sto (p := (blk b7).add 6) (v := (.i S18)) H rfl rfl rfl rfl one_30 rfl h29 h30 ?_
 clear H
 intro H
 generalize hww28 : World.setCell w25 ((blk b7).add 6) (.i S18) = w28 at h ⊢
 have w28S : SetAt w25 ((blk b7).add 6) (.i S18) w28 := ⟨hww28.symm⟩
 clear hww28 h29 h30
 refine s_fld H rfl rfl fld_49_4 (lt_ rfl) fun a H => ?_
 obtain ⟨h32, h33, h⟩ := h
 refine s_sto (p := (blk b7).add 7) (v := (.pointer S19)) H rfl rfl rfl rfl one_29 rfl h32 h33 ?_
 clear H
 intro H
 generalize hww31 : World.setCell w28 ((blk b7).add 7) (.pointer S19) = w31 at h ⊢
 have w31S : SetAt w28 ((blk b7).add 7) (.pointer S19) w31 := ⟨hww31.symm⟩
 clear hww31 h32 h33
 refine s_fld H rfl rfl fld_49_5 (lt_ rfl) fun a H => ?_
 obtain ⟨h35, h36, h⟩ := h
 refine s_sto (p := (blk b7).add 8) (v := (.i S20)) H rfl rfl rfl rfl one_30 rfl h35 h36 ?_
 clear H
 intro H
 generalize hww34 : World.setCell w31 ((blk b7).add 8) (.i S20) = w34 at h ⊢
 have w34S : SetAt w31 ((blk b7).add 8) (.i S20) w34 := ⟨hww34.symm⟩
 clear hww34 h35 h36
 refine c_nil <| hK10 _ _ <| c_seq fun K37 hK37 => c_reg ?_
 obtain ⟨N38, hc39, K40, hc41, D42, hc43, S44, hc45, u46, hc47, e48, hc49, w50, hc51, w52, hc53, e54, hc55, h⟩ := h
 refine s_loadN (l := [(.i N38), (.i K40), (.i D42), (.i S44), u46.v, e48.v, (.i w50), (.pointer w52), (.i e54)]) H rfl rfl agg_49 rfl ⟨hc39, hc41, hc43, hc45, hc47, hc49, hc51, hc53, hc55, trivial⟩ (lt_ rfl) fun a H => s_stoN (l := [(.i N38), (.i K40), (.i D42), (.i S44), u46.v, e48.v, (.i w50), (.pointer w52), (.i e54)]) H rfl rfl rfl rfl agg_49 rfl rfl h ?_
 clear h H
 intro w56 h H
 refine c_nil <| hK37 _ _ <| c_ret ?_
 obtain ⟨N57, hc58, K59, hc60, D61, hc62, S63, hc64, u65, hc66, e67, hc68, w69, hc70, w71, hc72, e73, hc74, h⟩ := h
 exact e_ret1 H rfl ⟨_, rfl, run_loadN (l := [(.i N57), (.i K59), (.i D61), (.i S63), u65.v, e67.v, (.i w69), (.pointer w71), (.i e73)]) agg_49 rfl ⟨hc58, hc60, hc62, hc64, hc66, hc68, hc70, hc72, hc74, trivial⟩⟩ h

theorem sim_sherdlaw11_right (N1 K2 D3 S4 : Int) (u5 e6 : Slc) (w7 : Int) (w8 : Option Addr) (e9 : Int) (d10 : Slc) (w : World) (Q : Ending → World → Prop) (h : vc_sherdlaw11_right N1 K2 D3 S4 u5 e6 w7 w8 e9 d10 w Q) : Calls PP F_sherdlaw11_right #[(.agg #[(.i N1), (.i K2), (.i D3), (.i S4), u5.v, e6.v, (.i w7), (.pointer w8), (.i e9)]), d10.v] w Q := by
 unfold vc_sherdlaw11_right at h
 refine enter (n := 56) Tryz.func12 rfl rfl (Nat.le_of_ble_eq_true rfl) fun a H => c_seq fun K11 hK11 => c_reg ?_
 replace h := h.get
 obtain ⟨b12, w13, n14, h⟩ := h
 refine s_box H rfl rfl (lt_ rfl) ?_
 rw [← n14.at_]
 clear H a
 intro a H
 refine n14.go <| s_assign H rfl rfl (lt_ rfl) fun a H => c_nil <| hK11 _ _ <| c_seq fun K15 hK15 => c_reg <| s_move H rfl rfl (lt_ rfl) fun a H => s_call H rfl body_10 (H.args (vs := [d10.v]) rfl) (lt_ rfl) h ?_ (fun c w' h H => e_panic (P := PP) (fn := Tryz.f12) H h)
 clear H h a
 rintro _ w16 a ⟨N17, K18, D19, S20, S21, S22, S23, S24, S25, rfl, h⟩ H
 refine s_move H rfl rfl (lt_ rfl) fun a H => ?_
 iterate 6 refine s_ext H rfl rfl rfl (lt_ rfl) fun a H => ?_
 replace h := h.get
 obtain ⟨b26, w27, n28, h⟩ := h
 refine s_alloc H rfl zero_36 (lt_ rfl) ?_
 rw [← n28.at_]
 clear H a
 intro a H
 refine n28.go <| s_stoN (l := [(.i N17), (.i K18), (.i D19), (.i S20)]) H rfl rfl rfl rfl agg_36 rfl rfl h ?_
 clear h H
 intro w29 h H
 iterate 5 refine s_assign H rfl rfl (lt_ rfl) fun a H => ?_
 refine c_nil <| hK15 _ _ <| c_seq fun K30 hK30 => c_reg <| s_fld H rfl rfl fld_49_5 (lt_ rfl) fun a H => ?_
 obtain ⟨l31, hc32, h⟩ := h
 refine s_load (v := (.i l31)) H rfl rfl one_30 hc32 (lt_ rfl) fun a H => s_move H rfl rfl (lt_ rfl) fun a H => s_bin H rfl rfl rfl r_eql (lt_ rfl) fun a H => s_move H rfl rfl (lt_ rfl) fun a H => ?_
 obtain ⟨x51, h52, h53, h⟩ := h
 refine g_join (n := 56) [(29, (.bool x51)), (2, (.pointer (some (blk b12)))), (6, S21.v), (7, S22.v), (8, (.i S23)), (9, (.pointer S24))] (.succ (.succ (.succ (.succ (.succ (.zero _)))))) ?_ ?_
 ·intro h34
  try clear h
  rcases Bool.eq_false_or_eq_true (decide (l31 = S25)) with h33 | h33
  ·replace H := H.ch (t := 24) (b := true) rfl h33
   replace h := h52 h33
   refine s_fld H (wantG H rfl rfl) rfl fld_49_0 (lt_ rfl) fun a H => ?_
   obtain ⟨N35, hc36, K37, hc38, D39, hc40, S41, hc42, h⟩ := h
   refine s_loadN (l := [(.i N35), (.i K37), (.i D39), (.i S41)]) H (wantG H rfl rfl) rfl agg_36 rfl ⟨hc36, hc38, hc40, hc42, trivial⟩ (lt_ rfl) fun a H => ?_
   obtain ⟨N43, hc44, K45, hc46, D47, hc48, S49, hc50, h⟩ := h
   refine s_loadN (l := [(.i N43), (.i K45), (.i D47), (.i S49)]) H (wantG H rfl rfl) rfl agg_36 rfl ⟨hc44, hc46, hc48, hc50, trivial⟩ (lt_ rfl) fun a H => s_bin H (wantG H rfl rfl) rfl rfl (r_eqst eqg_36 (eqst_36 0) rfl) (lt_ rfl) fun a H => s_pickT H rfl rfl rfl (lt_ rfl) fun a H => ?_
   subst h
   exact h34 _ (H.weaken ⟨rfl, rfl, rfl, rfl, rfl, rfl, trivial⟩)
  ·replace H := H.ch (t := 24) (b := false) rfl h33
   iterate 4 refine s_skip H (wantN H rfl rfl rfl) rfl (lt_ rfl) fun a H => ?_
   refine s_pickF H rfl rfl rfl (lt_ rfl) fun a H => ?_
   replace h := h53 h33
   subst h
   exact h34 _ (H.weaken ⟨rfl, rfl, rfl, rfl, rfl, rfl, trivial⟩)
 ·clear H a
  clear h52 h53
  intro a H
  refine s_move H rfl rfl (lt_ rfl) fun a H => ?_
  obtain ⟨x58, h59, h60, h⟩ := h
  refine g_join (n := 56) [(35, (.bool x58)), (2, (.pointer (some (blk b12)))), (6, S21.v), (7, S22.v), (9, (.pointer S24))] (.succ (.succ (.succ (.succ (.succ (.zero _)))))) ?_ ?_
  ·intro h55
   try clear h
   rcases Bool.eq_false_or_eq_true x51 with h54 | h54
   ·replace H := H.ch (t := 30) (b := true) rfl h54
    replace h := h59 h54
    refine s_fld H (wantG H rfl rfl) rfl fld_49_3 (lt_ rfl) fun a H => ?_
    obtain ⟨l56, hc57, h⟩ := h
    refine s_load (v := (.i l56)) H (wantG H rfl rfl) rfl one_30 hc57 (lt_ rfl) fun a H => s_move H (wantG H rfl rfl) rfl (lt_ rfl) fun a H => s_bin H (wantG H rfl rfl) rfl rfl r_eql (lt_ rfl) fun a H => s_pickT H rfl rfl rfl (lt_ rfl) fun a H => ?_
    subst h
    exact h55 _ (H.weaken ⟨rfl, rfl, rfl, rfl, rfl, trivial⟩)
   ·replace H := H.ch (t := 30) (b := false) rfl h54
    iterate 4 refine s_skip H (wantN H rfl rfl rfl) rfl (lt_ rfl) fun a H => ?_
    refine s_pickF H rfl rfl rfl (lt_ rfl) fun a H => ?_
    replace h := h60 h54
    subst h
    exact h55 _ (H.weaken ⟨rfl, rfl, rfl, rfl, rfl, trivial⟩)
  ·clear H a
   clear h59 h60
   intro a H
   refine s_move H rfl rfl (lt_ rfl) fun a H => ?_
   obtain ⟨R63, h, h95⟩ := h
   refine g_joinW (n := 56) R63 (fun x64 => [(41, (.bool x64)), (2, (.pointer (some (blk b12)))), (7, S22.v), (9, (.pointer S24))]) (.succ (.succ (.succ (.succ (.succ (.zero _)))))) ?_ ?_
   ·intro h62
    clear h95
    rcases Bool.eq_false_or_eq_true x58 with h61 | h61
    ·replace H := H.ch (t := 36) (b := true) rfl h61
     replace h := h.1 h61
     refine s_fld H (wantG H rfl rfl) rfl fld_49_1 (lt_ rfl) fun a H => ?_
     obtain ⟨l66, hc67, h⟩ := h
     refine s_load (v := l66.v) H (wantG H rfl rfl) rfl one_43 hc67 (lt_ rfl) fun a H => s_move H (wantG H rfl rfl) rfl (lt_ rfl) fun a H => s_call H (wantG H rfl rfl) body_31 (H.args (vs := [l66.v, S21.v]) rfl) (lt_ rfl) h ?_ (fun c w' h H => e_panic (P := PP) (fn := Tryz.f12) H h)
     clear H h a
     rintro _ w68 a ⟨u69, rfl, h⟩ H
     refine s_pickT H rfl rfl rfl (lt_ rfl) fun a H => ?_
     exact h62 _ _ _ h (H.weaken ⟨rfl, rfl, rfl, rfl, trivial⟩)
    ·replace H := H.ch (t := 36) (b := false) rfl h61
     replace h := h.2 h61
     iterate 4 refine s_skip H (wantN H rfl rfl rfl) rfl (lt_ rfl) fun a H => ?_
     refine s_pickF H rfl rfl rfl (lt_ rfl) fun a H => ?_
     exact h62 _ _ _ h (H.weaken ⟨rfl, rfl, rfl, rfl, trivial⟩)
   ·clear H a h
    intro a x64 w65 h H
    replace h := h95 x64 w65 h
    clear h95
    refine s_move H rfl rfl (lt_ rfl) fun a H => ?_
    obtain ⟨R76, h, h94⟩ := h
    refine g_joinW (n := 56) R76 (fun x77 => [(47, (.bool x77)), (2, (.pointer (some (blk b12)))), (9, (.pointer S24))]) (.succ (.succ (.succ (.succ (.succ (.zero _)))))) ?_ ?_
    ·intro h75
     clear h94
     rcases Bool.eq_false_or_eq_true x64 with h74 | h74
     ·replace H := H.ch (t := 42) (b := true) rfl h74
      replace h := h.1 h74
      refine s_fld H (wantG H rfl rfl) rfl fld_49_2 (lt_ rfl) fun a H => ?_
      obtain ⟨l79, hc80, h⟩ := h
      refine s_load (v := l79.v) H (wantG H rfl rfl) rfl one_44 hc80 (lt_ rfl) fun a H => s_move H (wantG H rfl rfl) rfl (lt_ rfl) fun a H => s_call H (wantG H rfl rfl) body_32 (H.args (vs := [l79.v, S22.v]) rfl) (lt_ rfl) h ?_ (fun c w' h H => e_panic (P := PP) (fn := Tryz.f12) H h)
      clear H h a
      rintro _ w81 a ⟨i82, rfl, h⟩ H
      refine s_pickT H rfl rfl rfl (lt_ rfl) fun a H => ?_
      exact h75 _ _ _ h (H.weaken ⟨rfl, rfl, rfl, trivial⟩)
     ·replace H := H.ch (t := 42) (b := false) rfl h74
      replace h := h.2 h74
      iterate 4 refine s_skip H (wantN H rfl rfl rfl) rfl (lt_ rfl) fun a H => ?_
      refine s_pickF H rfl rfl rfl (lt_ rfl) fun a H => ?_
      exact h75 _ _ _ h (H.weaken ⟨rfl, rfl, rfl, trivial⟩)
    ·clear H a h
     intro a x77 w78 h H
     replace h := h94 x77 w78 h
     clear h94
     refine s_move H rfl rfl (lt_ rfl) fun a H => ?_
     obtain ⟨x91, h92, h93, h⟩ := h
     refine g_join (n := 56) [(55, (.bool x91))] (.succ (.succ (.succ (.succ (.succ (.succ (.succ (.zero _)))))))) ?_ ?_
     ·intro h88
      try clear h
      rcases Bool.eq_false_or_eq_true x77 with h87 | h87
      ·replace H := H.ch (t := 48) (b := true) rfl h87
       replace h := h92 h87
       refine s_fld H (wantG H rfl rfl) rfl fld_49_4 (lt_ rfl) fun a H => ?_
       obtain ⟨l89, hc90, h⟩ := h
       refine s_load (v := (.pointer l89)) H (wantG H rfl rfl) rfl one_29 hc90 (lt_ rfl) fun a H => s_bin H (wantG H rfl rfl) rfl rfl (r_eqP0 ptr_29) (lt_ rfl) fun a H => s_move H (wantG H rfl rfl) rfl (lt_ rfl) fun a H => s_bin H (wantG H rfl rfl) rfl rfl (r_eqP0 ptr_45) (lt_ rfl) fun a H => s_bin H (wantG H rfl rfl) rfl rfl (r_eqB bool_4) (lt_ rfl) fun a H => s_pickT H rfl rfl rfl (lt_ rfl) fun a H => ?_
       subst h
       exact h88 _ (H.weaken ⟨rfl, trivial⟩)
      ·replace H := H.ch (t := 48) (b := false) rfl h87
       iterate 6 refine s_skip H (wantN H rfl rfl rfl) rfl (lt_ rfl) fun a H => ?_
       refine s_pickF H rfl rfl rfl (lt_ rfl) fun a H => ?_
       replace h := h93 h87
       subst h
       exact h88 _ (H.weaken ⟨rfl, trivial⟩)
     ·clear H a
      clear h92 h93
      intro a H
      refine s_assign H rfl rfl (lt_ rfl) fun a H => c_nil <| hK30 _ _ <| c_ret ?_
      exact e_ret1 H rfl rfl h

theorem sim_sherdlaw11_same (a1 b2 : Slc) (w : World) (Q : Ending → World → Prop) (h : vc_sherdlaw11_same a1 b2 w Q) : Calls PP F_sherdlaw11_same #[a1.v, b2.v] w Q := by
 unfold vc_sherdlaw11_same at h
 refine enter (n := 10) Tryz.func13 rfl rfl (Nat.le_of_ble_eq_true rfl) fun a H => c_seq fun K3 hK3 => c_reg <| s_assign H rfl rfl (lt_ rfl) fun a H => c_nil <| hK3 _ _ <| c_seq fun K4 hK4 => c_reg <| s_move H rfl rfl (lt_ rfl) fun a H => ?_
 obtain ⟨s5, h6, h⟩ := h
 refine s_cv H rfl rfl h6 (lt_ rfl) ?_
 clear H a h6
 intro a H
 refine s_move H rfl rfl (lt_ rfl) fun a H => ?_
 obtain ⟨s7, h8, h⟩ := h
 refine s_cv H rfl rfl h8 (lt_ rfl) ?_
 clear H a h8
 intro a H
 refine s_bin H rfl rfl rfl r_eqlS (lt_ rfl) fun a H => s_assign H rfl rfl (lt_ rfl) fun a H => c_nil <| hK4 _ _ <| c_ret ?_
 exact e_ret1 H rfl rfl h
end Go.Proofs.YtnhgnfflihoaiaaGreatDoor
