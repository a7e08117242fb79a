/-
  The conditions give the machine's calls; printed by vcgen.py.
-/
import Derived.Test.YteoeboeaanjehaaDoorRecVc
namespace Go.Proofs.YteoeboeaanjehaaDoor
open Go Go.Vc
set_option maxRecDepth 100000
set_option maxHeartbeats 4000000
theorem sim_slices_Concat (s1 : Slc) (w : World) (Q : Ending → World → Prop) (h : vc_slices_Concat s1 w Q) : Calls PP F_slices_Concat #[s1.v] w Q := by
 unfold vc_slices_Concat at h
 refine enter (n := 36) Tryd.func36 rfl rfl (Nat.le_of_ble_eq_true rfl) fun a H => c_seq fun K2 hK2 => c_reg <| s_assign H rfl rfl (lt_ rfl) fun a H => c_nil <| hK2 _ _ <| c_seq fun K3 hK3 => c_reg <| s_assign H rfl rfl (lt_ rfl) fun a H => c_nil <| hK3 _ _ <| c_seq fun K4 hK4 => c_seq fun K5 hK5 => c_reg <| s_move H rfl rfl (lt_ rfl) fun a H => s_blt H rfl (H.args (vs := [s1.v]) rfl) (lt_ rfl) (fun cs => b_lenS (z := s1) sl_25) fun a H => s_move H rfl rfl (lt_ rfl) fun a H => c_nil ?_
 refine hK5 _ _ <| c_block ?_
 obtain ⟨I9, m10, h61, h62⟩ := h
 refine c_loop (σ := Int × Int) (fun z w => I9 z.1 z.2 w) (fun z w => m10 z.1 z.2 w) (fun z => [(0, s1.v), (3, (.i z.1)), (9, s1.v), (10, (.i (s1.l : Int))), (11, (.i z.2))]) (0, 0) h61 (H.weaken ⟨rfl, rfl, rfl, rfl, rfl, trivial⟩) ?_
 clear H h61
 rintro ⟨s6, s7⟩ a w8 h H
 replace h := h62 s6 s7 w8 h
 clear h62
 replace H : Has 36 [] a [(0, s1.v), (3, (.i s6)), (9, s1.v), (10, (.i (s1.l : Int))), (11, (.i s7))] := H
 refine c_seq fun K11 hK11 => c_reg <| s_bin H rfl rfl rfl r_lss (lt_ rfl) fun a H => c_nil <| hK11 _ _ <| c_seq fun K12 hK12 => c_cond H rfl (fun h13 => ?_) (fun h13 => ?_)
 ·replace h := h.1 h13
  refine c_skip <| hK12 _ _ <| c_seq fun K14 hK14 => ?_
  obtain ⟨R16, h, h29⟩ := h
  have h18 : ∀ (a : Act) (s15 : Int) (w17 : World), R16 s15 w17 → Has 36 [] a [(0, s1.v), (3, (.i s15)), (9, s1.v), (10, (.i (s1.l : Int))), (11, (.i s7))] → K14 a w17 := by
   clear h
   intro a s15 w17 h H
   replace h := h29 s15 w17 h
   refine hK14 _ _ <| c_reg <| s_bin H rfl rfl rfl r_add (lt_ rfl) fun a H => s_move H rfl rfl (lt_ rfl) fun a H => c_nil <| Exists.intro (s15, wr .i64 (s7 + 1)) ⟨h.1, h.2, H.weaken ⟨rfl, rfl, rfl, rfl, rfl, trivial⟩⟩
  clear h29
  refine c_block <| c_seq fun K19 hK19 => c_reg ?_
  obtain ⟨a20, h21, h22, h23, h⟩ := h
  refine s_idxS (s := s1) H rfl rfl rfl slc_25 h21 h22 h23 (lt_ rfl) fun a H => ?_
  obtain ⟨l24, hc25, h⟩ := h
  refine s_load (v := l24.v) H rfl rfl one_24 hc25 (lt_ rfl) fun a H => s_assign H rfl rfl (lt_ rfl) fun a H => c_nil <| hK19 _ _ <| c_seq fun K26 hK26 => c_reg <| s_move H rfl rfl (lt_ rfl) fun a H => s_move H rfl rfl (lt_ rfl) fun a H => s_blt H rfl (H.args (vs := [l24.v]) rfl) (lt_ rfl) (fun cs => b_lenS (z := l24) sl_24) fun a H => s_bin H rfl rfl rfl r_add (lt_ rfl) fun a H => s_assign H rfl rfl (lt_ rfl) fun a H => c_nil <| hK26 _ _ <| c_seq fun K27 hK27 => c_reg ?_
  refine s_move H rfl rfl (lt_ rfl) fun a H => s_bin H rfl rfl rfl r_lss (lt_ rfl) fun a H => c_nil <| hK27 _ _ <| c_cond H rfl (fun h28 => ?_) (fun h28 => ?_)
  ·replace h := h.1 h28
   refine c_reg <| s_iface H rfl rfl ni_9 (lt_ rfl) fun a H => ?_
   exact s_panic H rfl rfl (fun H => e_panic (P := PP) (fn := Tryd.f36) H h)
  ·replace h := h.2 h28
   refine c_skip ?_
   exact h18 _ _ _ h (H.weaken ⟨rfl, rfl, rfl, rfl, rfl, trivial⟩)
 ·replace h := h.2 h13
  refine c_exit ?_
  first | (simp only [Exit.then, Exit.inBlock, ↓reduceIte]; fail_if_success simp only [Nat.reduceEqDiff]) | simp only [Exit.then, Exit.inBlock, ↓reduceIte, Nat.reduceEqDiff]
  refine hK4 _ _ <| c_seq fun K30 hK30 => c_reg <| s_move H rfl rfl (lt_ rfl) fun a H => s_call H rfl body_55 (H.args (vs := [Slc.nil.v, (.i s6)]) rfl) (lt_ rfl) h ?_ (fun c w' h H => e_panic (P := PP) (fn := Tryd.f36) H h)
  clear H h a
  rintro _ w31 a ⟨G32, rfl, h⟩ H
  refine s_assign H rfl rfl (lt_ rfl) fun a H => c_nil <| hK30 _ _ <| c_seq fun K33 hK33 => c_seq fun K34 hK34 => c_reg <| s_move H rfl rfl (lt_ rfl) fun a H => s_blt H rfl (H.args (vs := [s1.v]) rfl) (lt_ rfl) (fun cs => b_lenS (z := s1) sl_25) fun a H => s_move H rfl rfl (lt_ rfl) fun a H => c_nil <| hK34 _ _ <| c_block ?_
  obtain ⟨I38, m39, h55, h56⟩ := h
  refine c_loop (σ := Slc × Int) (fun z w => I38 z.1 z.2 w) (fun z w => m39 z.1 z.2 w) (fun z => [(6, z.1.v), (25, s1.v), (26, (.i (s1.l : Int))), (27, (.i z.2))]) (G32, 0) h55 (H.weaken ⟨rfl, rfl, rfl, rfl, trivial⟩) ?_
  clear H h55
  rintro ⟨n35, s36⟩ a w37 h H
  replace h := h56 n35 s36 w37 h
  clear h56
  replace H : Has 36 [] a [(6, n35.v), (25, s1.v), (26, (.i (s1.l : Int))), (27, (.i s36))] := H
  refine c_seq fun K40 hK40 => c_reg <| s_bin H rfl rfl rfl r_lss (lt_ rfl) fun a H => c_nil <| hK40 _ _ <| c_seq fun K41 hK41 => c_cond H rfl (fun h42 => ?_) (fun h42 => ?_)
  ·replace h := h.1 h42
   refine c_skip <| hK41 _ _ <| c_seq fun K43 hK43 => c_block <| c_seq fun K44 hK44 => c_reg ?_
   obtain ⟨a45, h46, h47, h48, h⟩ := h
   refine s_idxS (s := s1) H rfl rfl rfl slc_25 h46 h47 h48 (lt_ rfl) fun a H => ?_
   obtain ⟨l49, hc50, h⟩ := h
   refine s_load (v := l49.v) H rfl rfl one_24 hc50 (lt_ rfl) fun a H => s_assign H rfl rfl (lt_ rfl) fun a H => c_nil <| hK44 _ _ <| c_reg <| s_move H rfl rfl (lt_ rfl) fun a H => s_move H rfl rfl (lt_ rfl) fun a H => ?_
   obtain ⟨s51, w52, h53, h⟩ := h
   refine s_blt H rfl (H.args (vs := [n35.v, l49.v]) rfl) (lt_ rfl) (fun cs => b_app (z := s51) h53) ?_
   clear H a h53
   intro a H
   refine s_assign H rfl rfl (lt_ rfl) fun a H => c_nil <| hK43 _ _ <| c_reg <| s_bin H rfl rfl rfl r_add (lt_ rfl) fun a H => s_move H rfl rfl (lt_ rfl) fun a H => c_nil <| Exists.intro (s51, wr .i64 (s36 + 1)) ⟨h.1, h.2, H.weaken ⟨rfl, rfl, rfl, rfl, trivial⟩⟩
  ·replace h := h.2 h42
   refine c_exit ?_
   first | (simp only [Exit.then, Exit.inBlock, ↓reduceIte]; fail_if_success simp only [Nat.reduceEqDiff]) | simp only [Exit.then, Exit.inBlock, ↓reduceIte, Nat.reduceEqDiff]
   refine hK33 _ _ <| c_seq fun K54 hK54 => c_reg <| s_move H rfl rfl (lt_ rfl) fun a H => s_assign H rfl rfl (lt_ rfl) fun a H => c_nil <| hK54 _ _ <| c_ret ?_
   exact e_ret1 H rfl rfl h

theorem sim_slices_ContainsFunc_byte_byte_37 (s1 : Slc) (f2 : Value) (w : World) (Q : Ending → World → Prop) (h : vc_slices_ContainsFunc_byte_byte_37 s1 f2 w Q) : Calls PP F_slices_ContainsFunc_byte_byte_37 #[s1.v, f2] w Q := by
 unfold vc_slices_ContainsFunc_byte_byte_37 at h
 refine enter (n := 9) Tryd.func37 rfl rfl (Nat.le_of_ble_eq_true rfl) fun a H => c_seq fun K3 hK3 => c_reg <| s_assign H rfl rfl (lt_ rfl) fun a H => c_nil <| hK3 _ _ <| c_seq fun K4 hK4 => c_reg <| s_move H rfl rfl (lt_ rfl) fun a H => s_move H rfl rfl (lt_ rfl) fun a H => s_call H rfl body_56 (H.args (vs := [s1.v, f2]) rfl) (lt_ rfl) h ?_ (fun c w' h H => e_panic (P := PP) (fn := Tryd.f37) H h)
 clear H h a
 rintro _ w5 a ⟨r6, rfl, h⟩ H
 refine s_bin H rfl rfl rfl r_geq (lt_ rfl) fun a H => s_assign H rfl rfl (lt_ rfl) fun a H => c_nil <| hK4 _ _ <| c_ret ?_
 exact e_ret1 H rfl rfl h

theorem sim_stripe_whole_c1 (b1 : Int) (w : World) (Q : Ending → World → Prop) (h : vc_stripe_whole_c1 b1 w Q) : Calls PP F_stripe_whole_c1 #[(.int .u8 b1)] w Q := by
 unfold vc_stripe_whole_c1 at h
 refine enter (n := 5) Tryd.func38 rfl rfl (Nat.le_of_ble_eq_true rfl) fun a H => c_seq fun K2 hK2 => c_reg <| s_assign H rfl rfl (lt_ rfl) fun a H => c_nil <| hK2 _ _ <| c_seq fun K3 hK3 => c_reg <| s_move H rfl rfl (lt_ rfl) fun a H => s_bin H rfl rfl rfl r_neq (lt_ rfl) fun a H => s_assign H rfl rfl (lt_ rfl) fun a H => c_nil <| hK3 _ _ <| c_ret ?_
 exact e_ret1 H rfl rfl h

theorem sim_slices_Clone (s1 : Slc) (w : World) (Q : Ending → World → Prop) (h : vc_slices_Clone s1 w Q) : Calls PP F_slices_Clone #[s1.v] w Q := by
 unfold vc_slices_Clone at h
 refine enter (n := 8) Tryd.func39 rfl rfl (Nat.le_of_ble_eq_true rfl) fun a H => c_seq fun K2 hK2 => c_reg <| s_assign H rfl rfl (lt_ rfl) fun a H => c_nil <| hK2 _ _ <| c_seq fun K3 hK3 => c_seq fun K4 hK4 => c_reg <| s_move H rfl rfl (lt_ rfl) fun a H => s_bin H rfl rfl rfl (r_eqS0 (z := s1) sl_24) (lt_ rfl) fun a H => c_nil <| hK4 _ _ <| c_cond H rfl (fun h5 => ?_) (fun h5 => ?_)
 ·replace h := h.1 h5
  refine c_seq fun K6 hK6 => c_reg <| s_assign H rfl rfl (lt_ rfl) fun a H => c_nil <| hK6 _ _ <| c_ret ?_
  exact e_ret1 H rfl rfl h
 ·replace h := h.2 h5
  refine c_skip <| hK3 _ _ <| c_seq fun K7 hK7 => c_reg ?_
  replace h := h.get
  obtain ⟨b8, w9, n10, h⟩ := h
  refine s_bslc H rfl (by rw [H.parts (vs := []) rfl]; exact bs_24_0 w) (lt_ rfl) ?_
  rw [← n10.at_]
  clear H a
  intro a H
  refine n10.go <| s_move H rfl rfl (lt_ rfl) fun a H => ?_
  obtain ⟨s11, w12, h13, h⟩ := h
  refine s_blt H rfl (H.args (vs := [(Slc.v (Slc.mk (some (blk b8)) 0 0)), s1.v]) rfl) (lt_ rfl) (fun cs => b_app (z := s11) h13) ?_
  clear H a h13
  intro a H
  refine s_assign H rfl rfl (lt_ rfl) fun a H => c_nil <| hK7 _ _ <| c_ret ?_
  exact e_ret1 H rfl rfl h

theorem sim_gf_New (p1 : Int) (w : World) (Q : Ending → World → Prop) (h : vc_gf_New p1 w Q) : Calls PP F_gf_New #[(.i p1)] w Q := by
 unfold vc_gf_New at h
 refine enter (n := 61) Tryd.func40 rfl rfl (Nat.le_of_ble_eq_true rfl) fun a H => c_seq fun K2 hK2 => c_reg <| s_assign H rfl rfl (lt_ rfl) fun a H => s_assign H rfl rfl (lt_ rfl) fun a H => c_nil <| hK2 _ _ <| c_seq fun K3 hK3 => c_seq fun K4 hK4 => c_reg <| s_move H rfl rfl (lt_ rfl) fun a H => s_bin H rfl rfl rfl r_lss (lt_ rfl) fun a H => s_move H rfl rfl (lt_ rfl) fun a H => ?_
 refine g_join (n := 61) [(12, (.bool ((decide (p1 < 256)) || (decide (511 < p1))))), (0, (.i p1))] (.succ (.succ (.succ (.zero _)))) ?_ ?_
 ·intro h6
  try clear h
  rcases Bool.eq_false_or_eq_true (decide (p1 < 256)) with h5 | h5
  ·replace H := H.ch (t := 9) (b := true) rfl h5
   refine s_skip H (wantN H rfl rfl rfl) rfl (lt_ rfl) fun a H => s_skip H (wantN H rfl rfl rfl) rfl (lt_ rfl) fun a H => s_pickT H rfl rfl rfl (lt_ rfl) fun a H => ?_
   exact h6 _ (H.weaken ⟨by rw [h5]; rfl, rfl, trivial⟩)
  ·replace H := H.ch (t := 9) (b := false) rfl h5
   refine s_move H (wantG H rfl rfl) rfl (lt_ rfl) fun a H => s_bin H (wantG H rfl rfl) rfl rfl r_gtr (lt_ rfl) fun a H => s_pickF H rfl rfl rfl (lt_ rfl) fun a H => ?_
   exact h6 _ (H.weaken ⟨by rw [h5]; rfl, rfl, trivial⟩)
 ·clear H a
  intro a H
  refine c_nil <| hK4 _ _ <| c_cond H rfl (fun h7 => ?_) (fun h7 => ?_)
  ·replace h := h.1 h7
   refine c_seq fun K8 hK8 => c_reg <| s_assign H rfl rfl (lt_ rfl) fun a H => s_assign H rfl rfl (lt_ rfl) fun a H => c_nil <| hK8 _ _ <| c_ret ?_
   exact e_ret2 H rfl rfl rfl h
  ·replace h := h.2 h7
   refine c_skip <| hK3 _ _ <| c_seq fun K9 hK9 => c_reg <| s_move H rfl rfl (lt_ rfl) fun a H => s_build H rfl (by rw [H.parts (vs := [(0, (.i p1))]) rfl]; exact bd_132_ii640 w p1) (lt_ rfl) fun a H => ?_
   replace h := h.get
   obtain ⟨b10, w11, n12, h⟩ := h
   refine s_box H rfl rfl (lt_ rfl) ?_
   rw [← n12.at_]
   clear H a
   intro a H
   refine n12.go <| s_assign H rfl rfl (lt_ rfl) fun a H => c_nil <| hK9 _ _ <| c_seq fun K13 hK13 => c_reg <| s_assign H rfl rfl (lt_ rfl) fun a H => c_nil <| hK13 _ _ <| c_seq fun K14 hK14 => c_seq fun K15 hK15 => c_reg <| s_move H rfl rfl (lt_ rfl) fun a H => c_nil <| hK15 _ _ <| c_block ?_
   obtain ⟨I19, m20, h65, h66⟩ := h
   refine c_loop (σ := Int × Int) (fun z w => I19 z.1 z.2 w) (fun z w => m20 z.1 z.2 w) (fun z => [(0, (.i p1)), (4, (.pointer (some (blk b10)))), (5, (.i z.1)), (16, (.i z.2))]) (1, 0) h65 (H.weaken ⟨rfl, rfl, rfl, rfl, trivial⟩) ?_
   clear H h65
   rintro ⟨x16, s17⟩ a w18 h H
   replace h := h66 x16 s17 w18 h
   clear h66
   replace H : Has 61 [] a [(0, (.i p1)), (4, (.pointer (some (blk b10)))), (5, (.i x16)), (16, (.i s17))] := H
   refine c_seq fun K21 hK21 => c_reg <| s_bin H rfl rfl rfl r_lss (lt_ rfl) fun a H => c_nil <| hK21 _ _ <| c_seq fun K22 hK22 => c_cond H rfl (fun h23 => ?_) (fun h23 => ?_)
   ·replace h := h.1 h23
    refine c_skip <| hK22 _ _ <| c_seq fun K24 hK24 => ?_
    obtain ⟨R26, h, h59⟩ := h
    have h28 : ∀ (a : Act) (x25 : Int) (w27 : World), R26 x25 w27 → Has 61 [] a [(0, (.i p1)), (4, (.pointer (some (blk b10)))), (5, (.i x25)), (16, (.i s17))] → K24 a w27 := by
     clear h
     intro a x25 w27 h H
     replace h := h59 x25 w27 h
     refine hK24 _ _ <| c_reg <| s_bin H rfl rfl rfl r_add (lt_ rfl) fun a H => s_move H rfl rfl (lt_ rfl) fun a H => c_nil <| Exists.intro (x25, wr .i64 (s17 + 1)) ⟨h.1, h.2, H.weaken ⟨rfl, rfl, rfl, rfl, trivial⟩⟩
    clear h59
    refine c_block <| c_seq fun K29 hK29 => c_reg <| s_move H rfl rfl (lt_ rfl) fun a H => s_assign H rfl rfl (lt_ rfl) fun a H => c_nil <| hK29 _ _ <| c_seq fun K30 hK30 => c_seq fun K31 hK31 => c_reg <| s_move H rfl rfl (lt_ rfl) fun a H => s_bin H rfl rfl rfl r_eql (lt_ rfl) fun a H => s_move H rfl rfl (lt_ rfl) fun a H => ?_
    refine g_join (n := 61) [(28, (.bool ((decide (x16 = 0)) || ((decide (0 < s17)) && (decide (x16 = 1)))))), (0, (.i p1)), (4, (.pointer (some (blk b10)))), (5, (.i x16)), (6, (.i s17)), (16, (.i s17))] (.succ (.succ (.succ (.succ (.succ (.succ (.succ (.zero _)))))))) ?_ ?_
    ·intro h33
     try clear h
     rcases Bool.eq_false_or_eq_true (decide (x16 = 0)) with h32 | h32
     ·replace H := H.ch (t := 21) (b := true) rfl h32
      iterate 3 refine s_skip H (wantN H rfl rfl rfl) rfl (lt_ rfl) fun a H => ?_
      refine s_skip H (wantU H rfl rfl) rfl (lt_ rfl) fun a H => s_skip H (wantU H rfl rfl) rfl (lt_ rfl) fun a H => s_skip H (wantN H rfl rfl rfl) rfl (lt_ rfl) fun a H => s_pickT H rfl rfl rfl (lt_ rfl) fun a H => ?_
      exact h33 _ (H.weaken ⟨by rw [h32]; rfl, rfl, rfl, rfl, rfl, rfl, trivial⟩)
     ·replace H := H.ch (t := 21) (b := false) rfl h32
      refine s_move H (wantG H rfl rfl) rfl (lt_ rfl) fun a H => s_bin H (wantG H rfl rfl) rfl rfl r_gtr (lt_ rfl) fun a H => s_move H (wantG H rfl rfl) rfl (lt_ rfl) fun a H => g_join (n := 61) [(27, (.bool ((decide (0 < s17)) && (decide (x16 = 1))))), (0, (.i p1)), (4, (.pointer (some (blk b10)))), (5, (.i x16)), (6, (.i s17)), (16, (.i s17)), (21, (.bool false))] (.succ (.succ (.succ (.zero _)))) ?_ ?_
      ·intro h35
       try clear h
       rcases Bool.eq_false_or_eq_true (decide (0 < s17)) with h34 | h34
       ·replace H := H.ch (t := 24) (b := true) rfl h34
        refine s_move H (wantG H rfl rfl) rfl (lt_ rfl) fun a H => s_bin H (wantG H rfl rfl) rfl rfl r_eql (lt_ rfl) fun a H => s_pickT H (wantG H rfl rfl) rfl rfl (lt_ rfl) fun a H => ?_
        exact h35 _ (H.weaken ⟨by rw [h34]; rfl, rfl, rfl, rfl, rfl, rfl, rfl, trivial⟩)
       ·replace H := H.ch (t := 24) (b := false) rfl h34
        refine s_skip H (wantN H rfl rfl rfl) rfl (lt_ rfl) fun a H => s_skip H (wantN H rfl rfl rfl) rfl (lt_ rfl) fun a H => s_pickF H (wantG H rfl rfl) rfl rfl (lt_ rfl) fun a H => ?_
        exact h35 _ (H.weaken ⟨by rw [h34]; rfl, rfl, rfl, rfl, rfl, rfl, rfl, trivial⟩)
      ·clear H a
       intro a H
       refine s_pickF H rfl rfl rfl (lt_ rfl) fun a H => ?_
       exact h33 _ (H.weaken ⟨by rw [h32]; rfl, rfl, rfl, rfl, rfl, rfl, trivial⟩)
    ·clear H a
     intro a H
     refine c_nil <| hK31 _ _ <| c_cond H rfl (fun h36 => ?_) (fun h36 => ?_)
     ·replace h := h.1 h36
      refine c_seq fun K37 hK37 => c_reg <| s_assign H rfl rfl (lt_ rfl) fun a H => s_assign H rfl rfl (lt_ rfl) fun a H => c_nil <| hK37 _ _ <| c_ret ?_
      exact e_ret2 H rfl rfl rfl h
     ·replace h := h.2 h36
      refine c_skip <| hK30 _ _ <| c_seq fun K38 hK38 => c_reg ?_
      iterate 3 refine s_move H rfl rfl (lt_ rfl) fun a H => ?_
      refine s_cv H rfl rfl (r_cvI some_3 int_5) (lt_ rfl) fun a H => s_nil H rfl rfl (lt_ rfl) fun a H => s_fld H rfl rfl fld_132_1 (lt_ rfl) fun a H => ?_
      obtain ⟨h39, h40, h⟩ := h
      refine s_idxA H rfl rfl rfl arr_129 h39 h40 (lt_ rfl) fun a H => ?_
      obtain ⟨h42, h43, h⟩ := h
      refine s_sto (p := ((blk b10).add 1).add (Int.toNat (s17) * 1)) (v := (.int .u8 (wr .u8 x16))) H rfl rfl rfl rfl one_5 rfl h42 h43 ?_
      clear H
      intro H
      generalize hww41 : World.setCell w18 (((blk b10).add 1).add (Int.toNat (s17) * 1)) (.int .u8 (wr .u8 x16)) = w41 at h ⊢
      have w41S : SetAt w18 (((blk b10).add 1).add (Int.toNat (s17) * 1)) (.int .u8 (wr .u8 x16)) w41 := ⟨hww41.symm⟩
      clear hww41 h42 h43
      refine c_nil <| hK38 _ _ <| c_seq fun K44 hK44 => c_reg <| s_move H rfl rfl (lt_ rfl) fun a H => s_move H rfl rfl (lt_ rfl) fun a H => s_bin H rfl rfl rfl r_add (lt_ rfl) fun a H => s_move H rfl rfl (lt_ rfl) fun a H => s_cv H rfl rfl (r_cvI some_3 int_5) (lt_ rfl) fun a H => s_nil H rfl rfl (lt_ rfl) fun a H => s_fld H rfl rfl fld_132_1 (lt_ rfl) fun a H => ?_
      obtain ⟨h45, h46, h⟩ := h
      refine s_idxA H rfl rfl rfl arr_129 h45 h46 (lt_ rfl) fun a H => ?_
      obtain ⟨h48, h49, h⟩ := h
      refine s_sto (p := ((blk b10).add 1).add (Int.toNat (wr .i64 (s17 + 255)) * 1)) (v := (.int .u8 (wr .u8 x16))) H rfl rfl rfl rfl one_5 rfl h48 h49 ?_
      clear H
      intro H
      generalize hww47 : World.setCell w41 (((blk b10).add 1).add (Int.toNat (wr .i64 (s17 + 255)) * 1)) (.int .u8 (wr .u8 x16)) = w47 at h ⊢
      have w47S : SetAt w41 (((blk b10).add 1).add (Int.toNat (wr .i64 (s17 + 255)) * 1)) (.int .u8 (wr .u8 x16)) w47 := ⟨hww47.symm⟩
      clear hww47 h48 h49
      refine c_nil <| hK44 _ _ <| c_seq fun K50 hK50 => c_reg ?_
      iterate 3 refine s_move H rfl rfl (lt_ rfl) fun a H => ?_
      refine s_nil H rfl rfl (lt_ rfl) fun a H => s_fld H rfl rfl fld_132_2 (lt_ rfl) fun a H => ?_
      obtain ⟨h51, h52, h⟩ := h
      refine s_idxA H rfl rfl rfl arr_130 h51 h52 (lt_ rfl) fun a H => ?_
      obtain ⟨h54, h55, h⟩ := h
      refine s_sto (p := ((blk b10).add 511).add (Int.toNat (x16) * 1)) (v := (.i s17)) H rfl rfl rfl rfl one_3 rfl h54 h55 ?_
      clear H
      intro H
      generalize hww53 : World.setCell w47 (((blk b10).add 511).add (Int.toNat (x16) * 1)) (.i s17) = w53 at h ⊢
      have w53S : SetAt w47 (((blk b10).add 511).add (Int.toNat (x16) * 1)) (.i s17) w53 := ⟨hww53.symm⟩
      clear hww53 h54 h55
      refine c_nil <| hK50 _ _ <| c_seq fun K56 hK56 => c_reg <| s_move H rfl rfl (lt_ rfl) fun a H => s_bin H rfl rfl rfl (r_shl (by decide)) (lt_ rfl) fun a H => s_assign H rfl rfl (lt_ rfl) fun a H => c_nil <| hK56 _ _ <| c_seq fun K57 hK57 => c_reg <| s_move H rfl rfl (lt_ rfl) fun a H => s_bin H rfl rfl rfl r_gtr (lt_ rfl) fun a H => c_nil <| hK57 _ _ <| c_cond H rfl (fun h58 => ?_) (fun h58 => ?_)
      ·replace h := h.1 h58
       refine c_reg <| s_move H rfl rfl (lt_ rfl) fun a H => s_move H rfl rfl (lt_ rfl) fun a H => s_bin H rfl rfl rfl r_xor (lt_ rfl) fun a H => s_assign H rfl rfl (lt_ rfl) fun a H => c_nil ?_
       exact h28 _ _ _ h (H.weaken ⟨rfl, rfl, rfl, rfl, trivial⟩)
      ·replace h := h.2 h58
       refine c_skip ?_
       exact h28 _ _ _ h (H.weaken ⟨rfl, rfl, rfl, rfl, trivial⟩)
   ·replace h := h.2 h23
    refine c_exit ?_
    first | (simp only [Exit.then, Exit.inBlock, ↓reduceIte]; fail_if_success simp only [Nat.reduceEqDiff]) | simp only [Exit.then, Exit.inBlock, ↓reduceIte, Nat.reduceEqDiff]
    refine hK14 _ _ <| c_seq fun K60 hK60 => c_seq fun K61 hK61 => c_reg <| s_move H rfl rfl (lt_ rfl) fun a H => s_bin H rfl rfl rfl r_neq (lt_ rfl) fun a H => c_nil <| hK61 _ _ <| c_cond H rfl (fun h62 => ?_) (fun h62 => ?_)
    ·replace h := h.1 h62
     refine c_seq fun K63 hK63 => c_reg <| s_assign H rfl rfl (lt_ rfl) fun a H => s_assign H rfl rfl (lt_ rfl) fun a H => c_nil <| hK63 _ _ <| c_ret ?_
     exact e_ret2 H rfl rfl rfl h
    ·replace h := h.2 h62
     refine c_skip <| hK60 _ _ <| c_seq fun K64 hK64 => c_reg <| s_move H rfl rfl (lt_ rfl) fun a H => s_assign H rfl rfl (lt_ rfl) fun a H => s_assign H rfl rfl (lt_ rfl) fun a H => c_nil <| hK64 _ _ <| c_ret ?_
     exact e_ret2 H rfl rfl rfl h

theorem sim_matrix_Vandermonde (f1 : Option Addr) (p2 : Slc) (c3 : Int) (w : World) (Q : Ending → World → Prop) (h : vc_matrix_Vandermonde f1 p2 c3 w Q) : Calls PP F_matrix_Vandermonde #[(.pointer f1), p2.v, (.i c3)] w Q := by
 unfold vc_matrix_Vandermonde at h
 refine enter (n := 71) Tryd.func41 rfl rfl (Nat.le_of_ble_eq_true rfl) fun a H => c_seq fun K4 hK4 => c_reg <| s_assign H rfl rfl (lt_ rfl) fun a H => s_assign H rfl rfl (lt_ rfl) fun a H => c_nil <| hK4 _ _ <| c_seq fun K5 hK5 => c_seq fun K6 hK6 => c_reg <| s_move H rfl rfl (lt_ rfl) fun a H => s_move H rfl rfl (lt_ rfl) fun a H => s_blt H rfl (H.args (vs := [p2.v]) rfl) (lt_ rfl) (fun cs => b_lenS (z := p2) sl_24) fun a H => s_move H rfl rfl (lt_ rfl) fun a H => ?_
 refine s_call H rfl body_57 (H.args (vs := [(.pointer f1), (.i (p2.l : Int)), (.i c3)]) rfl) (lt_ rfl) h ?_ (fun c w' h H => e_panic (P := PP) (fn := Tryd.f41) H h)
 clear H h a
 rintro _ w7 a ⟨s8, rfl, h⟩ H
 refine s_assign H rfl rfl (lt_ rfl) fun a H => c_nil <| hK6 _ _ <| c_seq fun K9 hK9 => c_reg <| s_move H rfl rfl (lt_ rfl) fun a H => s_bin H rfl rfl rfl r_neq (lt_ rfl) fun a H => c_nil <| hK9 _ _ <| c_cond H rfl (fun h10 => ?_) (fun h10 => ?_)
 ·replace h := h.1 h10
  refine c_seq fun K11 hK11 => c_reg <| s_move H rfl rfl (lt_ rfl) fun a H => s_assign H rfl rfl (lt_ rfl) fun a H => s_assign H rfl rfl (lt_ rfl) fun a H => c_nil <| hK11 _ _ <| c_ret ?_
  exact e_ret2 H rfl rfl rfl h
 ·replace h := h.2 h10
  refine c_skip <| hK5 _ _ <| c_seq fun K12 hK12 => c_reg <| s_move H rfl rfl (lt_ rfl) fun a H => s_move H rfl rfl (lt_ rfl) fun a H => s_blt H rfl (H.args (vs := [p2.v]) rfl) (lt_ rfl) (fun cs => b_lenS (z := p2) sl_24) fun a H => s_move H rfl rfl (lt_ rfl) fun a H => s_call H rfl body_49 (H.args (vs := [(.pointer f1), (.i (p2.l : Int)), (.i c3)]) rfl) (lt_ rfl) h ?_ (fun c w' h H => e_panic (P := PP) (fn := Tryd.f41) H h)
  clear H h a
  rintro _ w13 a ⟨b14, rfl, h⟩ H
  refine s_assign H rfl rfl (lt_ rfl) fun a H => c_nil <| hK12 _ _ <| c_seq fun K15 hK15 => c_seq fun K16 hK16 => c_reg <| s_move H rfl rfl (lt_ rfl) fun a H => s_blt H rfl (H.args (vs := [p2.v]) rfl) (lt_ rfl) (fun cs => b_lenS (z := p2) sl_24) fun a H => s_move H rfl rfl (lt_ rfl) fun a H => c_nil <| hK16 _ _ <| c_block ?_
  obtain ⟨I19, m20, h103, h104⟩ := h
  refine c_loop (σ := Int) (fun z w => I19 z w) (fun z w => m20 z w) (fun z => [(0, (.pointer f1)), (2, (.i c3)), (9, (.pointer b14)), (26, p2.v), (27, (.i (p2.l : Int))), (28, (.i z))]) 0 h103 (H.weaken ⟨rfl, rfl, rfl, rfl, rfl, rfl, trivial⟩) ?_
  clear H h103
  rintro s17 a w18 h H
  replace h := h104 s17 w18 h
  clear h104
  replace H : Has 71 [] a [(0, (.pointer f1)), (2, (.i c3)), (9, (.pointer b14)), (26, p2.v), (27, (.i (p2.l : Int))), (28, (.i s17))] := H
  refine c_seq fun K21 hK21 => c_reg <| s_bin H rfl rfl rfl r_lss (lt_ rfl) fun a H => c_nil <| hK21 _ _ <| c_seq fun K22 hK22 => c_cond H rfl (fun h23 => ?_) (fun h23 => ?_)
  ·replace h := h.1 h23
   refine c_skip <| hK22 _ _ <| c_seq fun K24 hK24 => ?_
   obtain ⟨R25, h, h101⟩ := h
   have h27 : ∀ (a : Act) (w26 : World), R25 w26 → Has 71 [] a [(0, (.pointer f1)), (2, (.i c3)), (9, (.pointer b14)), (26, p2.v), (27, (.i (p2.l : Int))), (28, (.i s17))] → K24 a w26 := by
    clear h
    intro a w26 h H
    replace h := h101 w26 h
    refine hK24 _ _ <| c_reg <| s_bin H rfl rfl rfl r_add (lt_ rfl) fun a H => s_move H rfl rfl (lt_ rfl) fun a H => c_nil <| Exists.intro (wr .i64 (s17 + 1)) ⟨h.1, h.2, H.weaken ⟨rfl, rfl, rfl, rfl, rfl, rfl, trivial⟩⟩
   clear h101
   refine c_block <| c_seq fun K28 hK28 => c_reg <| s_move H rfl rfl (lt_ rfl) fun a H => ?_
   obtain ⟨a29, h30, h31, h32, h⟩ := h
   refine s_idxS (s := p2) H rfl rfl rfl slc_24 h30 h31 h32 (lt_ rfl) fun a H => ?_
   obtain ⟨l33, hc34, h⟩ := h
   refine s_load (v := (.int .u8 l33)) H rfl rfl one_5 hc34 (lt_ rfl) fun a H => s_assign H rfl rfl (lt_ rfl) fun a H => s_assign H rfl rfl (lt_ rfl) fun a H => c_nil <| hK28 _ _ <| c_seq fun K35 hK35 => c_reg <| s_move H rfl rfl (lt_ rfl) fun a H => ?_
   obtain ⟨a36, h100, h⟩ := h
   revert H
   subst h100
   intro H
   refine s_nil H rfl rfl (lt_ rfl) fun a H => s_fld H rfl rfl fld_104_1 (lt_ rfl) fun a H => ?_
   obtain ⟨l37, hc38, h⟩ := h
   refine s_load (v := l37.v) H rfl rfl one_25 hc38 (lt_ rfl) fun a H => s_move H rfl rfl (lt_ rfl) fun a H => ?_
   obtain ⟨a39, h40, h41, h42, h⟩ := h
   refine s_idxS (s := l37) H rfl rfl rfl slc_25 h40 h41 h42 (lt_ rfl) fun a H => ?_
   obtain ⟨l43, hc44, h⟩ := h
   refine s_load (v := l43.v) H rfl rfl one_24 hc44 (lt_ rfl) fun a H => ?_
   obtain ⟨a45, h46, h47, h48, h⟩ := h
   refine s_idxS (s := l43) H rfl rfl rfl slc_24 h46 h47 h48 (lt_ rfl) fun a H => ?_
   obtain ⟨h50, h51, h⟩ := h
   refine s_sto (p := a45.add (Int.toNat (0) * 1)) (v := (.int .u8 1)) H rfl rfl rfl rfl one_5 rfl h50 h51 ?_
   clear H
   intro H
   generalize hww49 : World.setCell w18 (a45.add (Int.toNat (0) * 1)) (.int .u8 1) = w49 at h ⊢
   have w49S : SetAt w18 (a45.add (Int.toNat (0) * 1)) (.int .u8 1) w49 := ⟨hww49.symm⟩
   clear hww49 h50 h51
   refine c_nil <| hK35 _ _ <| c_seq fun K52 hK52 => c_reg <| s_assign H rfl rfl (lt_ rfl) fun a H => c_nil <| hK52 _ _ <| c_block ?_
   obtain ⟨I55, m56, h98, h99⟩ := h
   refine c_loop (σ := Int) (fun z w => I55 z w) (fun z w => m56 z w) (fun z => [(0, (.pointer f1)), (2, (.i c3)), (9, (.pointer (some a36))), (10, (.i s17)), (11, (.int .u8 l33)), (12, (.i z)), (26, p2.v), (27, (.i (p2.l : Int))), (28, (.i s17))]) 1 h98 (H.weaken ⟨rfl, rfl, rfl, rfl, rfl, rfl, rfl, rfl, rfl, trivial⟩) ?_
   clear H h98
   rintro j53 a w54 h H
   replace h := h99 j53 w54 h
   clear h99
   replace H : Has 71 [] a [(0, (.pointer f1)), (2, (.i c3)), (9, (.pointer (some a36))), (10, (.i s17)), (11, (.int .u8 l33)), (12, (.i j53)), (26, p2.v), (27, (.i (p2.l : Int))), (28, (.i s17))] := H
   refine c_seq fun K57 hK57 => c_seq fun K58 hK58 => c_reg <| s_move H rfl rfl (lt_ rfl) fun a H => s_move H rfl rfl (lt_ rfl) fun a H => s_bin H rfl rfl rfl r_lss (lt_ rfl) fun a H => c_nil <| hK58 _ _ <| c_cond H rfl (fun h59 => ?_) (fun h59 => ?_)
   ·replace h := h.1 h59
    refine c_skip <| hK57 _ _ <| c_seq fun K60 hK60 => c_block ?_
    replace H := H.weaken (L' := [(0, (.pointer f1)), (2, (.i c3)), (9, (.pointer (some a36))), (10, (.i s17)), (11, (.int .u8 l33)), (12, (.i j53)), (26, p2.v), (27, (.i (p2.l : Int))), (28, (.i s17))]) ⟨rfl, rfl, rfl, rfl, rfl, rfl, rfl, rfl, rfl, trivial⟩
    obtain ⟨l61, hc62, a63, h64, h65, h66, l67, hc68, l69, hc70, a71, h72, h73, h74, l75, hc76, a77, h78, h79, h80, l81, hc82, h⟩ := h
    refine c_any (V := [(0, (.pointer (some a36))), (1, (.pointer (some a36))), (2, (.pointer (some (a36.add 1)))), (3, l61.v), (4, (.i s17)), (5, (.pointer (some (a63.add (Int.toNat (s17) * 1))))), (6, l67.v), (7, (.i j53)), (8, (.pointer f1)), (9, (.pointer (some a36))), (10, (.pointer (some a36))), (11, (.pointer (some (a36.add 1)))), (12, l69.v), (13, (.i s17)), (14, (.pointer (some (a71.add (Int.toNat (s17) * 1))))), (15, l75.v), (16, (.i j53)), (17, (.i (wr .i64 (j53 - 1)))), (18, (.pointer (some (a77.add (Int.toNat (wr .i64 (j53 - 1)) * 1))))), (19, (.int .u8 l81)), (20, (.int .u8 l33))]) (⟨[[], [0], [1], [2], [], [3, 4], [5], [], [], [], [9], [10], [11], [], [12, 13], [14], [], [16], [15, 17], [18], [], [8, 19, 20], [0, 1, 2, 3, 4, 5, 6, 7, 8, 9, 10, 11, 12, 13, 14, 15, 16, 17, 18, 19, 20, 21], [0, 1, 2, 3, 4, 5, 6, 7, 8, 9, 10, 11, 12, 13, 14, 15, 16, 17, 18, 19, 20, 21, 22]], [some 46, some 47, some 48, some 49, some 50, some 51, some 52, some 53, some 54, some 55, some 56, some 57, some 58, some 59, some 60, some 61, some 62, some 63, some 64, some 65, some 66, some 67, some 68, none], [21, 23], [0, 0, 0, 0, 0, 0, 0, 0, 0, 0, 0, 0, 0, 0, 0, 0, 0, 0, 0, 0, 0, 0, 1, 1], [1, 1, 1, 1, 1, 1, 1, 1, 0, 0, 0, 0, 0, 0, 0, 0, 0, 0, 0, 0, 0, 1, 1, 2]⟩ : Rg) [(0, (.pointer f1)), (2, (.i c3)), (9, (.pointer (some a36))), (10, (.i s17)), (11, (.int .u8 l33)), (12, (.i j53)), (26, p2.v), (27, (.i (p2.l : Int))), (28, (.i s17))] mixed (by kernel_rfl) H ?_
    refine Stg.eff [0, 1, 2, 3, 4, 5, 6, 7, 8, 9, 10, 11, 12, 13, 14, 15, 16, 17, 18, 19, 20] (by kernel_rfl) rfl (.cons ?_ (.cons ?_ (.cons ?_ (.cons ?_ (.cons ?_ (.cons ?_ (.cons ?_ (.cons ?_ (.cons ?_ (.cons ?_ (.cons ?_ (.cons ?_ (.cons ?_ (.cons ?_ (.cons ?_ (.cons ?_ (.cons ?_ (.cons ?_ (.cons ?_ (.cons ?_ (.cons ?_ .nil))))))))))))))))))))) ?_
    ·refine Ans.mk rfl rfl fun a H => s_move H rfl rfl (lt_ rfl) fun a H => ?_
     exact Ans.fin H rfl
    ·refine Ans.mk rfl rfl fun a H => s_nil H rfl rfl (lt_ rfl) fun a H => ?_
     exact Ans.fin H rfl
    ·refine Ans.mk rfl rfl fun a H => s_fld H rfl rfl fld_104_1 (lt_ rfl) fun a H => ?_
     exact Ans.fin H rfl
    ·refine Ans.mk rfl rfl fun a H => s_load (v := l61.v) H rfl rfl one_25 hc62 (lt_ rfl) fun a H => ?_
     exact Ans.fin H rfl
    ·refine Ans.mk rfl rfl fun a H => s_move H rfl rfl (lt_ rfl) fun a H => ?_
     exact Ans.fin H rfl
    ·refine Ans.mk rfl rfl fun a H => s_idxS (s := l61) H rfl rfl rfl slc_25 h64 h65 h66 (lt_ rfl) fun a H => ?_
     exact Ans.fin H rfl
    ·refine Ans.mk rfl rfl fun a H => s_load (v := l67.v) H rfl rfl one_24 hc68 (lt_ rfl) fun a H => ?_
     exact Ans.fin H rfl
    ·refine Ans.mk rfl rfl fun a H => s_move H rfl rfl (lt_ rfl) fun a H => ?_
     exact Ans.fin H rfl
    ·refine Ans.mk rfl rfl fun a H => s_move H rfl rfl (lt_ rfl) fun a H => ?_
     exact Ans.fin H rfl
    ·refine Ans.mk rfl rfl fun a H => s_move H rfl rfl (lt_ rfl) fun a H => ?_
     exact Ans.fin H rfl
    ·refine Ans.mk rfl rfl fun a H => s_nil H rfl rfl (lt_ rfl) fun a H => ?_
     exact Ans.fin H rfl
    ·refine Ans.mk rfl rfl fun a H => s_fld H rfl rfl fld_104_1 (lt_ rfl) fun a H => ?_
     exact Ans.fin H rfl
    ·refine Ans.mk rfl rfl fun a H => s_load (v := l69.v) H rfl rfl one_25 hc70 (lt_ rfl) fun a H => ?_
     exact Ans.fin H rfl
    ·refine Ans.mk rfl rfl fun a H => s_move H rfl rfl (lt_ rfl) fun a H => ?_
     exact Ans.fin H rfl
    ·refine Ans.mk rfl rfl fun a H => s_idxS (s := l69) H rfl rfl rfl slc_25 h72 h73 h74 (lt_ rfl) fun a H => ?_
     exact Ans.fin H rfl
    ·refine Ans.mk rfl rfl fun a H => s_load (v := l75.v) H rfl rfl one_24 hc76 (lt_ rfl) fun a H => ?_
     exact Ans.fin H rfl
    ·refine Ans.mk rfl rfl fun a H => s_move H rfl rfl (lt_ rfl) fun a H => ?_
     exact Ans.fin H rfl
    ·refine Ans.mk rfl rfl fun a H => s_bin H rfl rfl rfl r_sub (lt_ rfl) fun a H => ?_
     exact Ans.fin H rfl
    ·refine Ans.mk rfl rfl fun a H => s_idxS (s := l75) H rfl rfl rfl slc_24 h78 h79 h80 (lt_ rfl) fun a H => ?_
     exact Ans.fin H rfl
    ·refine Ans.mk rfl rfl fun a H => s_load (v := (.int .u8 l81)) H rfl rfl one_5 hc82 (lt_ rfl) fun a H => ?_
     exact Ans.fin H rfl
    ·refine Ans.mk rfl rfl fun a H => s_move H rfl rfl (lt_ rfl) fun a H => ?_
     exact Ans.fin H rfl
    ·intro a H
     replace H := H.weaken (L' := [(54, (.pointer f1)), (65, (.int .u8 l81)), (66, (.int .u8 l33))]) ⟨rfl, rfl, rfl, trivial⟩
     refine s_call H rfl body_58 (H.args (vs := [(.pointer f1), (.int .u8 l81), (.int .u8 l33)]) rfl) (lt_ rfl) h ?_ (fun c w' h H => e_panic (P := PP) (fn := Tryd.f41) H h)
     clear H h a
     rintro _ w83 a ⟨M84, rfl, h⟩ H
     refine c_nil ?_
     obtain ⟨hc85, hc86, a87, h88, h89, h90, h⟩ := h
     refine effQ.go [(22, (.pointer (some (a87.add (Int.toNat (j53) * 1)))))] H rfl rfl <| Stg.eff [0, 1, 2, 3, 4, 5, 6, 7, 22] (by kernel_rfl) rfl (.cons ?_ (.cons ?_ (.cons ?_ (.cons ?_ (.cons ?_ (.cons ?_ (.cons ?_ (.cons ?_ (.cons ?_ .nil))))))))) ?_
     ·refine Ans.mk rfl rfl fun a H => s_move H rfl rfl (lt_ rfl) fun a H => ?_
      exact Ans.fin H rfl
     ·refine Ans.mk rfl rfl fun a H => s_nil H rfl rfl (lt_ rfl) fun a H => ?_
      exact Ans.fin H rfl
     ·refine Ans.mk rfl rfl fun a H => s_fld H rfl rfl fld_104_1 (lt_ rfl) fun a H => ?_
      exact Ans.fin H rfl
     ·refine Ans.mk rfl rfl fun a H => s_load (v := l61.v) H rfl rfl one_25 hc85 (lt_ rfl) fun a H => ?_
      exact Ans.fin H rfl
     ·refine Ans.mk rfl rfl fun a H => s_move H rfl rfl (lt_ rfl) fun a H => ?_
      exact Ans.fin H rfl
     ·refine Ans.mk rfl rfl fun a H => s_idxS (s := l61) H rfl rfl rfl slc_25 h64 h65 h66 (lt_ rfl) fun a H => ?_
      exact Ans.fin H rfl
     ·refine Ans.mk rfl rfl fun a H => s_load (v := l67.v) H rfl rfl one_24 hc86 (lt_ rfl) fun a H => ?_
      exact Ans.fin H rfl
     ·refine Ans.mk rfl rfl fun a H => s_move H rfl rfl (lt_ rfl) fun a H => ?_
      exact Ans.fin H rfl
     ·refine Ans.mk rfl rfl fun a H => s_idxS (s := l67) H rfl rfl rfl slc_24 h88 h89 h90 (lt_ rfl) fun a H => ?_
      exact Ans.fin H rfl
     ·intro a H
      replace H := H.weaken (L' := [(67, (.int .u8 M84)), (68, (.pointer (some (a87.add (Int.toNat (j53) * 1)))))]) ⟨rfl, rfl, trivial⟩
      obtain ⟨h92, h93, h⟩ := h
      refine s_sto (p := a87.add (Int.toNat (j53) * 1)) (v := (.int .u8 M84)) H rfl rfl rfl rfl one_5 rfl h92 h93 ?_
      clear H
      intro H
      generalize hww91 : World.setCell w83 (a87.add (Int.toNat (j53) * 1)) (.int .u8 M84) = w91 at h ⊢
      have w91S : SetAt w83 (a87.add (Int.toNat (j53) * 1)) (.int .u8 M84) w91 := ⟨hww91.symm⟩
      clear hww91 h92 h93
      refine c_nil <| effQ.go0 [] H rfl rfl <| Stg.fin [] (by kernel_rfl) .nil ?_
      ·intro a H
       replace H := H.weaken (L' := [(0, (.pointer f1)), (2, (.i c3)), (9, (.pointer (some a36))), (10, (.i s17)), (11, (.int .u8 l33)), (12, (.i j53)), (26, p2.v), (27, (.i (p2.l : Int))), (28, (.i s17))]) ⟨rfl, rfl, rfl, rfl, rfl, rfl, rfl, rfl, rfl, trivial⟩
       refine hK60 _ _ <| c_reg <| s_move H rfl rfl (lt_ rfl) fun a H => s_bin H rfl rfl rfl r_add (lt_ rfl) fun a H => s_assign H rfl rfl (lt_ rfl) fun a H => c_nil <| Exists.intro (wr .i64 (j53 + 1)) ⟨h.1, h.2, H.weaken ⟨rfl, rfl, rfl, rfl, rfl, rfl, rfl, rfl, rfl, trivial⟩⟩
   ·replace h := h.2 h59
    refine c_exit ?_
    first | (simp only [Exit.then, Exit.inBlock, ↓reduceIte]; fail_if_success simp only [Nat.reduceEqDiff]) | simp only [Exit.then, Exit.inBlock, ↓reduceIte, Nat.reduceEqDiff]
    exact h27 _ _ h (H.weaken ⟨rfl, rfl, rfl, rfl, rfl, rfl, trivial⟩)
  ·replace h := h.2 h23
   refine c_exit ?_
   first | (simp only [Exit.then, Exit.inBlock, ↓reduceIte]; fail_if_success simp only [Nat.reduceEqDiff]) | simp only [Exit.then, Exit.inBlock, ↓reduceIte, Nat.reduceEqDiff]
   refine hK15 _ _ <| c_seq fun K102 hK102 => c_reg <| s_move H rfl rfl (lt_ rfl) fun a H => s_assign H rfl rfl (lt_ rfl) fun a H => s_assign H rfl rfl (lt_ rfl) fun a H => c_nil <| hK102 _ _ <| c_ret ?_
   exact e_ret2 H rfl rfl rfl h

theorem sim_matrix_Matrix_Mul (m1 o2 : Option Addr) (w : World) (Q : Ending → World → Prop) (h : vc_matrix_Matrix_Mul m1 o2 w Q) : Calls PP F_matrix_Matrix_Mul #[(.pointer m1), (.pointer o2)] w Q := by
 unfold vc_matrix_Matrix_Mul at h
 refine enter (n := 98) Tryd.func42 rfl rfl (Nat.le_of_ble_eq_true rfl) fun a H => c_seq fun K3 hK3 => c_reg <| s_assign H rfl rfl (lt_ rfl) fun a H => s_assign H rfl rfl (lt_ rfl) fun a H => c_nil <| hK3 _ _ <| c_seq fun K4 hK4 => c_seq fun K5 hK5 => c_reg <| s_move H rfl rfl (lt_ rfl) fun a H => s_bin H rfl rfl rfl (r_eqP0 ptr_73) (lt_ rfl) fun a H => c_nil <| hK5 _ _ <| c_cond H rfl (fun h6 => ?_) (fun h6 => ?_)
 ·replace h := h.1 h6
  refine c_seq fun K7 hK7 => c_reg <| s_assign H rfl rfl (lt_ rfl) fun a H => s_assign H rfl rfl (lt_ rfl) fun a H => c_nil <| hK7 _ _ <| c_ret ?_
  exact e_ret2 H rfl rfl rfl h
 ·replace h := h.2 h6
  refine c_skip <| hK4 _ _ <| c_seq fun K8 hK8 => c_seq fun K9 hK9 => ?_
  obtain ⟨R11, h, h146⟩ := h
  have h123 : ∀ (a : Act) (s10 : Bool) (w12 : World), R11 s10 w12 → Has 98 [] a [(0, (.pointer m1)), (1, (.pointer o2)), (27, (.bool s10))] → K9 a w12 := by
   clear h
   intro a s10 w12 h H
   replace h := h146 s10 w12 h
   refine hK9 _ _ <| c_cond H rfl (fun h13 => ?_) (fun h13 => ?_)
   ·replace h := h.1 h13
    refine c_seq fun K14 hK14 => c_reg <| s_assign H rfl rfl (lt_ rfl) fun a H => s_assign H rfl rfl (lt_ rfl) fun a H => c_nil <| hK14 _ _ <| c_ret ?_
    exact e_ret2 H rfl rfl rfl h
   ·replace h := h.2 h13
    refine c_skip <| hK8 _ _ <| c_seq fun K15 hK15 => c_seq fun K16 hK16 => c_regD mixed (by kernel_rfl) <| z_move H rfl rfl (lt_ rfl) fun a H => ?_
    obtain ⟨a18, h122, h⟩ := h
    revert H
    subst h122
    intro H
    refine z_nil H rfl rfl (lt_ rfl) fun a H => z_fld H rfl rfl fld_104_1 (lt_ rfl) fun a H => ?_
    obtain ⟨l19, hc20, h⟩ := h
    refine z_load (v := l19.v) H rfl rfl one_25 hc20 (lt_ rfl) fun a H => ?_
    obtain ⟨a21, h22, h23, h24, h⟩ := h
    refine z_idxS (s := l19) H rfl rfl rfl slc_25 h22 h23 h24 (lt_ rfl) fun a H => ?_
    obtain ⟨l25, hc26, h⟩ := h
    refine z_load (v := l25.v) H rfl rfl one_24 hc26 (lt_ rfl) fun a H => z_blt H rfl (H.args (vs := [l25.v]) rfl) (lt_ rfl) (fun cs w => b_lenS (z := l25) sl_24) fun a H => z_move H rfl rfl (lt_ rfl) fun a H => ?_
    obtain ⟨a27, h121, h⟩ := h
    revert H
    subst h121
    intro H
    refine z_nil H rfl rfl (lt_ rfl) fun a H => z_fld H rfl rfl fld_104_1 (lt_ rfl) fun a H => ?_
    obtain ⟨l28, hc29, h⟩ := h
    refine z_load (v := l28.v) H rfl rfl one_25 hc29 (lt_ rfl) fun a H => z_blt H rfl (H.args (vs := [l28.v]) rfl) (lt_ rfl) (fun cs w => b_lenS (z := l28) sl_25) fun a H => z_bin H rfl rfl rfl r_neq (lt_ rfl) fun a H => wpQuiet_nil ?_
    rintro _ ⟨k17, rfl⟩
    replace h := h k17
    refine hK16 _ _ <| c_cond H rfl (fun h30 => ?_) (fun h30 => ?_)
    ·replace h := h.1 h30
     refine c_seq fun K31 hK31 => c_reg <| s_assign H rfl rfl (lt_ rfl) fun a H => s_assign H rfl rfl (lt_ rfl) fun a H => c_nil <| hK31 _ _ <| c_ret ?_
     exact e_ret2 H rfl rfl rfl h
    ·replace h := h.2 h30
     refine c_skip <| hK15 _ _ <| c_seq fun K32 hK32 => ?_
     replace H := H.weaken (L' := [(0, (.pointer (some a18))), (1, (.pointer (some a27)))]) ⟨rfl, rfl, trivial⟩
     obtain ⟨l33, hc34, l35, hc36, l37, hc38, a39, h40, h41, h42, l43, hc44, h⟩ := h
     refine c_any (V := [(0, (.pointer (some a18))), (1, (.pointer (some a18))), (2, (.pointer (some (a18.add 0)))), (3, (.pointer l33)), (4, (.pointer (some a18))), (5, (.pointer (some a18))), (6, (.pointer (some (a18.add 1)))), (7, l35.v), (8, (.i (l35.l : Int))), (9, (.pointer (some a27))), (10, (.pointer (some a27))), (11, (.pointer (some (a27.add 1)))), (12, l37.v), (13, (.pointer (some (a39.add (Int.toNat (0) * 1))))), (14, l43.v), (15, (.i (l43.l : Int)))]) (⟨[[], [0], [1], [2], [], [4], [5], [6], [7], [], [9], [10], [11], [12], [13], [14], [3, 8, 15], [0, 1, 2, 3, 4, 5, 6, 7, 8, 9, 10, 11, 12, 13, 14, 15, 16]], [some 41, some 42, some 43, some 44, some 45, some 46, some 47, some 48, some 49, some 50, some 51, some 52, some 53, some 54, some 55, some 56, some 57, some 6], [16], [0, 0, 0, 0, 0, 0, 0, 0, 0, 0, 0, 0, 0, 0, 0, 0, 0, 1], [0, 0, 0, 0, 0, 0, 0, 0, 0, 0, 0, 0, 0, 0, 0, 0, 1, 1]⟩ : Rg) [(0, (.pointer (some a18))), (1, (.pointer (some a27)))] mixed (by kernel_rfl) H ?_
     refine Stg.eff [0, 1, 2, 3, 4, 5, 6, 7, 8, 9, 10, 11, 12, 13, 14, 15] (by kernel_rfl) rfl (.cons ?_ (.cons ?_ (.cons ?_ (.cons ?_ (.cons ?_ (.cons ?_ (.cons ?_ (.cons ?_ (.cons ?_ (.cons ?_ (.cons ?_ (.cons ?_ (.cons ?_ (.cons ?_ (.cons ?_ (.cons ?_ .nil)))))))))))))))) ?_
     ·refine Ans.mk rfl rfl fun a H => s_move H rfl rfl (lt_ rfl) fun a H => ?_
      exact Ans.fin H rfl
     ·refine Ans.mk rfl rfl fun a H => s_nil H rfl rfl (lt_ rfl) fun a H => ?_
      exact Ans.fin H rfl
     ·refine Ans.mk rfl rfl fun a H => s_fld H rfl rfl fld_104_0 (lt_ rfl) fun a H => ?_
      exact Ans.fin H rfl
     ·refine Ans.mk rfl rfl fun a H => s_load (v := (.pointer l33)) H rfl rfl one_65 hc34 (lt_ rfl) fun a H => ?_
      exact Ans.fin H rfl
     ·refine Ans.mk rfl rfl fun a H => s_move H rfl rfl (lt_ rfl) fun a H => ?_
      exact Ans.fin H rfl
     ·refine Ans.mk rfl rfl fun a H => s_nil H rfl rfl (lt_ rfl) fun a H => ?_
      exact Ans.fin H rfl
     ·refine Ans.mk rfl rfl fun a H => s_fld H rfl rfl fld_104_1 (lt_ rfl) fun a H => ?_
      exact Ans.fin H rfl
     ·refine Ans.mk rfl rfl fun a H => s_load (v := l35.v) H rfl rfl one_25 hc36 (lt_ rfl) fun a H => ?_
      exact Ans.fin H rfl
     ·refine Ans.mk rfl rfl fun a H => s_blt H rfl (H.args (vs := [l35.v]) rfl) (lt_ rfl) (fun cs => b_lenS (z := l35) sl_25) fun a H => ?_
      exact Ans.fin H rfl
     ·refine Ans.mk rfl rfl fun a H => s_move H rfl rfl (lt_ rfl) fun a H => ?_
      exact Ans.fin H rfl
     ·refine Ans.mk rfl rfl fun a H => s_nil H rfl rfl (lt_ rfl) fun a H => ?_
      exact Ans.fin H rfl
     ·refine Ans.mk rfl rfl fun a H => s_fld H rfl rfl fld_104_1 (lt_ rfl) fun a H => ?_
      exact Ans.fin H rfl
     ·refine Ans.mk rfl rfl fun a H => s_load (v := l37.v) H rfl rfl one_25 hc38 (lt_ rfl) fun a H => ?_
      exact Ans.fin H rfl
     ·refine Ans.mk rfl rfl fun a H => s_idxS (s := l37) H rfl rfl rfl slc_25 h40 h41 h42 (lt_ rfl) fun a H => ?_
      exact Ans.fin H rfl
     ·refine Ans.mk rfl rfl fun a H => s_load (v := l43.v) H rfl rfl one_24 hc44 (lt_ rfl) fun a H => ?_
      exact Ans.fin H rfl
     ·refine Ans.mk rfl rfl fun a H => s_blt H rfl (H.args (vs := [l43.v]) rfl) (lt_ rfl) (fun cs => b_lenS (z := l43) sl_24) fun a H => ?_
      exact Ans.fin H rfl
     ·intro a H
      replace H := H.weaken (L' := [(44, (.pointer l33)), (49, (.i (l35.l : Int))), (56, (.i (l43.l : Int)))]) ⟨rfl, rfl, rfl, trivial⟩
      refine s_call H rfl body_49 (H.args (vs := [(.pointer l33), (.i (l35.l : Int)), (.i (l43.l : Int))]) rfl) (lt_ rfl) h ?_ (fun c w' h H => e_panic (P := PP) (fn := Tryd.f42) H h)
      clear H h a
      rintro _ w45 a ⟨b46, rfl, h⟩ H
      refine c_nil <| effQ.go [(17, (.pointer b46))] H rfl rfl <| Stg.fin [17] (by kernel_rfl) (.cons ?_ .nil) ?_
      ·refine Ans.mk rfl rfl fun a H => s_assign H rfl rfl (lt_ rfl) fun a H => ?_
       exact Ans.fin H rfl
      ·intro a H
       replace H := H.weaken (L' := [(0, (.pointer (some a18))), (1, (.pointer (some a27))), (6, (.pointer b46))]) ⟨rfl, rfl, rfl, trivial⟩
       refine hK32 _ _ <| c_seq fun K47 hK47 => c_seq fun K48 hK48 => c_reg <| s_move H rfl rfl (lt_ rfl) fun a H => s_nil H rfl rfl (lt_ rfl) fun a H => s_fld H rfl rfl fld_104_1 (lt_ rfl) fun a H => ?_
       obtain ⟨l49, hc50, h⟩ := h
       refine s_load (v := l49.v) H rfl rfl one_25 hc50 (lt_ rfl) fun a H => s_blt H rfl (H.args (vs := [l49.v]) rfl) (lt_ rfl) (fun cs => b_lenS (z := l49) sl_25) fun a H => s_move H rfl rfl (lt_ rfl) fun a H => c_nil <| hK48 _ _ <| c_block ?_
       obtain ⟨I53, m54, h115, h116⟩ := h
       refine c_loop (σ := Int) (fun z w => I53 z w) (fun z w => m54 z w) (fun z => [(0, (.pointer (some a18))), (1, (.pointer (some a27))), (6, (.pointer b46)), (61, l49.v), (62, (.i (l49.l : Int))), (63, (.i z))]) 0 h115 (H.weaken ⟨rfl, rfl, rfl, rfl, rfl, rfl, trivial⟩) ?_
       clear H h115
       rintro s51 a w52 h H
       replace h := h116 s51 w52 h
       clear h116
       replace H : Has 98 [] a [(0, (.pointer (some a18))), (1, (.pointer (some a27))), (6, (.pointer b46)), (61, l49.v), (62, (.i (l49.l : Int))), (63, (.i s51))] := H
       refine c_seq fun K55 hK55 => c_reg <| s_bin H rfl rfl rfl r_lss (lt_ rfl) fun a H => c_nil <| hK55 _ _ <| c_seq fun K56 hK56 => c_cond H rfl (fun h57 => ?_) (fun h57 => ?_)
       ·replace h := h.1 h57
        refine c_skip <| hK56 _ _ <| c_seq fun K58 hK58 => ?_
        obtain ⟨R59, h, h113⟩ := h
        have h61 : ∀ (a : Act) (w60 : World), R59 w60 → Has 98 [] a [(0, (.pointer (some a18))), (1, (.pointer (some a27))), (6, (.pointer b46)), (61, l49.v), (62, (.i (l49.l : Int))), (63, (.i s51))] → K58 a w60 := by
         clear h
         intro a w60 h H
         replace h := h113 w60 h
         refine hK58 _ _ <| c_reg <| s_bin H rfl rfl rfl r_add (lt_ rfl) fun a H => s_move H rfl rfl (lt_ rfl) fun a H => c_nil <| Exists.intro (wr .i64 (s51 + 1)) ⟨h.1, h.2, H.weaken ⟨rfl, rfl, rfl, rfl, rfl, rfl, trivial⟩⟩
        clear h113
        refine c_block <| c_seq fun K62 hK62 => c_reg <| s_move H rfl rfl (lt_ rfl) fun a H => ?_
        obtain ⟨a63, h64, h65, h66, h⟩ := h
        refine s_idxS (s := l49) H rfl rfl rfl slc_25 h64 h65 h66 (lt_ rfl) fun a H => ?_
        obtain ⟨l67, hc68, h⟩ := h
        refine s_load (v := l67.v) H rfl rfl one_24 hc68 (lt_ rfl) fun a H => s_assign H rfl rfl (lt_ rfl) fun a H => s_assign H rfl rfl (lt_ rfl) fun a H => c_nil <| hK62 _ _ <| c_seq fun K69 hK69 => c_reg <| s_move H rfl rfl (lt_ rfl) fun a H => s_blt H rfl (H.args (vs := [l67.v]) rfl) (lt_ rfl) (fun cs => b_lenS (z := l67) sl_24) fun a H => s_move H rfl rfl (lt_ rfl) fun a H => c_nil <| hK69 _ _ <| c_block ?_
        obtain ⟨I72, m73, h111, h112⟩ := h
        refine c_loop (σ := Int) (fun z w => I72 z w) (fun z w => m73 z w) (fun z => [(0, (.pointer (some a18))), (1, (.pointer (some a27))), (6, (.pointer b46)), (7, (.i s51)), (61, l49.v), (62, (.i (l49.l : Int))), (63, (.i s51)), (68, l67.v), (69, (.i (l67.l : Int))), (70, (.i z))]) 0 h111 (H.weaken ⟨rfl, rfl, rfl, rfl, rfl, rfl, rfl, rfl, rfl, rfl, trivial⟩) ?_
        clear H h111
        rintro s70 a w71 h H
        replace h := h112 s70 w71 h
        clear h112
        replace H : Has 98 [] a [(0, (.pointer (some a18))), (1, (.pointer (some a27))), (6, (.pointer b46)), (7, (.i s51)), (61, l49.v), (62, (.i (l49.l : Int))), (63, (.i s51)), (68, l67.v), (69, (.i (l67.l : Int))), (70, (.i s70))] := H
        refine c_seq fun K74 hK74 => c_reg <| s_bin H rfl rfl rfl r_lss (lt_ rfl) fun a H => c_nil <| hK74 _ _ <| c_seq fun K75 hK75 => c_cond H rfl (fun h76 => ?_) (fun h76 => ?_)
        ·replace h := h.1 h76
         refine c_skip <| hK75 _ _ <| c_seq fun K77 hK77 => c_block <| c_seq fun K78 hK78 => c_reg <| s_move H rfl rfl (lt_ rfl) fun a H => ?_
         obtain ⟨a79, h80, h81, h82, h⟩ := h
         refine s_idxS (s := l67) H rfl rfl rfl slc_24 h80 h81 h82 (lt_ rfl) fun a H => ?_
         obtain ⟨l83, hc84, h⟩ := h
         refine s_load (v := (.int .u8 l83)) H rfl rfl one_5 hc84 (lt_ rfl) fun a H => s_assign H rfl rfl (lt_ rfl) fun a H => s_assign H rfl rfl (lt_ rfl) fun a H => c_nil <| hK78 _ _ ?_
         replace H := H.weaken (L' := [(0, (.pointer (some a18))), (1, (.pointer (some a27))), (6, (.pointer b46)), (7, (.i s51)), (9, (.i s70)), (10, (.int .u8 l83)), (61, l49.v), (62, (.i (l49.l : Int))), (63, (.i s51)), (68, l67.v), (69, (.i (l67.l : Int))), (70, (.i s70))]) ⟨rfl, rfl, rfl, rfl, rfl, rfl, rfl, rfl, rfl, rfl, rfl, rfl, trivial⟩
         obtain ⟨l85, hc86, a87, h88, h⟩ := h
         revert H
         subst h88
         intro H
         obtain ⟨l89, hc90, a91, h92, h93, h94, l95, hc96, l97, hc98, a99, h100, h101, h102, l103, hc104, h⟩ := h
         refine c_any (V := [(0, (.pointer (some a18))), (1, (.pointer (some a18))), (2, (.pointer (some (a18.add 0)))), (3, (.pointer l85)), (4, (.pointer (some a87))), (5, (.pointer (some a87))), (6, (.pointer (some (a87.add 1)))), (7, l89.v), (8, (.i s51)), (9, (.pointer (some (a91.add (Int.toNat (s51) * 1))))), (10, l95.v), (11, (.int .u8 l83)), (12, (.pointer (some a27))), (13, (.pointer (some a27))), (14, (.pointer (some (a27.add 1)))), (15, l97.v), (16, (.i s70)), (17, (.pointer (some (a99.add (Int.toNat (s70) * 1))))), (18, l103.v)]) (⟨[[], [0], [1], [2], [], [4], [5], [6], [], [7, 8], [9], [], [], [12], [13], [14], [], [15, 16], [17], [3, 10, 11, 18]], [some 75, some 76, some 77, some 78, some 79, some 80, some 81, some 82, some 83, some 84, some 85, some 86, some 87, some 88, some 89, some 90, some 91, some 92, some 93, some 94], [19], [0, 0, 0, 0, 0, 0, 0, 0, 0, 0, 0, 0, 0, 0, 0, 0, 0, 0, 0, 0], [0, 0, 0, 0, 0, 0, 0, 0, 0, 0, 0, 0, 0, 0, 0, 0, 0, 0, 0, 1]⟩ : Rg) [(0, (.pointer (some a18))), (1, (.pointer (some a27))), (6, (.pointer (some a87))), (7, (.i s51)), (9, (.i s70)), (10, (.int .u8 l83)), (61, l49.v), (62, (.i (l49.l : Int))), (63, (.i s51)), (68, l67.v), (69, (.i (l67.l : Int))), (70, (.i s70))] mixed (by kernel_rfl) H ?_
         refine Stg.eff [0, 1, 2, 3, 4, 5, 6, 7, 8, 9, 10, 11, 12, 13, 14, 15, 16, 17, 18] (by kernel_rfl) rfl (.cons ?_ (.cons ?_ (.cons ?_ (.cons ?_ (.cons ?_ (.cons ?_ (.cons ?_ (.cons ?_ (.cons ?_ (.cons ?_ (.cons ?_ (.cons ?_ (.cons ?_ (.cons ?_ (.cons ?_ (.cons ?_ (.cons ?_ (.cons ?_ (.cons ?_ .nil))))))))))))))))))) ?_
         ·refine Ans.mk rfl rfl fun a H => s_move H rfl rfl (lt_ rfl) fun a H => ?_
          exact Ans.fin H rfl
         ·refine Ans.mk rfl rfl fun a H => s_nil H rfl rfl (lt_ rfl) fun a H => ?_
          exact Ans.fin H rfl
         ·refine Ans.mk rfl rfl fun a H => s_fld H rfl rfl fld_104_0 (lt_ rfl) fun a H => ?_
          exact Ans.fin H rfl
         ·refine Ans.mk rfl rfl fun a H => s_load (v := (.pointer l85)) H rfl rfl one_65 hc86 (lt_ rfl) fun a H => ?_
          exact Ans.fin H rfl
         ·refine Ans.mk rfl rfl fun a H => s_move H rfl rfl (lt_ rfl) fun a H => ?_
          exact Ans.fin H rfl
         ·refine Ans.mk rfl rfl fun a H => s_nil H rfl rfl (lt_ rfl) fun a H => ?_
          exact Ans.fin H rfl
         ·refine Ans.mk rfl rfl fun a H => s_fld H rfl rfl fld_104_1 (lt_ rfl) fun a H => ?_
          exact Ans.fin H rfl
         ·refine Ans.mk rfl rfl fun a H => s_load (v := l89.v) H rfl rfl one_25 hc90 (lt_ rfl) fun a H => ?_
          exact Ans.fin H rfl
         ·refine Ans.mk rfl rfl fun a H => s_move H rfl rfl (lt_ rfl) fun a H => ?_
          exact Ans.fin H rfl
         ·refine Ans.mk rfl rfl fun a H => s_idxS (s := l89) H rfl rfl rfl slc_25 h92 h93 h94 (lt_ rfl) fun a H => ?_
          exact Ans.fin H rfl
         ·refine Ans.mk rfl rfl fun a H => s_load (v := l95.v) H rfl rfl one_24 hc96 (lt_ rfl) fun a H => ?_
          exact Ans.fin H rfl
         ·refine Ans.mk rfl rfl fun a H => s_move H rfl rfl (lt_ rfl) fun a H => ?_
          exact Ans.fin H rfl
         ·refine Ans.mk rfl rfl fun a H => s_move H rfl rfl (lt_ rfl) fun a H => ?_
          exact Ans.fin H rfl
         ·refine Ans.mk rfl rfl fun a H => s_nil H rfl rfl (lt_ rfl) fun a H => ?_
          exact Ans.fin H rfl
         ·refine Ans.mk rfl rfl fun a H => s_fld H rfl rfl fld_104_1 (lt_ rfl) fun a H => ?_
          exact Ans.fin H rfl
         ·refine Ans.mk rfl rfl fun a H => s_load (v := l97.v) H rfl rfl one_25 hc98 (lt_ rfl) fun a H => ?_
          exact Ans.fin H rfl
         ·refine Ans.mk rfl rfl fun a H => s_move H rfl rfl (lt_ rfl) fun a H => ?_
          exact Ans.fin H rfl
         ·refine Ans.mk rfl rfl fun a H => s_idxS (s := l97) H rfl rfl rfl slc_25 h100 h101 h102 (lt_ rfl) fun a H => ?_
          exact Ans.fin H rfl
         ·refine Ans.mk rfl rfl fun a H => s_load (v := l103.v) H rfl rfl one_24 hc104 (lt_ rfl) fun a H => ?_
          exact Ans.fin H rfl
         ·intro a H
          replace H := H.weaken (L' := [(78, (.pointer l85)), (85, l95.v), (86, (.int .u8 l83)), (93, l103.v)]) ⟨rfl, rfl, rfl, rfl, trivial⟩
          refine s_call H rfl body_45 (H.args (vs := [(.pointer l85), l95.v, (.int .u8 l83), l103.v]) rfl) (lt_ rfl) h ?_ (fun c w' h H => e_panic (P := PP) (fn := Tryd.f42) H h)
          clear H h a
          rintro _ w105 a ⟨A106, rfl, h⟩ H
          refine c_nil <| effQ.go [] H rfl rfl <| Stg.fin [] (by kernel_rfl) .nil ?_
          ·intro a H
           replace H := H.weaken (L' := [(0, (.pointer (some a18))), (1, (.pointer (some a27))), (6, (.pointer (some a87))), (7, (.i s51)), (61, l49.v), (62, (.i (l49.l : Int))), (63, (.i s51)), (68, l67.v), (69, (.i (l67.l : Int))), (70, (.i s70))]) ⟨rfl, rfl, rfl, rfl, rfl, rfl, rfl, rfl, rfl, rfl, trivial⟩
           refine hK77 _ _ <| c_reg <| s_bin H rfl rfl rfl r_add (lt_ rfl) fun a H => s_move H rfl rfl (lt_ rfl) fun a H => c_nil <| Exists.intro (wr .i64 (s70 + 1)) ⟨h.1, h.2, H.weaken ⟨rfl, rfl, rfl, rfl, rfl, rfl, rfl, rfl, rfl, rfl, trivial⟩⟩
        ·replace h := h.2 h76
         refine c_exit ?_
         first | (simp only [Exit.then, Exit.inBlock, ↓reduceIte]; fail_if_success simp only [Nat.reduceEqDiff]) | simp only [Exit.then, Exit.inBlock, ↓reduceIte, Nat.reduceEqDiff]
         exact h61 _ _ h (H.weaken ⟨rfl, rfl, rfl, rfl, rfl, rfl, trivial⟩)
       ·replace h := h.2 h57
        refine c_exit ?_
        first | (simp only [Exit.then, Exit.inBlock, ↓reduceIte]; fail_if_success simp only [Nat.reduceEqDiff]) | simp only [Exit.then, Exit.inBlock, ↓reduceIte, Nat.reduceEqDiff]
        refine hK47 _ _ <| c_seq fun K114 hK114 => c_reg <| s_move H rfl rfl (lt_ rfl) fun a H => s_assign H rfl rfl (lt_ rfl) fun a H => s_assign H rfl rfl (lt_ rfl) fun a H => c_nil <| hK114 _ _ <| c_ret ?_
        exact e_ret2 H rfl rfl rfl h
  clear h146
  replace H := H.weaken (L' := [(0, (.pointer m1)), (1, (.pointer o2))]) ⟨rfl, rfl, trivial⟩
  rcases Bool.eq_false_or_eq_true o2.isNone with h124 | h124
  ·replace h := h.1 h124
   refine c_any (V := [(0, (.pointer o2)), (1, (.bool o2.isNone)), (2, (.bool o2.isNone)), (3, undef), (4, undef), (5, undef), (6, undef), (8, undef), (9, undef), (10, undef), (11, undef)]) (⟨[[], [0], [1], [2], [2, 3], [2, 4], [2, 5], [2, 6], [2], [2, 8], [2, 9], [2, 10], [2, 7, 11], [2, 7, 12], [2, 13]], [some 13, some 14, some 15, some 16, some 17, some 18, some 19, some 20, some 21, some 22, some 23, some 24, some 25, some 26, some 27], [7, 12], [0, 0, 0, 0, 0, 0, 0, 0, 0, 0, 0, 0, 1, 2, 2], [0, 0, 0, 0, 0, 0, 0, 1, 1, 1, 1, 1, 2, 2, 2]⟩ : Rg) [(0, (.pointer m1)), (1, (.pointer o2))] mixed (by kernel_rfl) H ?_
   refine Stg.eff [0, 1, 2, 3, 4, 5, 6, 8, 9, 10, 11] (by kernel_rfl) rfl (.cons ?_ (.cons ?_ (.cons ?_ (.cons ?_ (.cons ?_ (.cons ?_ (.cons ?_ (.cons ?_ (.cons ?_ (.cons ?_ (.cons ?_ .nil))))))))))) ?_
   ·refine Ans.mk rfl rfl fun a H => s_move H rfl rfl (lt_ rfl) fun a H => ?_
    exact Ans.fin H rfl
   ·refine Ans.mk rfl rfl fun a H => s_bin H rfl rfl rfl (r_eqP0 ptr_73) (lt_ rfl) fun a H => ?_
    exact Ans.fin H rfl
   ·refine Ans.mk rfl rfl fun a H => s_move H rfl rfl (lt_ rfl) fun a H => ?_
    exact Ans.fin H rfl
   ·exact .skip rfl rfl rfl rfl rfl rfl h124 rfl
   ·exact .skip rfl rfl rfl rfl rfl rfl h124 rfl
   ·exact .skip rfl rfl rfl rfl rfl rfl h124 rfl
   ·exact .skip rfl rfl rfl rfl rfl rfl h124 rfl
   ·exact .skip rfl rfl rfl rfl rfl rfl h124 rfl
   ·exact .skip rfl rfl rfl rfl rfl rfl h124 rfl
   ·exact .skip rfl rfl rfl rfl rfl rfl h124 rfl
   ·exact .skip rfl rfl rfl rfl rfl rfl h124 rfl
   ·intro a H
    replace H := H.weaken (L' := [(15, (.bool o2.isNone)), (19, undef)]) ⟨rfl, rfl, trivial⟩
    replace H := H.ch (t := 15) (b := true) rfl h124
    refine s_skip H (wantN H rfl rfl rfl) rfl (lt_ rfl) fun a H => c_nil <| effQ.go [] H rfl rfl <| Stg.eff [8, 9, 10, 11] (by kernel_rfl) rfl (.cons ?_ (.cons ?_ (.cons ?_ (.cons ?_ .nil)))) ?_
    ·exact .skip rfl rfl rfl rfl rfl rfl h124 rfl
    ·exact .skip rfl rfl rfl rfl rfl rfl h124 rfl
    ·exact .skip rfl rfl rfl rfl rfl rfl h124 rfl
    ·exact .skip rfl rfl rfl rfl rfl rfl h124 rfl
    ·intro a H
     replace H := H.weaken (L' := [(15, (.bool o2.isNone)), (24, undef)]) ⟨rfl, rfl, trivial⟩
     replace H := H.ch (t := 15) (b := true) rfl h124
     refine s_skip H (wantN H rfl rfl rfl) rfl (lt_ rfl) fun a H => c_nil <| effQ.go [(13, undef), (14, (.bool true))] H rfl rfl <| Stg.fin [13, 14] (by kernel_rfl) (.cons ?_ (.cons ?_ .nil)) ?_
     ·exact .skip rfl rfl rfl rfl rfl rfl h124 rfl
     ·refine Ans.mk rfl rfl fun a H => ?_
      replace H := H.ch (t := 15) (b := true) rfl h124
      refine s_pickT H rfl rfl rfl (lt_ rfl) fun a H => ?_
      exact Ans.fin H rfl
     ·intro a H
      replace H := H.weaken (L' := [(0, (.pointer m1)), (1, (.pointer o2)), (27, (.bool true))]) ⟨rfl, rfl, rfl, trivial⟩
      exact h123 _ _ _ h (H.weaken ⟨rfl, rfl, rfl, trivial⟩)
  ·replace h := h.2 h124
   obtain ⟨a125, h126, h⟩ := h
   revert H
   subst h126
   intro H
   obtain ⟨l127, hc128, a129, h130, h⟩ := h
   revert H
   subst h130
   intro H
   obtain ⟨l131, hc132, h⟩ := h
   refine c_any (V := [(0, (.pointer (some a125))), (1, (.bool (some a125).isNone)), (2, (.bool (some a125).isNone)), (3, (.pointer (some a125))), (4, (.pointer (some a125))), (5, (.pointer (some (a125.add 0)))), (6, (.pointer l127)), (8, (.pointer (some a129))), (9, (.pointer (some a129))), (10, (.pointer (some (a129.add 0)))), (11, (.pointer l131))]) (⟨[[], [0], [1], [2], [2, 3], [2, 4], [2, 5], [2, 6], [2], [2, 8], [2, 9], [2, 10], [2, 7, 11], [2, 7, 12], [2, 13]], [some 13, some 14, some 15, some 16, some 17, some 18, some 19, some 20, some 21, some 22, some 23, some 24, some 25, some 26, some 27], [7, 12], [0, 0, 0, 0, 0, 0, 0, 0, 0, 0, 0, 0, 1, 2, 2], [0, 0, 0, 0, 0, 0, 0, 1, 1, 1, 1, 1, 2, 2, 2]⟩ : Rg) [(0, (.pointer (some a129))), (1, (.pointer (some a125)))] mixed (by kernel_rfl) H ?_
   refine Stg.eff [0, 1, 2, 3, 4, 5, 6, 8, 9, 10, 11] (by kernel_rfl) rfl (.cons ?_ (.cons ?_ (.cons ?_ (.cons ?_ (.cons ?_ (.cons ?_ (.cons ?_ (.cons ?_ (.cons ?_ (.cons ?_ (.cons ?_ .nil))))))))))) ?_
   ·refine Ans.mk rfl rfl fun a H => s_move H rfl rfl (lt_ rfl) fun a H => ?_
    exact Ans.fin H rfl
   ·refine Ans.mk rfl rfl fun a H => s_bin H rfl rfl rfl (r_eqP0 ptr_73) (lt_ rfl) fun a H => ?_
    exact Ans.fin H rfl
   ·refine Ans.mk rfl rfl fun a H => s_move H rfl rfl (lt_ rfl) fun a H => ?_
    exact Ans.fin H rfl
   ·refine Ans.mk rfl rfl fun a H => ?_
    replace H := H.ch (t := 15) (b := false) rfl h124
    refine s_move H (wantG H rfl rfl) rfl (lt_ rfl) fun a H => ?_
    exact Ans.fin H rfl
   ·refine Ans.mk rfl rfl fun a H => ?_
    replace H := H.ch (t := 15) (b := false) rfl h124
    refine s_nil H (wantG H rfl rfl) rfl (lt_ rfl) fun a H => ?_
    exact Ans.fin H rfl
   ·refine Ans.mk rfl rfl fun a H => ?_
    replace H := H.ch (t := 15) (b := false) rfl h124
    refine s_fld H (wantG H rfl rfl) rfl fld_104_0 (lt_ rfl) fun a H => ?_
    exact Ans.fin H rfl
   ·refine Ans.mk rfl rfl fun a H => ?_
    replace H := H.ch (t := 15) (b := false) rfl h124
    refine s_load (v := (.pointer l127)) H (wantG H rfl rfl) rfl one_65 hc128 (lt_ rfl) fun a H => ?_
    exact Ans.fin H rfl
   ·refine Ans.mk rfl rfl fun a H => ?_
    replace H := H.ch (t := 15) (b := false) rfl h124
    refine s_move H (wantG H rfl rfl) rfl (lt_ rfl) fun a H => ?_
    exact Ans.fin H rfl
   ·refine Ans.mk rfl rfl fun a H => ?_
    replace H := H.ch (t := 15) (b := false) rfl h124
    refine s_nil H (wantG H rfl rfl) rfl (lt_ rfl) fun a H => ?_
    exact Ans.fin H rfl
   ·refine Ans.mk rfl rfl fun a H => ?_
    replace H := H.ch (t := 15) (b := false) rfl h124
    refine s_fld H (wantG H rfl rfl) rfl fld_104_0 (lt_ rfl) fun a H => ?_
    exact Ans.fin H rfl
   ·refine Ans.mk rfl rfl fun a H => ?_
    replace H := H.ch (t := 15) (b := false) rfl h124
    refine s_load (v := (.pointer l131)) H (wantG H rfl rfl) rfl one_65 hc132 (lt_ rfl) fun a H => ?_
    exact Ans.fin H rfl
   ·intro a H
    replace H := H.weaken (L' := [(15, (.bool (some a125).isNone)), (19, (.pointer l127))]) ⟨rfl, rfl, trivial⟩
    replace H := H.ch (t := 15) (b := false) rfl h124
    refine s_call H (wantG H rfl rfl) body_59 (H.args (vs := [(.pointer l127)]) rfl) (lt_ rfl) h ?_ (fun c w' h H => e_panic (P := PP) (fn := Tryd.f42) H h)
    clear H h a
    rintro _ w133 a ⟨P134, rfl, h⟩ H
    refine c_nil ?_
    obtain ⟨hc135, h⟩ := h
    refine effQ.go [] H rfl rfl <| Stg.eff [8, 9, 10, 11] (by kernel_rfl) rfl (.cons ?_ (.cons ?_ (.cons ?_ (.cons ?_ .nil)))) ?_
    ·refine Ans.mk rfl rfl fun a H => ?_
     replace H := H.ch (t := 15) (b := false) rfl h124
     refine s_move H (wantG H rfl rfl) rfl (lt_ rfl) fun a H => ?_
     exact Ans.fin H rfl
    ·refine Ans.mk rfl rfl fun a H => ?_
     replace H := H.ch (t := 15) (b := false) rfl h124
     refine s_nil H (wantG H rfl rfl) rfl (lt_ rfl) fun a H => ?_
     exact Ans.fin H rfl
    ·refine Ans.mk rfl rfl fun a H => ?_
     replace H := H.ch (t := 15) (b := false) rfl h124
     refine s_fld H (wantG H rfl rfl) rfl fld_104_0 (lt_ rfl) fun a H => ?_
     exact Ans.fin H rfl
    ·refine Ans.mk rfl rfl fun a H => ?_
     replace H := H.ch (t := 15) (b := false) rfl h124
     refine s_load (v := (.pointer l131)) H (wantG H rfl rfl) rfl one_65 hc135 (lt_ rfl) fun a H => ?_
     exact Ans.fin H rfl
    ·intro a H
     replace H := H.weaken (L' := [(15, (.bool (some a125).isNone)), (24, (.pointer l131))]) ⟨rfl, rfl, trivial⟩
     replace H := H.ch (t := 15) (b := false) rfl h124
     refine s_call H (wantG H rfl rfl) body_59 (H.args (vs := [(.pointer l131)]) rfl) (lt_ rfl) h ?_ (fun c w' h H => e_panic (P := PP) (fn := Tryd.f42) H h)
     clear H h a
     rintro _ w136 a ⟨P137, rfl, h⟩ H
     refine c_nil <| effQ.go [(13, (.bool (decide (P134 ≠ P137)))), (14, (.bool (decide (P134 ≠ P137))))] H rfl rfl <| Stg.fin [13, 14] (by kernel_rfl) (.cons ?_ (.cons ?_ .nil)) ?_
     ·refine Ans.mk rfl rfl fun a H => ?_
      replace H := H.ch (t := 15) (b := false) rfl h124
      refine s_bin H (wantG H rfl rfl) rfl rfl r_neq (lt_ rfl) fun a H => ?_
      exact Ans.fin H rfl
     ·refine Ans.mk rfl rfl fun a H => ?_
      replace H := H.ch (t := 15) (b := false) rfl h124
      refine s_pickF H rfl rfl rfl (lt_ rfl) fun a H => ?_
      exact Ans.fin H rfl
     ·intro a H
      replace H := H.weaken (L' := [(0, (.pointer (some a129))), (1, (.pointer (some a125))), (27, (.bool (decide (P134 ≠ P137))))]) ⟨rfl, rfl, rfl, trivial⟩
      exact h123 _ _ _ h (H.weaken ⟨rfl, rfl, rfl, trivial⟩)

theorem sim_slices_ContainsFunc_byte_byte (s1 : Slc) (f2 : Value) (w : World) (Q : Ending → World → Prop) (h : vc_slices_ContainsFunc_byte_byte s1 f2 w Q) : Calls PP F_slices_ContainsFunc_byte_byte #[s1.v, f2] w Q := by
 unfold vc_slices_ContainsFunc_byte_byte at h
 refine enter (n := 9) Tryd.func43 rfl rfl (Nat.le_of_ble_eq_true rfl) fun a H => c_seq fun K3 hK3 => c_reg <| s_assign H rfl rfl (lt_ rfl) fun a H => c_nil <| hK3 _ _ <| c_seq fun K4 hK4 => c_reg <| s_move H rfl rfl (lt_ rfl) fun a H => s_move H rfl rfl (lt_ rfl) fun a H => s_call H rfl body_60 (H.args (vs := [s1.v, f2]) rfl) (lt_ rfl) h ?_ (fun c w' h H => e_panic (P := PP) (fn := Tryd.f43) H h)
 clear H h a
 rintro _ w5 a ⟨b6, rfl, h⟩ H
 refine s_bin H rfl rfl rfl r_geq (lt_ rfl) fun a H => s_assign H rfl rfl (lt_ rfl) fun a H => c_nil <| hK4 _ _ <| c_ret ?_
 exact e_ret1 H rfl rfl h

theorem sim_code_Code_shaped_c1 (r1 : Slc) (c2 : Addr) (w : World) (Q : Ending → World → Prop) (h : vc_code_Code_shaped_c1 r1 c2 w Q) : Calls PP F_code_Code_shaped_c1 #[r1.v, (.pointer (some c2))] w Q := by
 unfold vc_code_Code_shaped_c1 at h
 refine enter (n := 11) Tryd.func44 rfl rfl (Nat.le_of_ble_eq_true rfl) fun a H => c_seq fun K3 hK3 => c_reg <| s_assign H rfl rfl (lt_ rfl) fun a H => c_nil <| hK3 _ _ <| c_seq fun K4 hK4 => c_reg <| s_move H rfl rfl (lt_ rfl) fun a H => s_blt H rfl (H.args (vs := [r1.v]) rfl) (lt_ rfl) (fun cs => b_lenS (z := r1) sl_24) fun a H => ?_
 obtain ⟨l5, hc6, h⟩ := h
 refine s_load (v := l5.v) H rfl rfl one_25 hc6 (lt_ rfl) fun a H => ?_
 obtain ⟨a7, h8, h9, h10, h⟩ := h
 refine s_idxS (s := l5) H rfl rfl rfl slc_25 h8 h9 h10 (lt_ rfl) fun a H => ?_
 obtain ⟨l11, hc12, h⟩ := h
 refine s_load (v := l11.v) H rfl rfl one_24 hc12 (lt_ rfl) fun a H => s_blt H rfl (H.args (vs := [l11.v]) rfl) (lt_ rfl) (fun cs => b_lenS (z := l11) sl_24) fun a H => s_bin H rfl rfl rfl r_neq (lt_ rfl) fun a H => s_assign H rfl rfl (lt_ rfl) fun a H => c_nil <| hK4 _ _ <| c_ret ?_
 exact e_ret1 H rfl rfl h

theorem sim_gf_Field_AddMul (f1 : Option Addr) (d2 : Slc) (c3 : Int) (s4 : Slc) (w : World) (Q : Ending → World → Prop) (h : vc_gf_Field_AddMul f1 d2 c3 s4 w Q) : Calls PP F_gf_Field_AddMul #[(.pointer f1), d2.v, (.int .u8 c3), s4.v] w Q := by
 unfold vc_gf_Field_AddMul at h
 refine enter (n := 39) Tryd.func45 rfl rfl (Nat.le_of_ble_eq_true rfl) fun a H => c_seq fun K5 hK5 => c_reg <| s_assign H rfl rfl (lt_ rfl) fun a H => c_nil <| hK5 _ _ <| c_seq fun K6 hK6 => c_seq fun K7 hK7 => c_reg <| s_move H rfl rfl (lt_ rfl) fun a H => s_bin H rfl rfl rfl (r_eqP0 ptr_65) (lt_ rfl) fun a H => c_nil <| hK7 _ _ <| c_cond H rfl (fun h8 => ?_) (fun h8 => ?_)
 ·replace h := h.1 h8
  refine c_seq fun K9 hK9 => c_reg <| s_assign H rfl rfl (lt_ rfl) fun a H => c_nil <| hK9 _ _ <| c_ret ?_
  exact e_ret1 H rfl rfl h
 ·replace h := h.2 h8
  refine c_skip <| hK6 _ _ <| c_seq fun K10 hK10 => c_seq fun K11 hK11 => c_reg <| s_move H rfl rfl (lt_ rfl) fun a H => s_blt H rfl (H.args (vs := [d2.v]) rfl) (lt_ rfl) (fun cs => b_lenS (z := d2) sl_24) fun a H => s_move H rfl rfl (lt_ rfl) fun a H => s_blt H rfl (H.args (vs := [s4.v]) rfl) (lt_ rfl) (fun cs => b_lenS (z := s4) sl_24) fun a H => s_bin H rfl rfl rfl r_neq (lt_ rfl) fun a H => c_nil <| hK11 _ _ <| c_cond H rfl (fun h12 => ?_) (fun h12 => ?_)
  ·replace h := h.1 h12
   refine c_seq fun K13 hK13 => c_reg <| s_assign H rfl rfl (lt_ rfl) fun a H => c_nil <| hK13 _ _ <| c_ret ?_
   exact e_ret1 H rfl rfl h
  ·replace h := h.2 h12
   refine c_skip <| hK10 _ _ <| c_seq fun K14 hK14 => c_reg <| s_move H rfl rfl (lt_ rfl) fun a H => ?_
   obtain ⟨s15, w16, h17, h⟩ := h
   refine s_blt H rfl (H.args (vs := [Slc.nil.v, s4.v]) rfl) (lt_ rfl) (fun cs => b_app (z := s15) h17) ?_
   clear H a h17
   intro a H
   refine s_assign H rfl rfl (lt_ rfl) fun a H => c_nil <| hK14 _ _ <| c_seq fun K18 hK18 => c_seq fun K19 hK19 => c_reg <| s_move H rfl rfl (lt_ rfl) fun a H => s_blt H rfl (H.args (vs := [s15.v]) rfl) (lt_ rfl) (fun cs => b_lenS (z := s15) sl_24) fun a H => s_move H rfl rfl (lt_ rfl) fun a H => c_nil <| hK19 _ _ <| c_block ?_
   obtain ⟨I22, m23, h56, h57⟩ := h
   refine c_loop (σ := Int) (fun z w => I22 z w) (fun z w => m23 z w) (fun z => [(0, (.pointer f1)), (1, d2.v), (2, (.int .u8 c3)), (21, s15.v), (22, (.i (s15.l : Int))), (23, (.i z))]) 0 h56 (H.weaken ⟨rfl, rfl, rfl, rfl, rfl, rfl, trivial⟩) ?_
   clear H h56
   rintro s20 a w21 h H
   replace h := h57 s20 w21 h
   clear h57
   replace H : Has 39 [] a [(0, (.pointer f1)), (1, d2.v), (2, (.int .u8 c3)), (21, s15.v), (22, (.i (s15.l : Int))), (23, (.i s20))] := H
   refine c_seq fun K24 hK24 => c_reg <| s_bin H rfl rfl rfl r_lss (lt_ rfl) fun a H => c_nil <| hK24 _ _ <| c_seq fun K25 hK25 => c_cond H rfl (fun h26 => ?_) (fun h26 => ?_)
   ·replace h := h.1 h26
    refine c_skip <| hK25 _ _ <| c_seq fun K27 hK27 => c_block <| c_seq fun K28 hK28 => c_reg <| s_move H rfl rfl (lt_ rfl) fun a H => ?_
    obtain ⟨a29, h30, h31, h32, h⟩ := h
    refine s_idxS (s := s15) H rfl rfl rfl slc_24 h30 h31 h32 (lt_ rfl) fun a H => ?_
    obtain ⟨l33, hc34, h⟩ := h
    refine s_load (v := (.int .u8 l33)) H rfl rfl one_5 hc34 (lt_ rfl) fun a H => s_assign H rfl rfl (lt_ rfl) fun a H => s_assign H rfl rfl (lt_ rfl) fun a H => c_nil <| hK28 _ _ ?_
    replace H := H.weaken (L' := [(0, (.pointer f1)), (1, d2.v), (2, (.int .u8 c3)), (10, (.i s20)), (11, (.int .u8 l33)), (21, s15.v), (22, (.i (s15.l : Int))), (23, (.i s20))]) ⟨rfl, rfl, rfl, rfl, rfl, rfl, rfl, rfl, trivial⟩
    obtain ⟨a35, h36, h37, h38, l39, hc40, h⟩ := h
    refine c_any (V := [(0, d2.v), (1, (.i s20)), (2, (.pointer (some (a35.add (Int.toNat (s20) * 1))))), (3, (.int .u8 l39)), (4, (.pointer f1)), (5, (.int .u8 c3)), (6, (.int .u8 l33))]) (⟨[[], [], [0, 1], [2], [], [], [], [4, 5, 6], [3, 7], [0, 1, 2, 3, 4, 5, 6, 7, 8], [0, 1, 2, 3, 4, 5, 6, 7, 8, 9]], [some 28, some 29, some 30, some 31, some 32, some 33, some 34, some 35, some 36, some 37, none], [7, 10], [0, 0, 0, 0, 0, 0, 0, 0, 1, 1, 1], [1, 1, 1, 1, 0, 0, 0, 1, 1, 1, 2]⟩ : Rg) [(0, (.pointer f1)), (1, d2.v), (2, (.int .u8 c3)), (10, (.i s20)), (11, (.int .u8 l33)), (21, s15.v), (22, (.i (s15.l : Int))), (23, (.i s20))] mixed (by kernel_rfl) H ?_
    refine Stg.eff [0, 1, 2, 3, 4, 5, 6] (by kernel_rfl) rfl (.cons ?_ (.cons ?_ (.cons ?_ (.cons ?_ (.cons ?_ (.cons ?_ (.cons ?_ .nil))))))) ?_
    ·refine Ans.mk rfl rfl fun a H => s_move H rfl rfl (lt_ rfl) fun a H => ?_
     exact Ans.fin H rfl
    ·refine Ans.mk rfl rfl fun a H => s_move H rfl rfl (lt_ rfl) fun a H => ?_
     exact Ans.fin H rfl
    ·refine Ans.mk rfl rfl fun a H => s_idxS (s := d2) H rfl rfl rfl slc_24 h36 h37 h38 (lt_ rfl) fun a H => ?_
     exact Ans.fin H rfl
    ·refine Ans.mk rfl rfl fun a H => s_load (v := (.int .u8 l39)) H rfl rfl one_5 hc40 (lt_ rfl) fun a H => ?_
     exact Ans.fin H rfl
    ·refine Ans.mk rfl rfl fun a H => s_move H rfl rfl (lt_ rfl) fun a H => ?_
     exact Ans.fin H rfl
    ·refine Ans.mk rfl rfl fun a H => s_move H rfl rfl (lt_ rfl) fun a H => ?_
     exact Ans.fin H rfl
    ·refine Ans.mk rfl rfl fun a H => s_move H rfl rfl (lt_ rfl) fun a H => ?_
     exact Ans.fin H rfl
    ·intro a H
     replace H := H.weaken (L' := [(32, (.pointer f1)), (33, (.int .u8 c3)), (34, (.int .u8 l33))]) ⟨rfl, rfl, rfl, trivial⟩
     refine s_call H rfl body_58 (H.args (vs := [(.pointer f1), (.int .u8 c3), (.int .u8 l33)]) rfl) (lt_ rfl) h ?_ (fun c w' h H => e_panic (P := PP) (fn := Tryd.f45) H h)
     clear H h a
     rintro _ w41 a ⟨M42, rfl, h⟩ H
     refine c_nil ?_
     obtain ⟨hc43, a44, h45, h46, h47, h⟩ := h
     refine effQ.go [(8, (.int .u8 (xorI .u8 l39 M42))), (9, (.pointer (some (a44.add (Int.toNat (s20) * 1)))))] H rfl rfl <| Stg.eff [0, 1, 2, 3, 8, 9] (by kernel_rfl) rfl (.cons ?_ (.cons ?_ (.cons ?_ (.cons ?_ (.cons ?_ (.cons ?_ .nil)))))) ?_
     ·refine Ans.mk rfl rfl fun a H => s_move H rfl rfl (lt_ rfl) fun a H => ?_
      exact Ans.fin H rfl
     ·refine Ans.mk rfl rfl fun a H => s_move H rfl rfl (lt_ rfl) fun a H => ?_
      exact Ans.fin H rfl
     ·refine Ans.mk rfl rfl fun a H => s_idxS (s := d2) H rfl rfl rfl slc_24 h36 h37 h38 (lt_ rfl) fun a H => ?_
      exact Ans.fin H rfl
     ·refine Ans.mk rfl rfl fun a H => s_load (v := (.int .u8 l39)) H rfl rfl one_5 hc43 (lt_ rfl) fun a H => ?_
      exact Ans.fin H rfl
     ·refine Ans.mk rfl rfl fun a H => s_bin H rfl rfl rfl r_xor (lt_ rfl) fun a H => ?_
      exact Ans.fin H rfl
     ·refine Ans.mk rfl rfl fun a H => s_idxS (s := d2) H rfl rfl rfl slc_24 h45 h46 h47 (lt_ rfl) fun a H => ?_
      exact Ans.fin H rfl
     ·intro a H
      replace H := H.weaken (L' := [(36, (.int .u8 (xorI .u8 l39 M42))), (37, (.pointer (some (a44.add (Int.toNat (s20) * 1)))))]) ⟨rfl, rfl, trivial⟩
      obtain ⟨h49, h50, h⟩ := h
      refine s_sto (p := a44.add (Int.toNat (s20) * 1)) (v := (.int .u8 (xorI .u8 l39 M42))) H rfl rfl rfl rfl one_5 rfl h49 h50 ?_
      clear H
      intro H
      generalize hww48 : World.setCell w41 (a44.add (Int.toNat (s20) * 1)) (.int .u8 (xorI .u8 l39 M42)) = w48 at h ⊢
      have w48S : SetAt w41 (a44.add (Int.toNat (s20) * 1)) (.int .u8 (xorI .u8 l39 M42)) w48 := ⟨hww48.symm⟩
      clear hww48 h49 h50
      refine c_nil <| effQ.go0 [] H rfl rfl <| Stg.fin [] (by kernel_rfl) .nil ?_
      ·intro a H
       replace H := H.weaken (L' := [(0, (.pointer f1)), (1, d2.v), (2, (.int .u8 c3)), (21, s15.v), (22, (.i (s15.l : Int))), (23, (.i s20))]) ⟨rfl, rfl, rfl, rfl, rfl, rfl, trivial⟩
       refine hK27 _ _ <| c_reg <| s_bin H rfl rfl rfl r_add (lt_ rfl) fun a H => s_move H rfl rfl (lt_ rfl) fun a H => c_nil <| Exists.intro (wr .i64 (s20 + 1)) ⟨h.1, h.2, H.weaken ⟨rfl, rfl, rfl, rfl, rfl, rfl, trivial⟩⟩
   ·replace h := h.2 h26
    refine c_exit ?_
    first | (simp only [Exit.then, Exit.inBlock, ↓reduceIte]; fail_if_success simp only [Nat.reduceEqDiff]) | simp only [Exit.then, Exit.inBlock, ↓reduceIte, Nat.reduceEqDiff]
    refine hK18 _ _ <| c_seq fun K55 hK55 => c_reg <| s_assign H rfl rfl (lt_ rfl) fun a H => c_nil <| hK55 _ _ <| c_ret ?_
    exact e_ret1 H rfl rfl h

theorem sim_slices_ContainsFunc_api_Part_api_Part (s1 : Slc) (f2 : Value) (w : World) (Q : Ending → World → Prop) (h : vc_slices_ContainsFunc_api_Part_api_Part s1 f2 w Q) : Calls PP F_slices_ContainsFunc_api_Part_api_Part #[s1.v, f2] w Q := by
 unfold vc_slices_ContainsFunc_api_Part_api_Part at h
 refine enter (n := 9) Tryd.func46 rfl rfl (Nat.le_of_ble_eq_true rfl) fun a H => c_seq fun K3 hK3 => c_reg <| s_assign H rfl rfl (lt_ rfl) fun a H => c_nil <| hK3 _ _ <| c_seq fun K4 hK4 => c_reg <| s_move H rfl rfl (lt_ rfl) fun a H => s_move H rfl rfl (lt_ rfl) fun a H => s_call H rfl body_61 (H.args (vs := [s1.v, f2]) rfl) (lt_ rfl) h ?_ (fun c w' h H => e_panic (P := PP) (fn := Tryd.f46) H h)
 clear H h a
 rintro _ w5 a ⟨P6, rfl, h⟩ H
 refine s_bin H rfl rfl rfl r_geq (lt_ rfl) fun a H => s_assign H rfl rfl (lt_ rfl) fun a H => c_nil <| hK4 _ _ <| c_ret ?_
 exact e_ret1 H rfl rfl h

theorem sim_code_Code_refused_c1 (I1 : Int) (D2 : Slc) (c3 : Addr) (w : World) (Q : Ending → World → Prop) (h : vc_code_Code_refused_c1 I1 D2 c3 w Q) : Calls PP F_code_Code_refused_c1 #[(.agg #[(.i I1), D2.v]), (.pointer (some c3))] w Q := by
 unfold vc_code_Code_refused_c1 at h
 refine enter (n := 13) Tryd.func47 rfl rfl (Nat.le_of_ble_eq_true rfl) fun a H => c_seq fun K4 hK4 => c_reg ?_
 replace h := h.get
 obtain ⟨b5, w6, n7, h⟩ := h
 refine s_box H rfl rfl (lt_ rfl) ?_
 rw [← n7.at_]
 clear H a
 intro a H
 refine n7.go <| s_assign H rfl rfl (lt_ rfl) fun a H => c_nil <| hK4 _ _ <| c_seq fun K8 hK8 => c_regD mixed (by kernel_rfl) <| z_fld H rfl rfl fld_41_1 (lt_ rfl) fun a H => z_load (v := D2.v) H rfl rfl one_24 (n7.cell (i := 1) rfl) (lt_ rfl) fun a H => z_blt H rfl (H.args (vs := [D2.v]) rfl) (lt_ rfl) (fun cs w => b_lenS (z := D2) sl_24) fun a H => ?_
 obtain ⟨l10, hc11, h⟩ := h
 refine z_load (v := l10.v) H rfl rfl one_35 hc11 (lt_ rfl) fun a H => ?_
 obtain ⟨a12, h13, h14, h15, h⟩ := h
 refine z_idxS (s := l10) H rfl rfl rfl slc_35 h13 h14 h15 (lt_ rfl) fun a H => z_fld H rfl rfl fld_41_1 (lt_ rfl) fun a H => ?_
 obtain ⟨l16, hc17, h⟩ := h
 refine z_load (v := l16.v) H rfl rfl one_24 hc17 (lt_ rfl) fun a H => z_blt H rfl (H.args (vs := [l16.v]) rfl) (lt_ rfl) (fun cs w => b_lenS (z := l16) sl_24) fun a H => z_bin H rfl rfl rfl r_neq (lt_ rfl) fun a H => z_assign H rfl rfl (lt_ rfl) fun a H => wpQuiet_nil ?_
 rintro _ ⟨k9, rfl⟩
 replace h := h k9
 refine hK8 _ _ <| c_ret ?_
 exact e_ret1 H rfl rfl h

theorem sim_matrix_New_c1 (r1 : Slc) (c2 : Addr) (w : World) (Q : Ending → World → Prop) (h : vc_matrix_New_c1 r1 c2 w Q) : Calls PP F_matrix_New_c1 #[r1.v, (.pointer (some c2))] w Q := by
 unfold vc_matrix_New_c1 at h
 refine enter (n := 11) Tryd.func48 rfl rfl (Nat.le_of_ble_eq_true rfl) fun a H => c_seq fun K3 hK3 => c_reg <| s_assign H rfl rfl (lt_ rfl) fun a H => c_nil <| hK3 _ _ <| c_seq fun K4 hK4 => c_reg <| s_move H rfl rfl (lt_ rfl) fun a H => s_blt H rfl (H.args (vs := [r1.v]) rfl) (lt_ rfl) (fun cs => b_lenS (z := r1) sl_24) fun a H => ?_
 obtain ⟨l5, hc6, h⟩ := h
 refine s_load (v := l5.v) H rfl rfl one_25 hc6 (lt_ rfl) fun a H => ?_
 obtain ⟨a7, h8, h9, h10, h⟩ := h
 refine s_idxS (s := l5) H rfl rfl rfl slc_25 h8 h9 h10 (lt_ rfl) fun a H => ?_
 obtain ⟨l11, hc12, h⟩ := h
 refine s_load (v := l11.v) H rfl rfl one_24 hc12 (lt_ rfl) fun a H => s_blt H rfl (H.args (vs := [l11.v]) rfl) (lt_ rfl) (fun cs => b_lenS (z := l11) sl_24) fun a H => s_bin H rfl rfl rfl r_neq (lt_ rfl) fun a H => s_assign H rfl rfl (lt_ rfl) fun a H => c_nil <| hK4 _ _ <| c_ret ?_
 exact e_ret1 H rfl rfl h

theorem sim_matrix_blank (f1 : Option Addr) (r2 c3 : Int) (w : World) (Q : Ending → World → Prop) (h : vc_matrix_blank f1 r2 c3 w Q) : Calls PP F_matrix_blank #[(.pointer f1), (.i r2), (.i c3)] w Q := by
 unfold vc_matrix_blank at h
 refine enter (n := 32) Tryd.func49 rfl rfl (Nat.le_of_ble_eq_true rfl) fun a H => c_seq fun K4 hK4 => c_reg <| s_assign H rfl rfl (lt_ rfl) fun a H => c_nil <| hK4 _ _ <| c_seq fun K5 hK5 => c_reg <| s_move H rfl rfl (lt_ rfl) fun a H => s_move H rfl rfl (lt_ rfl) fun a H => ?_
 obtain ⟨s6, w7, h8, h⟩ := h
 refine s_mk H rfl rfl rfl h8 (lt_ rfl) ?_
 clear H a h8
 intro a H
 refine s_build H rfl (by rw [H.parts (vs := [(0, (.pointer f1)), (1, s6.v)]) rfl]; exact bd_104_p0_s1 w7 f1 s6) (lt_ rfl) fun a H => ?_
 replace h := h.get
 obtain ⟨b9, w10, n11, h⟩ := h
 refine s_box H rfl rfl (lt_ rfl) ?_
 rw [← n11.at_]
 clear H a
 intro a H
 refine n11.go <| s_assign H rfl rfl (lt_ rfl) fun a H => c_nil <| hK5 _ _ <| c_seq fun K12 hK12 => c_seq fun K13 hK13 => c_reg <| s_move H rfl rfl (lt_ rfl) fun a H => s_nil H rfl rfl (lt_ rfl) fun a H => s_fld H rfl rfl fld_104_1 (lt_ rfl) fun a H => s_load (v := s6.v) H rfl rfl one_25 (n11.cell (i := 1) rfl) (lt_ rfl) fun a H => s_blt H rfl (H.args (vs := [s6.v]) rfl) (lt_ rfl) (fun cs => b_lenS (z := s6) sl_25) fun a H => s_move H rfl rfl (lt_ rfl) fun a H => c_nil <| hK13 _ _ ?_
 refine c_block ?_
 obtain ⟨I16, m17, h37, h38⟩ := h
 refine c_loop (σ := Int) (fun z w => I16 z w) (fun z w => m17 z w) (fun z => [(2, (.i c3)), (7, (.pointer (some (blk b9)))), (18, (.i (s6.l : Int))), (19, (.i z))]) 0 h37 (H.weaken ⟨rfl, rfl, rfl, rfl, trivial⟩) ?_
 clear H h37
 rintro s14 a w15 h H
 replace h := h38 s14 w15 h
 clear h38
 replace H : Has 32 [] a [(2, (.i c3)), (7, (.pointer (some (blk b9)))), (18, (.i (s6.l : Int))), (19, (.i s14))] := H
 refine c_seq fun K18 hK18 => c_reg <| s_bin H rfl rfl rfl r_lss (lt_ rfl) fun a H => c_nil <| hK18 _ _ <| c_seq fun K19 hK19 => c_cond H rfl (fun h20 => ?_) (fun h20 => ?_)
 ·replace h := h.1 h20
  refine c_skip <| hK19 _ _ <| c_seq fun K21 hK21 => c_block <| c_seq fun K22 hK22 => c_reg <| s_move H rfl rfl (lt_ rfl) fun a H => s_assign H rfl rfl (lt_ rfl) fun a H => c_nil <| hK22 _ _ ?_
  replace H := H.weaken (L' := [(2, (.i c3)), (7, (.pointer (some (blk b9)))), (8, (.i s14)), (18, (.i (s6.l : Int))), (19, (.i s14))]) ⟨rfl, rfl, rfl, rfl, rfl, trivial⟩
  obtain ⟨l23, hc24, h⟩ := h
  refine c_any (V := [(0, (.pointer (some (blk b9)))), (1, (.pointer (some (blk b9)))), (2, (.pointer (some ((blk b9).add 1)))), (3, l23.v), (4, (.i s14)), (5, (.i c3))]) (⟨[[], [0], [1], [2], [], [], [5], [0, 1, 2, 3, 4, 5, 6], [0, 1, 2, 3, 4, 5, 6, 7]], [some 22, some 23, some 24, some 25, some 26, some 27, some 28, some 29, none], [6, 8], [0, 0, 0, 0, 0, 0, 0, 1, 1], [1, 1, 1, 1, 1, 0, 1, 1, 2]⟩ : Rg) [(2, (.i c3)), (7, (.pointer (some (blk b9)))), (8, (.i s14)), (18, (.i (s6.l : Int))), (19, (.i s14))] mixed (by kernel_rfl) H ?_
  refine Stg.eff [0, 1, 2, 3, 4, 5] (by kernel_rfl) rfl (.cons ?_ (.cons ?_ (.cons ?_ (.cons ?_ (.cons ?_ (.cons ?_ .nil)))))) ?_
  ·refine Ans.mk rfl rfl fun a H => s_move H rfl rfl (lt_ rfl) fun a H => ?_
   exact Ans.fin H rfl
  ·refine Ans.mk rfl rfl fun a H => s_nil H rfl rfl (lt_ rfl) fun a H => ?_
   exact Ans.fin H rfl
  ·refine Ans.mk rfl rfl fun a H => s_fld H rfl rfl fld_104_1 (lt_ rfl) fun a H => ?_
   exact Ans.fin H rfl
  ·refine Ans.mk rfl rfl fun a H => s_load (v := l23.v) H rfl rfl one_25 hc24 (lt_ rfl) fun a H => ?_
   exact Ans.fin H rfl
  ·refine Ans.mk rfl rfl fun a H => s_move H rfl rfl (lt_ rfl) fun a H => ?_
   exact Ans.fin H rfl
  ·refine Ans.mk rfl rfl fun a H => s_move H rfl rfl (lt_ rfl) fun a H => ?_
   exact Ans.fin H rfl
  ·intro a H
   replace H := H.weaken (L' := [(27, (.i c3))]) ⟨rfl, trivial⟩
   obtain ⟨s25, w26, h27, h⟩ := h
   refine s_mk H rfl rfl rfl h27 (lt_ rfl) ?_
   clear H a h27
   intro a H
   refine c_nil ?_
   obtain ⟨hc28, a29, h30, h31, h32, h⟩ := h
   refine effQ.go [(7, (.pointer (some (a29.add (Int.toNat (s14) * 1)))))] H rfl rfl <| Stg.eff [0, 1, 2, 3, 4, 7] (by kernel_rfl) rfl (.cons ?_ (.cons ?_ (.cons ?_ (.cons ?_ (.cons ?_ (.cons ?_ .nil)))))) ?_
   ·refine Ans.mk rfl rfl fun a H => s_move H rfl rfl (lt_ rfl) fun a H => ?_
    exact Ans.fin H rfl
   ·refine Ans.mk rfl rfl fun a H => s_nil H rfl rfl (lt_ rfl) fun a H => ?_
    exact Ans.fin H rfl
   ·refine Ans.mk rfl rfl fun a H => s_fld H rfl rfl fld_104_1 (lt_ rfl) fun a H => ?_
    exact Ans.fin H rfl
   ·refine Ans.mk rfl rfl fun a H => s_load (v := l23.v) H rfl rfl one_25 hc28 (lt_ rfl) fun a H => ?_
    exact Ans.fin H rfl
   ·refine Ans.mk rfl rfl fun a H => s_move H rfl rfl (lt_ rfl) fun a H => ?_
    exact Ans.fin H rfl
   ·refine Ans.mk rfl rfl fun a H => s_idxS (s := l23) H rfl rfl rfl slc_25 h30 h31 h32 (lt_ rfl) fun a H => ?_
    exact Ans.fin H rfl
   ·intro a H
    replace H := H.weaken (L' := [(28, s25.v), (29, (.pointer (some (a29.add (Int.toNat (s14) * 1)))))]) ⟨rfl, rfl, trivial⟩
    obtain ⟨h34, h35, h⟩ := h
    refine s_sto (p := a29.add (Int.toNat (s14) * 1)) (v := s25.v) H rfl rfl rfl rfl one_24 rfl h34 h35 ?_
    clear H
    intro H
    generalize hww33 : World.setCell w26 (a29.add (Int.toNat (s14) * 1)) s25.v = w33 at h ⊢
    have w33S : SetAt w26 (a29.add (Int.toNat (s14) * 1)) s25.v w33 := ⟨hww33.symm⟩
    clear hww33 h34 h35
    refine c_nil <| effQ.go0 [] H rfl rfl <| Stg.fin [] (by kernel_rfl) .nil ?_
    ·intro a H
     replace H := H.weaken (L' := [(2, (.i c3)), (7, (.pointer (some (blk b9)))), (18, (.i (s6.l : Int))), (19, (.i s14))]) ⟨rfl, rfl, rfl, rfl, trivial⟩
     refine hK21 _ _ <| c_reg <| s_bin H rfl rfl rfl r_add (lt_ rfl) fun a H => s_move H rfl rfl (lt_ rfl) fun a H => c_nil <| Exists.intro (wr .i64 (s14 + 1)) ⟨h.1, h.2, H.weaken ⟨rfl, rfl, rfl, rfl, trivial⟩⟩
 ·replace h := h.2 h20
  refine c_exit ?_
  first | (simp only [Exit.then, Exit.inBlock, ↓reduceIte]; fail_if_success simp only [Nat.reduceEqDiff]) | simp only [Exit.then, Exit.inBlock, ↓reduceIte, Nat.reduceEqDiff]
  refine hK12 _ _ <| c_seq fun K36 hK36 => c_reg <| s_move H rfl rfl (lt_ rfl) fun a H => s_assign H rfl rfl (lt_ rfl) fun a H => c_nil <| hK36 _ _ <| c_ret ?_
  exact e_ret1 H rfl rfl h

theorem sim_matrix_eliminate (f1 : Option Addr) (r2 : Slc) (c3 : Int) (w : World) (Q : Ending → World → Prop) (h : vc_matrix_eliminate f1 r2 c3 w Q) : Calls PP F_matrix_eliminate #[(.pointer f1), r2.v, (.i c3)] w Q := by
 unfold vc_matrix_eliminate at h
 refine enter (n := 87) Tryd.func50 rfl rfl (Nat.le_of_ble_eq_true rfl) fun a H => c_seq fun K4 hK4 => c_reg ?_
 replace h := h.get
 obtain ⟨b5, w6, n7, h⟩ := h
 refine s_box H rfl rfl (lt_ rfl) ?_
 rw [← n7.at_]
 clear H a
 intro a H
 refine n7.go ?_
 replace h := h.get
 obtain ⟨b8, w9, n10, h⟩ := h
 refine s_box H rfl rfl (lt_ rfl) ?_
 rw [← n10.at_]
 clear H a
 intro a H
 refine n10.go <| s_assign H rfl rfl (lt_ rfl) fun a H => c_nil <| hK4 _ _ <| c_scope <| c_seq fun K11 hK11 => c_reg <| s_assign H rfl rfl (lt_ rfl) fun a H => c_nil <| hK11 _ _ <| c_seq fun K12 hK12 => c_reg <| s_mkf H rfl (H.args (vs := [(.pointer (some (blk b8)))]) rfl) (lt_ rfl) fun a H => s_assign H rfl rfl (lt_ rfl) fun a H => c_nil <| hK12 _ _ <| c_seq fun K13 hK13 => c_reg ?_
 refine s_mkf H rfl (H.args (vs := [(.pointer (some (blk b5))), (.pointer (some (blk b8)))]) rfl) (lt_ rfl) fun a H => s_assign H rfl rfl (lt_ rfl) fun a H => c_nil <| hK13 _ _ <| c_seq fun K14 hK14 => c_reg <| s_mkf H rfl (H.args (vs := [(.pointer (some (blk b8))), (.pointer (some (blk b5)))]) rfl) (lt_ rfl) fun a H => s_assign H rfl rfl (lt_ rfl) fun a H => c_nil <| hK14 _ _ <| c_seq fun K15 hK15 => c_label <| hK15 _ _ <| c_seq fun K16 hK16 => c_seq fun K17 hK17 => c_reg ?_
 refine s_move H rfl rfl (lt_ rfl) fun a H => s_move H rfl rfl (lt_ rfl) fun a H => c_nil <| hK17 _ _ <| c_block ?_
 obtain ⟨I21, m22, h144, h145⟩ := h
 refine c_loop (σ := Slc × Int) (fun z w => I21 z.1 z.2 w) (fun z w => m22 z.1 z.2 w) (fun z => [(3, (.pointer (some (blk b5)))), (4, (.pointer (some (blk b8)))), (7, z.1.v), (8, (.func (.func F_matrix_eliminate_c1) #[] #[(.pointer (some (blk b8)))])), (9, (.func (.func F_matrix_eliminate_c2) #[] #[(.pointer (some (blk b5))), (.pointer (some (blk b8)))])), (10, (.func (.func F_matrix_eliminate_c3) #[] #[(.pointer (some (blk b8))), (.pointer (some (blk b5)))])), (20, (.i c3)), (21, (.i z.2))]) (Slc.nil, 0) h144 (H.weaken ⟨rfl, rfl, rfl, rfl, rfl, rfl, rfl, rfl, trivial⟩) ?_
 clear H h144
 rintro ⟨p18, s19⟩ a w20 h H
 replace h := h145 p18 s19 w20 h
 clear h145
 replace H : Has 87 [] a [(3, (.pointer (some (blk b5)))), (4, (.pointer (some (blk b8)))), (7, p18.v), (8, (.func (.func F_matrix_eliminate_c1) #[] #[(.pointer (some (blk b8)))])), (9, (.func (.func F_matrix_eliminate_c2) #[] #[(.pointer (some (blk b5))), (.pointer (some (blk b8)))])), (10, (.func (.func F_matrix_eliminate_c3) #[] #[(.pointer (some (blk b8))), (.pointer (some (blk b5)))])), (20, (.i c3)), (21, (.i s19))] := H
 refine c_seq fun K23 hK23 => c_reg <| s_bin H rfl rfl rfl r_lss (lt_ rfl) fun a H => c_nil <| hK23 _ _ <| c_seq fun K24 hK24 => c_cond H rfl (fun h25 => ?_) (fun h25 => ?_)
 ·replace h := h.1 h25
  refine c_skip <| hK24 _ _ <| c_seq fun K26 hK26 => ?_
  obtain ⟨R28, h, h142⟩ := h
  have h30 : ∀ (a : Act) (p27 : Slc) (w29 : World), R28 p27 w29 → Has 87 [] a [(3, (.pointer (some (blk b5)))), (4, (.pointer (some (blk b8)))), (7, p27.v), (8, (.func (.func F_matrix_eliminate_c1) #[] #[(.pointer (some (blk b8)))])), (9, (.func (.func F_matrix_eliminate_c2) #[] #[(.pointer (some (blk b5))), (.pointer (some (blk b8)))])), (10, (.func (.func F_matrix_eliminate_c3) #[] #[(.pointer (some (blk b8))), (.pointer (some (blk b5)))])), (20, (.i c3)), (21, (.i s19))] → K26 a w29 := by
   clear h
   intro a p27 w29 h H
   replace h := h142 p27 w29 h
   refine hK26 _ _ <| c_reg <| s_bin H rfl rfl rfl r_add (lt_ rfl) fun a H => s_move H rfl rfl (lt_ rfl) fun a H => c_nil <| Exists.intro (p27, wr .i64 (s19 + 1)) ⟨h.1, h.2, H.weaken ⟨rfl, rfl, rfl, rfl, rfl, rfl, rfl, rfl, trivial⟩⟩
  clear h142
  refine c_block <| c_seq fun K31 hK31 => c_reg <| s_move H rfl rfl (lt_ rfl) fun a H => s_assign H rfl rfl (lt_ rfl) fun a H => c_nil <| hK31 _ _ <| c_seq fun K32 hK32 => c_reg <| s_move H rfl rfl (lt_ rfl) fun a H => s_blt H rfl (H.args (vs := [p18.v]) rfl) (lt_ rfl) (fun cs => b_lenS (z := p18) sl_26) fun a H => s_assign H rfl rfl (lt_ rfl) fun a H => c_nil <| hK32 _ _ <| c_seq fun K33 hK33 => c_seq fun K34 hK34 => c_reg <| s_move H rfl rfl (lt_ rfl) fun a H => ?_
  refine s_assign H rfl rfl (lt_ rfl) fun a H => c_nil <| hK34 _ _ <| c_block ?_
  obtain ⟨I37, m38, h140, h141⟩ := h
  refine c_loop (σ := Int) (fun z w => I37 z w) (fun z w => m38 z w) (fun z => [(3, (.pointer (some (blk b5)))), (4, (.pointer (some (blk b8)))), (7, p18.v), (8, (.func (.func F_matrix_eliminate_c1) #[] #[(.pointer (some (blk b8)))])), (9, (.func (.func F_matrix_eliminate_c2) #[] #[(.pointer (some (blk b5))), (.pointer (some (blk b8)))])), (10, (.func (.func F_matrix_eliminate_c3) #[] #[(.pointer (some (blk b8))), (.pointer (some (blk b5)))])), (11, (.i s19)), (12, (.i (p18.l : Int))), (13, (.i z)), (20, (.i c3)), (21, (.i s19))]) (p18.l : Int) h140 (H.weaken ⟨rfl, rfl, rfl, rfl, rfl, rfl, rfl, rfl, rfl, rfl, rfl, trivial⟩) ?_
  clear H h140
  rintro i35 a w36 h H
  replace h := h141 i35 w36 h
  clear h141
  replace H : Has 87 [] a [(3, (.pointer (some (blk b5)))), (4, (.pointer (some (blk b8)))), (7, p18.v), (8, (.func (.func F_matrix_eliminate_c1) #[] #[(.pointer (some (blk b8)))])), (9, (.func (.func F_matrix_eliminate_c2) #[] #[(.pointer (some (blk b5))), (.pointer (some (blk b8)))])), (10, (.func (.func F_matrix_eliminate_c3) #[] #[(.pointer (some (blk b8))), (.pointer (some (blk b5)))])), (11, (.i s19)), (12, (.i (p18.l : Int))), (13, (.i i35)), (20, (.i c3)), (21, (.i s19))] := H
  refine c_seq fun K39 hK39 => c_block <| c_seq fun K40 hK40 => c_seq fun K41 hK41 => c_reg <| s_move H rfl rfl (lt_ rfl) fun a H => ?_
  obtain ⟨l42, hc43, h⟩ := h
  refine s_load (v := l42.v) H rfl rfl one_25 hc43 (lt_ rfl) fun a H => s_blt H rfl (H.args (vs := [l42.v]) rfl) (lt_ rfl) (fun cs => b_lenS (z := l42) sl_25) fun a H => s_bin H rfl rfl rfl r_geq (lt_ rfl) fun a H => c_nil <| hK41 _ _ <| c_cond H rfl (fun h44 => ?_) (fun h44 => ?_)
  ·replace h := h.1 h44
   refine c_exit ?_
   first | (simp only [Exit.then, Exit.inBlock, ↓reduceIte]; fail_if_success simp only [Nat.reduceEqDiff]) | simp only [Exit.then, Exit.inBlock, ↓reduceIte, Nat.reduceEqDiff]
   exact h30 _ _ _ h (H.weaken ⟨rfl, rfl, rfl, rfl, rfl, rfl, rfl, rfl, trivial⟩)
  ·replace h := h.2 h44
   refine c_skip <| hK40 _ _ <| c_seq fun K45 hK45 => c_reg ?_
   obtain ⟨l46, hc47, h⟩ := h
   refine s_load (v := l46.v) H rfl rfl one_25 hc47 (lt_ rfl) fun a H => s_move H rfl rfl (lt_ rfl) fun a H => ?_
   obtain ⟨a48, h49, h50, h51, h⟩ := h
   refine s_idxS (s := l46) H rfl rfl rfl slc_25 h49 h50 h51 (lt_ rfl) fun a H => ?_
   obtain ⟨l52, hc53, h⟩ := h
   refine s_load (v := l52.v) H rfl rfl one_24 hc53 (lt_ rfl) fun a H => s_move H rfl rfl (lt_ rfl) fun a H => ?_
   obtain ⟨a54, h55, h56, h57, h⟩ := h
   refine s_idxS (s := l52) H rfl rfl rfl slc_24 h55 h56 h57 (lt_ rfl) fun a H => ?_
   obtain ⟨l58, hc59, h⟩ := h
   refine s_load (v := (.int .u8 l58)) H rfl rfl one_5 hc59 (lt_ rfl) fun a H => s_bin H rfl rfl rfl r_neq (lt_ rfl) fun a H => c_nil <| hK45 _ _ <| c_cond H rfl (fun h60 => ?_) (fun h60 => ?_)
   ·replace h := h.1 h60
    refine c_seq fun K61 hK61 => c_reg ?_
    iterate 3 refine s_move H rfl rfl (lt_ rfl) fun a H => ?_
    refine s_callV H rfl rfl (H.args (vs := [(.i (p18.l : Int)), (.i i35)]) rfl) (lt_ rfl) ⟨_, _, rfl, body_62, h⟩ ?_ (fun c w' h H => e_panic (P := PP) (fn := Tryd.f50) H h)
    clear H h a
    rintro _ w62 a ⟨rfl, h⟩ H
    refine c_nil <| hK61 _ _ <| c_exit ?_
    first | (simp only [Exit.then, Exit.inBlock, ↓reduceIte]; fail_if_success simp only [Nat.reduceEqDiff]) | simp only [Exit.then, Exit.inBlock, ↓reduceIte, Nat.reduceEqDiff]
    refine hK33 _ _ <| c_seq fun K63 hK63 => ?_
    replace H := H.weaken (L' := [(3, (.pointer (some (blk b5)))), (4, (.pointer (some (blk b8)))), (7, p18.v), (8, (.func (.func F_matrix_eliminate_c1) #[] #[(.pointer (some (blk b8)))])), (9, (.func (.func F_matrix_eliminate_c2) #[] #[(.pointer (some (blk b5))), (.pointer (some (blk b8)))])), (10, (.func (.func F_matrix_eliminate_c3) #[] #[(.pointer (some (blk b8))), (.pointer (some (blk b5)))])), (11, (.i s19)), (12, (.i (p18.l : Int))), (20, (.i c3)), (21, (.i s19))]) ⟨rfl, rfl, rfl, rfl, rfl, rfl, rfl, rfl, rfl, rfl, trivial⟩
    obtain ⟨l64, hc65, l66, hc67, a68, h69, h70, h71, l72, hc73, a74, h75, h76, h77, l78, hc79, h⟩ := h
    refine c_any (V := [(0, (.pointer l64)), (1, l66.v), (2, (.i (p18.l : Int))), (3, (.pointer (some (a68.add (Int.toNat ((p18.l : Int)) * 1))))), (4, l72.v), (5, (.i s19)), (6, (.pointer (some (a74.add (Int.toNat (s19) * 1))))), (7, (.int .u8 l78))]) (⟨[[], [], [], [1, 2], [3], [], [4, 5], [6], [0, 7], [8], [9], [9], [0, 1, 2, 3, 4, 5, 6, 7, 8, 9, 10], [0, 1, 2, 3, 4, 5, 6, 7, 8, 9, 10, 11, 12]], [some 46, some 47, some 48, some 49, some 50, some 51, some 52, some 53, some 54, some 45, some 55, some 56, some 14, some 15], [8], [0, 0, 0, 0, 0, 0, 0, 0, 0, 1, 1, 1, 1, 1], [0, 0, 0, 0, 0, 0, 0, 0, 1, 1, 1, 1, 1, 1]⟩ : Rg) [(3, (.pointer (some (blk b5)))), (4, (.pointer (some (blk b8)))), (7, p18.v), (8, (.func (.func F_matrix_eliminate_c1) #[] #[(.pointer (some (blk b8)))])), (9, (.func (.func F_matrix_eliminate_c2) #[] #[(.pointer (some (blk b5))), (.pointer (some (blk b8)))])), (10, (.func (.func F_matrix_eliminate_c3) #[] #[(.pointer (some (blk b8))), (.pointer (some (blk b5)))])), (11, (.i s19)), (12, (.i (p18.l : Int))), (20, (.i c3)), (21, (.i s19))] mixed (by kernel_rfl) H ?_
    refine Stg.eff [0, 1, 2, 3, 4, 5, 6, 7] (by kernel_rfl) rfl (.cons ?_ (.cons ?_ (.cons ?_ (.cons ?_ (.cons ?_ (.cons ?_ (.cons ?_ (.cons ?_ .nil)))))))) ?_
    ·refine Ans.mk rfl rfl fun a H => s_load (v := (.pointer l64)) H rfl rfl one_65 hc65 (lt_ rfl) fun a H => ?_
     exact Ans.fin H rfl
    ·refine Ans.mk rfl rfl fun a H => s_load (v := l66.v) H rfl rfl one_25 hc67 (lt_ rfl) fun a H => ?_
     exact Ans.fin H rfl
    ·refine Ans.mk rfl rfl fun a H => s_move H rfl rfl (lt_ rfl) fun a H => ?_
     exact Ans.fin H rfl
    ·refine Ans.mk rfl rfl fun a H => s_idxS (s := l66) H rfl rfl rfl slc_25 h69 h70 h71 (lt_ rfl) fun a H => ?_
     exact Ans.fin H rfl
    ·refine Ans.mk rfl rfl fun a H => s_load (v := l72.v) H rfl rfl one_24 hc73 (lt_ rfl) fun a H => ?_
     exact Ans.fin H rfl
    ·refine Ans.mk rfl rfl fun a H => s_move H rfl rfl (lt_ rfl) fun a H => ?_
     exact Ans.fin H rfl
    ·refine Ans.mk rfl rfl fun a H => s_idxS (s := l72) H rfl rfl rfl slc_24 h75 h76 h77 (lt_ rfl) fun a H => ?_
     exact Ans.fin H rfl
    ·refine Ans.mk rfl rfl fun a H => s_load (v := (.int .u8 l78)) H rfl rfl one_5 hc79 (lt_ rfl) fun a H => ?_
     exact Ans.fin H rfl
    ·intro a H
     replace H := H.weaken (L' := [(46, (.pointer l64)), (53, (.int .u8 l78))]) ⟨rfl, rfl, trivial⟩
     refine s_call H rfl body_65 (H.args (vs := [(.pointer l64), (.int .u8 l78)]) rfl) (lt_ rfl) h ?_ (fun c w' h H => e_panic (P := PP) (fn := Tryd.f50) H h)
     clear H h a
     rintro _ w80 a ⟨I81, I82, rfl, h⟩ H
     refine c_nil <| effQ.go [(9, (.tuple #[(.int .u8 I81), (.i I82)])), (10, (.int .u8 I81)), (11, (.i I82)), (12, (.int .u8 I81)), (13, (.i I82))] H rfl rfl <| Stg.fin [9, 10, 11, 12, 13] (by kernel_rfl) (.cons ?_ (.cons ?_ (.cons ?_ (.cons ?_ (.cons ?_ .nil))))) ?_
     ·refine Ans.mk rfl rfl fun a H => s_move H rfl rfl (lt_ rfl) fun a H => ?_
      exact Ans.fin H rfl
     ·refine Ans.mk rfl rfl fun a H => s_ext H rfl rfl rfl (lt_ rfl) fun a H => ?_
      exact Ans.fin H rfl
     ·refine Ans.mk rfl rfl fun a H => s_ext H rfl rfl rfl (lt_ rfl) fun a H => ?_
      exact Ans.fin H rfl
     ·refine Ans.mk rfl rfl fun a H => s_assign H rfl rfl (lt_ rfl) fun a H => ?_
      exact Ans.fin H rfl
     ·refine Ans.mk rfl rfl fun a H => s_assign H rfl rfl (lt_ rfl) fun a H => ?_
      exact Ans.fin H rfl
     ·intro a H
      replace H := H.weaken (L' := [(3, (.pointer (some (blk b5)))), (4, (.pointer (some (blk b8)))), (7, p18.v), (8, (.func (.func F_matrix_eliminate_c1) #[] #[(.pointer (some (blk b8)))])), (9, (.func (.func F_matrix_eliminate_c2) #[] #[(.pointer (some (blk b5))), (.pointer (some (blk b8)))])), (10, (.func (.func F_matrix_eliminate_c3) #[] #[(.pointer (some (blk b8))), (.pointer (some (blk b5)))])), (11, (.i s19)), (12, (.i (p18.l : Int))), (14, (.int .u8 I81)), (20, (.i c3)), (21, (.i s19))]) ⟨rfl, rfl, rfl, rfl, rfl, rfl, rfl, rfl, rfl, rfl, rfl, trivial⟩
      refine hK63 _ _ <| c_seq fun K83 hK83 => c_reg ?_
      iterate 3 refine s_move H rfl rfl (lt_ rfl) fun a H => ?_
      refine s_callV H rfl rfl (H.args (vs := [(.i (p18.l : Int)), (.int .u8 I81)]) rfl) (lt_ rfl) ⟨_, _, rfl, body_64, h⟩ ?_ (fun c w' h H => e_panic (P := PP) (fn := Tryd.f50) H h)
      clear H h a
      rintro _ w84 a ⟨rfl, h⟩ H
      refine c_nil <| hK83 _ _ <| c_seq fun K85 hK85 => c_seq fun K86 hK86 => c_reg ?_
      obtain ⟨l87, hc88, h⟩ := h
      refine s_load (v := l87.v) H rfl rfl one_25 hc88 (lt_ rfl) fun a H => s_blt H rfl (H.args (vs := [l87.v]) rfl) (lt_ rfl) (fun cs => b_lenS (z := l87) sl_25) fun a H => s_move H rfl rfl (lt_ rfl) fun a H => c_nil <| hK86 _ _ <| c_block ?_
      obtain ⟨I91, m92, h128, h129⟩ := h
      refine c_loop (σ := Int) (fun z w => I91 z w) (fun z w => m92 z w) (fun z => [(3, (.pointer (some (blk b5)))), (4, (.pointer (some (blk b8)))), (7, p18.v), (8, (.func (.func F_matrix_eliminate_c1) #[] #[(.pointer (some (blk b8)))])), (9, (.func (.func F_matrix_eliminate_c2) #[] #[(.pointer (some (blk b5))), (.pointer (some (blk b8)))])), (10, (.func (.func F_matrix_eliminate_c3) #[] #[(.pointer (some (blk b8))), (.pointer (some (blk b5)))])), (11, (.i s19)), (12, (.i (p18.l : Int))), (20, (.i c3)), (21, (.i s19)), (62, (.i (l87.l : Int))), (63, (.i z))]) 0 h128 (H.weaken ⟨rfl, rfl, rfl, rfl, rfl, rfl, rfl, rfl, rfl, rfl, rfl, rfl, trivial⟩) ?_
      clear H h128
      rintro s89 a w90 h H
      replace h := h129 s89 w90 h
      clear h129
      replace H : Has 87 [] a [(3, (.pointer (some (blk b5)))), (4, (.pointer (some (blk b8)))), (7, p18.v), (8, (.func (.func F_matrix_eliminate_c1) #[] #[(.pointer (some (blk b8)))])), (9, (.func (.func F_matrix_eliminate_c2) #[] #[(.pointer (some (blk b5))), (.pointer (some (blk b8)))])), (10, (.func (.func F_matrix_eliminate_c3) #[] #[(.pointer (some (blk b8))), (.pointer (some (blk b5)))])), (11, (.i s19)), (12, (.i (p18.l : Int))), (20, (.i c3)), (21, (.i s19)), (62, (.i (l87.l : Int))), (63, (.i s89))] := H
      refine c_seq fun K93 hK93 => c_reg <| s_bin H rfl rfl rfl r_lss (lt_ rfl) fun a H => c_nil <| hK93 _ _ <| c_seq fun K94 hK94 => c_cond H rfl (fun h95 => ?_) (fun h95 => ?_)
      ·replace h := h.1 h95
       refine c_skip <| hK94 _ _ <| c_seq fun K96 hK96 => ?_
       obtain ⟨R97, h, h121⟩ := h
       have h99 : ∀ (a : Act) (w98 : World), R97 w98 → Has 87 [] a [(3, (.pointer (some (blk b5)))), (4, (.pointer (some (blk b8)))), (7, p18.v), (8, (.func (.func F_matrix_eliminate_c1) #[] #[(.pointer (some (blk b8)))])), (9, (.func (.func F_matrix_eliminate_c2) #[] #[(.pointer (some (blk b5))), (.pointer (some (blk b8)))])), (10, (.func (.func F_matrix_eliminate_c3) #[] #[(.pointer (some (blk b8))), (.pointer (some (blk b5)))])), (11, (.i s19)), (12, (.i (p18.l : Int))), (20, (.i c3)), (21, (.i s19)), (62, (.i (l87.l : Int))), (63, (.i s89))] → K96 a w98 := by
        clear h
        intro a w98 h H
        replace h := h121 w98 h
        refine hK96 _ _ <| c_reg <| s_bin H rfl rfl rfl r_add (lt_ rfl) fun a H => s_move H rfl rfl (lt_ rfl) fun a H => c_nil <| Exists.intro (wr .i64 (s89 + 1)) ⟨h.1, h.2, H.weaken ⟨rfl, rfl, rfl, rfl, rfl, rfl, rfl, rfl, rfl, rfl, rfl, rfl, trivial⟩⟩
       clear h121
       refine c_block <| c_seq fun K100 hK100 => c_reg <| s_move H rfl rfl (lt_ rfl) fun a H => s_assign H rfl rfl (lt_ rfl) fun a H => c_nil <| hK100 _ _ <| c_seq fun K101 hK101 => c_reg <| s_move H rfl rfl (lt_ rfl) fun a H => s_move H rfl rfl (lt_ rfl) fun a H => s_bin H rfl rfl rfl r_neq (lt_ rfl) fun a H => c_nil <| hK101 _ _ <| c_cond H rfl (fun h102 => ?_) (fun h102 => ?_)
       ·replace h := h.1 h102
        refine c_reg <| s_move H rfl rfl (lt_ rfl) fun a H => s_move H rfl rfl (lt_ rfl) fun a H => ?_
        obtain ⟨l103, hc104, h⟩ := h
        refine s_load (v := l103.v) H rfl rfl one_25 hc104 (lt_ rfl) fun a H => s_move H rfl rfl (lt_ rfl) fun a H => ?_
        obtain ⟨a105, h106, h107, h108, h⟩ := h
        refine s_idxS (s := l103) H rfl rfl rfl slc_25 h106 h107 h108 (lt_ rfl) fun a H => ?_
        obtain ⟨l109, hc110, h⟩ := h
        refine s_load (v := l109.v) H rfl rfl one_24 hc110 (lt_ rfl) fun a H => s_move H rfl rfl (lt_ rfl) fun a H => ?_
        obtain ⟨a111, h112, h113, h114, h⟩ := h
        refine s_idxS (s := l109) H rfl rfl rfl slc_24 h112 h113 h114 (lt_ rfl) fun a H => ?_
        obtain ⟨l115, hc116, h⟩ := h
        refine s_load (v := (.int .u8 l115)) H rfl rfl one_5 hc116 (lt_ rfl) fun a H => s_move H rfl rfl (lt_ rfl) fun a H => s_callV H rfl rfl (H.args (vs := [(.i s89), (.int .u8 l115), (.i (p18.l : Int))]) rfl) (lt_ rfl) ⟨_, _, rfl, body_63, h⟩ ?_ (fun c w' h H => e_panic (P := PP) (fn := Tryd.f50) H h)
        clear H h a
        rintro _ w117 a ⟨rfl, h⟩ H
        refine c_nil ?_
        exact h99 _ _ h (H.weaken ⟨rfl, rfl, rfl, rfl, rfl, rfl, rfl, rfl, rfl, rfl, rfl, rfl, trivial⟩)
       ·replace h := h.2 h102
        refine c_skip ?_
        exact h99 _ _ h (H.weaken ⟨rfl, rfl, rfl, rfl, rfl, rfl, rfl, rfl, rfl, rfl, rfl, rfl, trivial⟩)
      ·replace h := h.2 h95
       refine c_exit ?_
       first | (simp only [Exit.then, Exit.inBlock, ↓reduceIte]; fail_if_success simp only [Nat.reduceEqDiff]) | simp only [Exit.then, Exit.inBlock, ↓reduceIte, Nat.reduceEqDiff]
       refine hK85 _ _ <| c_reg <| s_move H rfl rfl (lt_ rfl) fun a H => s_move H rfl rfl (lt_ rfl) fun a H => ?_
       replace h := h.get
       obtain ⟨b122, w123, n124, h⟩ := h
       refine s_bslc H rfl (by rw [H.parts (vs := [(0, (.i s19))]) rfl]; exact bs_26_1_ii640 w90 s19) (lt_ rfl) ?_
       rw [← n124.at_]
       clear H a
       intro a H
       refine n124.go ?_
       obtain ⟨s125, w126, h127, h⟩ := h
       refine s_blt H rfl (H.args (vs := [p18.v, (Slc.v (Slc.mk (some (blk b122)) 1 1))]) rfl) (lt_ rfl) (fun cs => b_app (z := s125) h127) ?_
       clear H a h127
       intro a H
       refine s_assign H rfl rfl (lt_ rfl) fun a H => c_nil ?_
       exact h30 _ _ _ h (H.weaken ⟨rfl, rfl, rfl, rfl, rfl, rfl, rfl, rfl, trivial⟩)
   ·replace h := h.2 h60
    refine c_skip <| hK39 _ _ <| c_reg <| s_move H rfl rfl (lt_ rfl) fun a H => s_bin H rfl rfl rfl r_add (lt_ rfl) fun a H => s_assign H rfl rfl (lt_ rfl) fun a H => c_nil <| Exists.intro (wr .i64 (i35 + 1)) ⟨h.1, h.2, H.weaken ⟨rfl, rfl, rfl, rfl, rfl, rfl, rfl, rfl, rfl, rfl, rfl, trivial⟩⟩
 ·replace h := h.2 h25
  refine c_exit ?_
  first | (simp only [Exit.then, Exit.inBlock, ↓reduceIte]; fail_if_success simp only [Nat.reduceEqDiff]) | simp only [Exit.then, Exit.inBlock, ↓reduceIte, Nat.reduceEqDiff]
  refine hK16 _ _ <| c_seq fun K143 hK143 => c_reg <| s_move H rfl rfl (lt_ rfl) fun a H => s_assign H rfl rfl (lt_ rfl) fun a H => c_nil <| hK143 _ _ <| c_ret ?_
  exact e_ret1 H rfl rfl h

theorem sim_slices_Grow (s1 : Slc) (n2 : Int) (w : World) (Q : Ending → World → Prop) (h : vc_slices_Grow s1 n2 w Q) : Calls PP F_slices_Grow #[s1.v, (.i n2)] w Q := by
 unfold vc_slices_Grow at h
 refine enter (n := 27) Tryd.func55 rfl rfl (Nat.le_of_ble_eq_true rfl) fun a H => c_seq fun K3 hK3 => c_reg <| s_assign H rfl rfl (lt_ rfl) fun a H => c_nil <| hK3 _ _ <| c_seq fun K4 hK4 => ?_
 obtain ⟨R5, h, h29⟩ := h
 have h26 : ∀ (a : Act) (w6 : World), R5 w6 → Has 27 [] a [(0, s1.v), (1, (.i n2))] → K4 a w6 := by
  clear h
  intro a w6 h H
  replace h := h29 w6 h
  refine hK4 _ _ <| c_seq fun K7 hK7 => ?_
  obtain ⟨R9, h, h25⟩ := h
  have h12 : ∀ (a : Act) (s8 : Slc) (w10 : World), R9 s8 w10 → Has 27 [] a [(0, s8.v)] → K7 a w10 := by
   clear h
   intro a s8 w10 h H
   replace h := h25 s8 w10 h
   refine hK7 _ _ <| c_seq fun K11 hK11 => c_reg <| s_move H rfl rfl (lt_ rfl) fun a H => s_assign H rfl rfl (lt_ rfl) fun a H => c_nil <| hK11 _ _ <| c_ret ?_
   exact e_ret1 H rfl rfl h
  clear h25
  refine c_seq fun K13 hK13 => c_reg <| s_move H rfl rfl (lt_ rfl) fun a H => s_move H rfl rfl (lt_ rfl) fun a H => s_blt H rfl (H.args (vs := [s1.v]) rfl) (lt_ rfl) (fun cs => b_capS (z := s1) sl_24) fun a H => s_move H rfl rfl (lt_ rfl) fun a H => s_blt H rfl (H.args (vs := [s1.v]) rfl) (lt_ rfl) (fun cs => b_lenS (z := s1) sl_24) fun a H => s_bin H rfl rfl rfl r_sub (lt_ rfl) fun a H => s_bin H rfl rfl rfl r_sub (lt_ rfl) fun a H => s_assign H rfl rfl (lt_ rfl) fun a H => c_nil ?_
  refine hK13 _ _ <| c_seq fun K14 hK14 => c_reg <| s_move H rfl rfl (lt_ rfl) fun a H => s_bin H rfl rfl rfl r_gtr (lt_ rfl) fun a H => c_nil <| hK14 _ _ <| c_cond H rfl (fun h15 => ?_) (fun h15 => ?_)
  ·replace h := h.1 h15
   refine c_reg <| s_move H rfl rfl (lt_ rfl) fun a H => s_move H rfl rfl (lt_ rfl) fun a H => s_blt H rfl (H.args (vs := [s1.v]) rfl) (lt_ rfl) (fun cs => b_capS (z := s1) sl_24) fun a H => ?_
   obtain ⟨h16, h17, h18, h⟩ := h
   refine s_slice (v := (Slc.v (s1.cut 1 (Int.toNat (0)) (Int.toNat ((s1.c : Int)))))) H rfl rfl ⟨rfl, rfl⟩ ⟨rfl, rfl⟩ ⟨rfl, rfl⟩ (r_sliceSlc (lo := none) (hi := (some (.i64, (s1.c : Int)))) slc_24 rfl rfl h16 h17 h18) (lt_ rfl) fun a H => s_move H rfl rfl (lt_ rfl) fun a H => ?_
   obtain ⟨s19, w20, h21, h⟩ := h
   refine s_blt H rfl (H.args (vs := [(Slc.v (s1.cut 1 (Int.toNat (0)) (Int.toNat ((s1.c : Int))))), (.i (wr .i64 (n2 - (wr .i64 ((s1.c : Int) - (s1.l : Int))))))]) rfl) (lt_ rfl) (fun cs => b_app (z := s19) h21) ?_
   clear H a h21
   intro a H
   refine s_move H rfl rfl (lt_ rfl) fun a H => s_blt H rfl (H.args (vs := [s1.v]) rfl) (lt_ rfl) (fun cs => b_lenS (z := s1) sl_24) fun a H => ?_
   obtain ⟨h22, h23, h24, h⟩ := h
   refine s_slice (v := (Slc.v (s19.cut 1 (Int.toNat (0)) (Int.toNat ((s1.l : Int)))))) H rfl rfl ⟨rfl, rfl⟩ ⟨rfl, rfl⟩ ⟨rfl, rfl⟩ (r_sliceSlc (lo := none) (hi := (some (.i64, (s1.l : Int)))) slc_24 rfl rfl h22 h23 h24) (lt_ rfl) fun a H => s_assign H rfl rfl (lt_ rfl) fun a H => c_nil ?_
   exact h12 _ _ _ h (H.weaken ⟨rfl, trivial⟩)
  ·replace h := h.2 h15
   refine c_skip ?_
   exact h12 _ _ _ h (H.weaken ⟨rfl, trivial⟩)
 clear h29
 refine c_seq fun K27 hK27 => c_reg <| s_move H rfl rfl (lt_ rfl) fun a H => s_bin H rfl rfl rfl r_lss (lt_ rfl) fun a H => c_nil <| hK27 _ _ <| c_cond H rfl (fun h28 => ?_) (fun h28 => ?_)
 ·replace h := h.1 h28
  refine c_reg <| s_iface H rfl rfl ni_9 (lt_ rfl) fun a H => ?_
  exact s_panic H rfl rfl (fun H => e_panic (P := PP) (fn := Tryd.f55) H h)
 ·replace h := h.2 h28
  refine c_skip ?_
  exact h26 _ _ h (H.weaken ⟨rfl, rfl, trivial⟩)

theorem sim_slices_IndexFunc_byte_byte_56 (s1 : Slc) (f2 : Value) (w : World) (Q : Ending → World → Prop) (h : vc_slices_IndexFunc_byte_byte_56 s1 f2 w Q) : Calls PP F_slices_IndexFunc_byte_byte_56 #[s1.v, f2] w Q := by
 unfold vc_slices_IndexFunc_byte_byte_56 at h
 refine enter (n := 19) Tryd.func56 rfl rfl (Nat.le_of_ble_eq_true rfl) fun a H => c_seq fun K3 hK3 => c_reg <| s_assign H rfl rfl (lt_ rfl) fun a H => c_nil <| hK3 _ _ <| c_seq fun K4 hK4 => c_seq fun K5 hK5 => c_reg <| s_move H rfl rfl (lt_ rfl) fun a H => s_blt H rfl (H.args (vs := [s1.v]) rfl) (lt_ rfl) (fun cs => b_lenS (z := s1) sl_24) fun a H => s_move H rfl rfl (lt_ rfl) fun a H => c_nil <| hK5 _ _ <| c_block ?_
 obtain ⟨I8, m9, h30, h31⟩ := h
 refine c_loop (σ := Int) (fun z w => I8 z w) (fun z w => m9 z w) (fun z => [(0, s1.v), (1, f2), (7, (.i (s1.l : Int))), (8, (.i z))]) 0 h30 (H.weaken ⟨rfl, rfl, rfl, rfl, trivial⟩) ?_
 clear H h30
 rintro s6 a w7 h H
 replace h := h31 s6 w7 h
 clear h31
 replace H : Has 19 [] a [(0, s1.v), (1, f2), (7, (.i (s1.l : Int))), (8, (.i s6))] := H
 refine c_seq fun K10 hK10 => c_reg <| s_bin H rfl rfl rfl r_lss (lt_ rfl) fun a H => c_nil <| hK10 _ _ <| c_seq fun K11 hK11 => c_cond H rfl (fun h12 => ?_) (fun h12 => ?_)
 ·replace h := h.1 h12
  refine c_skip <| hK11 _ _ <| c_seq fun K13 hK13 => c_block <| c_seq fun K14 hK14 => c_reg <| s_move H rfl rfl (lt_ rfl) fun a H => s_assign H rfl rfl (lt_ rfl) fun a H => c_nil <| hK14 _ _ <| c_seq fun K15 hK15 => c_reg ?_
  iterate 3 refine s_move H rfl rfl (lt_ rfl) fun a H => ?_
  obtain ⟨a16, h17, h18, h19, h⟩ := h
  refine s_idxS (s := s1) H rfl rfl rfl slc_24 h17 h18 h19 (lt_ rfl) fun a H => ?_
  obtain ⟨l20, hc21, h⟩ := h
  refine s_load (v := (.int .u8 l20)) H rfl rfl one_5 hc21 (lt_ rfl) fun a H => s_callV H rfl rfl (H.args (vs := [(.int .u8 l20)]) rfl) (lt_ rfl) h ?_ (fun c w' h H => e_panic (P := PP) (fn := Tryd.f56) H h)
  clear H h a
  rintro _ w22 a ⟨r23, rfl, h⟩ H
  refine c_nil <| hK15 _ _ <| c_cond H rfl (fun h24 => ?_) (fun h24 => ?_)
  ·replace h := h.1 h24
   refine c_seq fun K25 hK25 => c_reg <| s_move H rfl rfl (lt_ rfl) fun a H => s_assign H rfl rfl (lt_ rfl) fun a H => c_nil <| hK25 _ _ <| c_ret ?_
   exact e_ret1 H rfl rfl h
  ·replace h := h.2 h24
   refine c_skip <| hK13 _ _ <| c_reg <| s_bin H rfl rfl rfl r_add (lt_ rfl) fun a H => s_move H rfl rfl (lt_ rfl) fun a H => c_nil <| Exists.intro (wr .i64 (s6 + 1)) ⟨h.1, h.2, H.weaken ⟨rfl, rfl, rfl, rfl, trivial⟩⟩
 ·replace h := h.2 h12
  refine c_exit ?_
  first | (simp only [Exit.then, Exit.inBlock, ↓reduceIte]; fail_if_success simp only [Nat.reduceEqDiff]) | simp only [Exit.then, Exit.inBlock, ↓reduceIte, Nat.reduceEqDiff]
  refine hK4 _ _ <| c_seq fun K29 hK29 => c_reg <| s_assign H rfl rfl (lt_ rfl) fun a H => c_nil <| hK29 _ _ <| c_ret ?_
  exact e_ret1 H rfl rfl h

theorem sim_matrix_sized (f1 : Option Addr) (r2 c3 : Int) (w : World) (Q : Ending → World → Prop) (h : vc_matrix_sized f1 r2 c3 w Q) : Calls PP F_matrix_sized #[(.pointer f1), (.i r2), (.i c3)] w Q := by
 unfold vc_matrix_sized at h
 refine enter (n := 24) Tryd.func57 rfl rfl (Nat.le_of_ble_eq_true rfl) fun a H => c_seq fun K4 hK4 => c_reg <| s_assign H rfl rfl (lt_ rfl) fun a H => c_nil <| hK4 _ _ <| c_seq fun K5 hK5 => c_block <| c_seq fun K6 hK6 => c_reg <| s_move H rfl rfl (lt_ rfl) fun a H => s_bin H rfl rfl rfl (r_eqP0 ptr_65) (lt_ rfl) fun a H => s_assign H rfl rfl (lt_ rfl) fun a H => c_nil <| hK6 _ _ <| c_cond H rfl (fun h7 => ?_) (fun h7 => ?_)
 ·replace h := h.1 h7
  refine c_seq fun K8 hK8 => c_reg <| s_assign H rfl rfl (lt_ rfl) fun a H => c_nil <| hK8 _ _ <| c_ret ?_
  exact e_ret1 H rfl rfl h
 ·replace h := h.2 h7
  refine c_seq fun K9 hK9 => c_reg <| s_move H rfl rfl (lt_ rfl) fun a H => s_bin H rfl rfl rfl r_lss (lt_ rfl) fun a H => s_move H rfl rfl (lt_ rfl) fun a H => g_join (n := 24) [(16, (.bool ((decide (r2 < 1)) || (decide (c3 < 1))))), (1, (.i r2)), (2, (.i c3))] (.succ (.succ (.succ (.zero _)))) ?_ ?_
  ·intro h11
   try clear h
   rcases Bool.eq_false_or_eq_true (decide (r2 < 1)) with h10 | h10
   ·replace H := H.ch (t := 13) (b := true) rfl h10
    refine s_skip H (wantN H rfl rfl rfl) rfl (lt_ rfl) fun a H => s_skip H (wantN H rfl rfl rfl) rfl (lt_ rfl) fun a H => s_pickT H rfl rfl rfl (lt_ rfl) fun a H => ?_
    exact h11 _ (H.weaken ⟨by rw [h10]; rfl, rfl, rfl, trivial⟩)
   ·replace H := H.ch (t := 13) (b := false) rfl h10
    refine s_move H (wantG H rfl rfl) rfl (lt_ rfl) fun a H => s_bin H (wantG H rfl rfl) rfl rfl r_lss (lt_ rfl) fun a H => s_pickF H rfl rfl rfl (lt_ rfl) fun a H => ?_
    exact h11 _ (H.weaken ⟨by rw [h10]; rfl, rfl, rfl, trivial⟩)
  ·clear H a
   intro a H
   refine s_assign H rfl rfl (lt_ rfl) fun a H => c_nil <| hK9 _ _ <| c_cond H rfl (fun h12 => ?_) (fun h12 => ?_)
   ·replace h := h.1 h12
    refine c_seq fun K13 hK13 => c_reg <| s_assign H rfl rfl (lt_ rfl) fun a H => c_nil <| hK13 _ _ <| c_ret ?_
    exact e_ret1 H rfl rfl h
   ·replace h := h.2 h12
    refine c_seq fun K14 hK14 => c_reg <| s_move H rfl rfl (lt_ rfl) fun a H => s_bin H rfl rfl rfl r_gtr (lt_ rfl) fun a H => s_move H rfl rfl (lt_ rfl) fun a H => g_join (n := 24) [(23, (.bool ((decide (256 < r2)) || (decide (256 < c3)))))] (.succ (.succ (.succ (.zero _)))) ?_ ?_
    ·intro h16
     try clear h
     rcases Bool.eq_false_or_eq_true (decide (256 < r2)) with h15 | h15
     ·replace H := H.ch (t := 20) (b := true) rfl h15
      refine s_skip H (wantN H rfl rfl rfl) rfl (lt_ rfl) fun a H => s_skip H (wantN H rfl rfl rfl) rfl (lt_ rfl) fun a H => s_pickT H rfl rfl rfl (lt_ rfl) fun a H => ?_
      exact h16 _ (H.weaken ⟨by rw [h15]; rfl, trivial⟩)
     ·replace H := H.ch (t := 20) (b := false) rfl h15
      refine s_move H (wantG H rfl rfl) rfl (lt_ rfl) fun a H => s_bin H (wantG H rfl rfl) rfl rfl r_gtr (lt_ rfl) fun a H => s_pickF H rfl rfl rfl (lt_ rfl) fun a H => ?_
      exact h16 _ (H.weaken ⟨by rw [h15]; rfl, trivial⟩)
    ·clear H a
     intro a H
     refine s_assign H rfl rfl (lt_ rfl) fun a H => c_nil <| hK14 _ _ <| c_cond H rfl (fun h17 => ?_) (fun h17 => ?_)
     ·replace h := h.1 h17
      refine c_seq fun K18 hK18 => c_reg <| s_assign H rfl rfl (lt_ rfl) fun a H => c_nil <| hK18 _ _ <| c_ret ?_
      exact e_ret1 H rfl rfl h
     ·replace h := h.2 h17
      refine c_skip <| hK5 _ _ <| c_seq fun K19 hK19 => c_reg <| s_assign H rfl rfl (lt_ rfl) fun a H => c_nil <| hK19 _ _ <| c_ret ?_
      exact e_ret1 H rfl rfl h

theorem sim_gf_Field_Mul (f1 : Option Addr) (a2 b3 : Int) (w : World) (Q : Ending → World → Prop) (h : vc_gf_Field_Mul f1 a2 b3 w Q) : Calls PP F_gf_Field_Mul #[(.pointer f1), (.int .u8 a2), (.int .u8 b3)] w Q := by
 unfold vc_gf_Field_Mul at h
 refine enter (n := 35) Tryd.func58 rfl rfl (Nat.le_of_ble_eq_true rfl) fun a H => c_seq fun K4 hK4 => c_reg <| s_assign H rfl rfl (lt_ rfl) fun a H => c_nil <| hK4 _ _ <| c_seq fun K5 hK5 => c_seq fun K6 hK6 => c_reg <| s_move H rfl rfl (lt_ rfl) fun a H => s_bin H rfl rfl rfl (r_eqP0 ptr_65) (lt_ rfl) fun a H => s_move H rfl rfl (lt_ rfl) fun a H => ?_
 refine g_join (n := 35) [(12, (.bool (f1.isNone || (decide (a2 = 0))))), (0, (.pointer f1)), (1, (.int .u8 a2)), (2, (.int .u8 b3))] (.succ (.succ (.succ (.zero _)))) ?_ ?_
 ·intro h8
  try clear h
  rcases Bool.eq_false_or_eq_true f1.isNone with h7 | h7
  ·replace H := H.ch (t := 9) (b := true) rfl h7
   refine s_skip H (wantN H rfl rfl rfl) rfl (lt_ rfl) fun a H => s_skip H (wantN H rfl rfl rfl) rfl (lt_ rfl) fun a H => s_pickT H rfl rfl rfl (lt_ rfl) fun a H => ?_
   exact h8 _ (H.weaken ⟨by rw [h7]; rfl, rfl, rfl, rfl, trivial⟩)
  ·replace H := H.ch (t := 9) (b := false) rfl h7
   refine s_move H (wantG H rfl rfl) rfl (lt_ rfl) fun a H => s_bin H (wantG H rfl rfl) rfl rfl r_eql (lt_ rfl) fun a H => s_pickF H rfl rfl rfl (lt_ rfl) fun a H => ?_
   exact h8 _ (H.weaken ⟨by rw [h7]; rfl, rfl, rfl, rfl, trivial⟩)
 ·clear H a
  intro a H
  refine s_move H rfl rfl (lt_ rfl) fun a H => g_join (n := 35) [(16, (.bool ((f1.isNone || (decide (a2 = 0))) || (decide (b3 = 0))))), (0, (.pointer f1)), (1, (.int .u8 a2)), (2, (.int .u8 b3))] (.succ (.succ (.succ (.zero _)))) ?_ ?_
  ·intro h10
   try clear h
   rcases Bool.eq_false_or_eq_true (f1.isNone || (decide (a2 = 0))) with h9 | h9
   ·replace H := H.ch (t := 13) (b := true) rfl h9
    refine s_skip H (wantN H rfl rfl rfl) rfl (lt_ rfl) fun a H => s_skip H (wantN H rfl rfl rfl) rfl (lt_ rfl) fun a H => s_pickT H rfl rfl rfl (lt_ rfl) fun a H => ?_
    exact h10 _ (H.weaken ⟨by rw [h9]; rfl, rfl, rfl, rfl, trivial⟩)
   ·replace H := H.ch (t := 13) (b := false) rfl h9
    refine s_move H (wantG H rfl rfl) rfl (lt_ rfl) fun a H => s_bin H (wantG H rfl rfl) rfl rfl r_eql (lt_ rfl) fun a H => s_pickF H rfl rfl rfl (lt_ rfl) fun a H => ?_
    exact h10 _ (H.weaken ⟨by rw [h9]; rfl, rfl, rfl, rfl, trivial⟩)
  ·clear H a
   intro a H
   refine c_nil <| hK6 _ _ <| c_cond H rfl (fun h11 => ?_) (fun h11 => ?_)
   ·replace h := h.1 h11
    refine c_seq fun K12 hK12 => c_reg <| s_assign H rfl rfl (lt_ rfl) fun a H => c_nil <| hK12 _ _ <| c_ret ?_
    exact e_ret1 H rfl rfl h
   ·replace h := h.2 h11
    refine c_skip <| hK5 _ _ <| c_seq fun K13 hK13 => c_regD mixed (by kernel_rfl) ?_
    iterate 3 refine z_move H rfl rfl (lt_ rfl) fun a H => ?_
    obtain ⟨a15, h28, h⟩ := h
    revert H
    subst h28
    intro H
    refine z_nil H rfl rfl (lt_ rfl) fun a H => z_fld H rfl rfl fld_132_2 (lt_ rfl) fun a H => ?_
    obtain ⟨h16, h17, h⟩ := h
    refine z_idxA H rfl rfl rfl arr_130 h16 h17 (lt_ rfl) fun a H => ?_
    obtain ⟨l18, hc19, h⟩ := h
    refine z_load (v := (.i l18)) H rfl rfl one_3 hc19 (lt_ rfl) fun a H => z_move H rfl rfl (lt_ rfl) fun a H => z_move H rfl rfl (lt_ rfl) fun a H => z_nil H rfl rfl (lt_ rfl) fun a H => z_fld H rfl rfl fld_132_2 (lt_ rfl) fun a H => ?_
    obtain ⟨h20, h21, h⟩ := h
    refine z_idxA H rfl rfl rfl arr_130 h20 h21 (lt_ rfl) fun a H => ?_
    obtain ⟨l22, hc23, h⟩ := h
    refine z_load (v := (.i l22)) H rfl rfl one_3 hc23 (lt_ rfl) fun a H => z_bin H rfl rfl rfl r_add (lt_ rfl) fun a H => z_nil H rfl rfl (lt_ rfl) fun a H => z_fld H rfl rfl fld_132_1 (lt_ rfl) fun a H => ?_
    obtain ⟨h24, h25, h⟩ := h
    refine z_idxA H rfl rfl rfl arr_129 h24 h25 (lt_ rfl) fun a H => ?_
    obtain ⟨l26, hc27, h⟩ := h
    refine z_load (v := (.int .u8 l26)) H rfl rfl one_5 hc27 (lt_ rfl) fun a H => z_assign H rfl rfl (lt_ rfl) fun a H => wpQuiet_nil ?_
    rintro _ ⟨k14, rfl⟩
    replace h := h k14
    refine hK13 _ _ <| c_ret ?_
    exact e_ret1 H rfl rfl h

theorem sim_gf_Field_Poly (f1 : Option Addr) (w : World) (Q : Ending → World → Prop) (h : vc_gf_Field_Poly f1 w Q) : Calls PP F_gf_Field_Poly #[(.pointer f1)] w Q := by
 unfold vc_gf_Field_Poly at h
 refine enter (n := 9) Tryd.func59 rfl rfl (Nat.le_of_ble_eq_true rfl) fun a H => c_seq fun K2 hK2 => c_reg <| s_assign H rfl rfl (lt_ rfl) fun a H => c_nil <| hK2 _ _ <| c_seq fun K3 hK3 => c_seq fun K4 hK4 => c_reg <| s_move H rfl rfl (lt_ rfl) fun a H => s_bin H rfl rfl rfl (r_eqP0 ptr_65) (lt_ rfl) fun a H => c_nil <| hK4 _ _ <| c_cond H rfl (fun h5 => ?_) (fun h5 => ?_)
 ·replace h := h.1 h5
  refine c_seq fun K6 hK6 => c_reg <| s_assign H rfl rfl (lt_ rfl) fun a H => c_nil <| hK6 _ _ <| c_ret ?_
  exact e_ret1 H rfl rfl h
 ·replace h := h.2 h5
  refine c_skip <| hK3 _ _ <| c_seq fun K7 hK7 => c_reg <| s_move H rfl rfl (lt_ rfl) fun a H => ?_
  obtain ⟨a8, h11, h⟩ := h
  revert H
  subst h11
  intro H
  refine s_nil H rfl rfl (lt_ rfl) fun a H => s_fld H rfl rfl fld_132_0 (lt_ rfl) fun a H => ?_
  obtain ⟨l9, hc10, h⟩ := h
  refine s_load (v := (.i l9)) H rfl rfl one_3 hc10 (lt_ rfl) fun a H => s_assign H rfl rfl (lt_ rfl) fun a H => c_nil <| hK7 _ _ <| c_ret ?_
  exact e_ret1 H rfl rfl h

theorem sim_slices_IndexFunc_byte_byte (s1 : Slc) (f2 : Value) (w : World) (Q : Ending → World → Prop) (h : vc_slices_IndexFunc_byte_byte s1 f2 w Q) : Calls PP F_slices_IndexFunc_byte_byte #[s1.v, f2] w Q := by
 unfold vc_slices_IndexFunc_byte_byte at h
 refine enter (n := 19) Tryd.func60 rfl rfl (Nat.le_of_ble_eq_true rfl) fun a H => c_seq fun K3 hK3 => c_reg <| s_assign H rfl rfl (lt_ rfl) fun a H => c_nil <| hK3 _ _ <| c_seq fun K4 hK4 => c_seq fun K5 hK5 => c_reg <| s_move H rfl rfl (lt_ rfl) fun a H => s_blt H rfl (H.args (vs := [s1.v]) rfl) (lt_ rfl) (fun cs => b_lenS (z := s1) sl_25) fun a H => s_move H rfl rfl (lt_ rfl) fun a H => c_nil <| hK5 _ _ <| c_block ?_
 obtain ⟨I8, m9, h30, h31⟩ := h
 refine c_loop (σ := Int) (fun z w => I8 z w) (fun z w => m9 z w) (fun z => [(0, s1.v), (1, f2), (7, (.i (s1.l : Int))), (8, (.i z))]) 0 h30 (H.weaken ⟨rfl, rfl, rfl, rfl, trivial⟩) ?_
 clear H h30
 rintro s6 a w7 h H
 replace h := h31 s6 w7 h
 clear h31
 replace H : Has 19 [] a [(0, s1.v), (1, f2), (7, (.i (s1.l : Int))), (8, (.i s6))] := H
 refine c_seq fun K10 hK10 => c_reg <| s_bin H rfl rfl rfl r_lss (lt_ rfl) fun a H => c_nil <| hK10 _ _ <| c_seq fun K11 hK11 => c_cond H rfl (fun h12 => ?_) (fun h12 => ?_)
 ·replace h := h.1 h12
  refine c_skip <| hK11 _ _ <| c_seq fun K13 hK13 => c_block <| c_seq fun K14 hK14 => c_reg <| s_move H rfl rfl (lt_ rfl) fun a H => s_assign H rfl rfl (lt_ rfl) fun a H => c_nil <| hK14 _ _ <| c_seq fun K15 hK15 => c_reg ?_
  iterate 3 refine s_move H rfl rfl (lt_ rfl) fun a H => ?_
  obtain ⟨a16, h17, h18, h19, h⟩ := h
  refine s_idxS (s := s1) H rfl rfl rfl slc_25 h17 h18 h19 (lt_ rfl) fun a H => ?_
  obtain ⟨l20, hc21, h⟩ := h
  refine s_load (v := l20.v) H rfl rfl one_24 hc21 (lt_ rfl) fun a H => s_callV H rfl rfl (H.args (vs := [l20.v]) rfl) (lt_ rfl) h ?_ (fun c w' h H => e_panic (P := PP) (fn := Tryd.f60) H h)
  clear H h a
  rintro _ w22 a ⟨r23, rfl, h⟩ H
  refine c_nil <| hK15 _ _ <| c_cond H rfl (fun h24 => ?_) (fun h24 => ?_)
  ·replace h := h.1 h24
   refine c_seq fun K25 hK25 => c_reg <| s_move H rfl rfl (lt_ rfl) fun a H => s_assign H rfl rfl (lt_ rfl) fun a H => c_nil <| hK25 _ _ <| c_ret ?_
   exact e_ret1 H rfl rfl h
  ·replace h := h.2 h24
   refine c_skip <| hK13 _ _ <| c_reg <| s_bin H rfl rfl rfl r_add (lt_ rfl) fun a H => s_move H rfl rfl (lt_ rfl) fun a H => c_nil <| Exists.intro (wr .i64 (s6 + 1)) ⟨h.1, h.2, H.weaken ⟨rfl, rfl, rfl, rfl, trivial⟩⟩
 ·replace h := h.2 h12
  refine c_exit ?_
  first | (simp only [Exit.then, Exit.inBlock, ↓reduceIte]; fail_if_success simp only [Nat.reduceEqDiff]) | simp only [Exit.then, Exit.inBlock, ↓reduceIte, Nat.reduceEqDiff]
  refine hK4 _ _ <| c_seq fun K29 hK29 => c_reg <| s_assign H rfl rfl (lt_ rfl) fun a H => c_nil <| hK29 _ _ <| c_ret ?_
  exact e_ret1 H rfl rfl h
end Go.Proofs.YteoeboeaanjehaaDoor
