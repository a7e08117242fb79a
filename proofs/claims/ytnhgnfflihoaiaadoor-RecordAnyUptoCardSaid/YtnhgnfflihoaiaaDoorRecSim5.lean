/-
  The conditions give the machine's calls; printed by vcgen.py.
-/
import Derived.Test.YtnhgnfflihoaiaaDoorRecVc
namespace Go.Proofs.YtnhgnfflihoaiaaDoor
open Go Go.Vc
set_option maxRecDepth 100000 in
set_option maxHeartbeats 4000000 in
theorem sim_slices_Grow (s1 : Slc) (n2 : Int) (w : World) (Q : Ending → World → Prop) (h : vc_slices_Grow s1 n2 w Q) : Calls PP F_slices_Grow #[(Slc.v s1), (.int .i64 n2)] w Q := by
 unfold vc_slices_Grow at h
 refine enter (n := 27) (l := [(Slc.v s1), (.int .i64 n2)]) Tryd.func71 rfl rfl (Nat.le_of_ble_eq_true rfl) fun a H => ?_
 replace H : Has 27 [] a [(0, (Slc.v s1)), (1, (.int .i64 n2))] := H
 refine c_seq fun K3 hK3 => c_reg <| s_assign H rfl rfl (lt_ rfl) fun a H => c_nil <| hK3 _ _ <| c_seq fun K4 hK4 => ?_
 obtain ⟨R5, h, hx29⟩ := h
 have hJ26 : ∀ (a : Act) (w6 : World), R5 w6 → Has 27 [] a [(0, (Slc.v s1)), (1, (.int .i64 n2))] → K4 a w6 := by
  clear h
  intro a w6 h H
  replace h := hx29 w6 h
  refine hK4 _ _ <| c_seq fun K7 hK7 => ?_
  obtain ⟨R9, h, hx25⟩ := h
  have hJ12 : ∀ (a : Act) (s8 : Slc) (w10 : World), R9 s8 w10 → Has 27 [] a [(0, (Slc.v s8))] → K7 a w10 := by
   clear h
   intro a s8 w10 h H
   replace h := hx25 s8 w10 h
   refine hK7 _ _ <| c_seq fun K11 hK11 => c_reg <| s_move H rfl rfl (lt_ rfl) fun a H => s_assign H rfl rfl (lt_ rfl) fun a H => c_nil <| hK11 _ _ <| c_ret ?_
   exact e_ret1 H rfl rfl h
  clear hx25
  refine c_seq fun K13 hK13 => c_reg <| s_move H rfl rfl (lt_ rfl) fun a H => s_move H rfl rfl (lt_ rfl) fun a H => s_blt H rfl (H.args (vs := [(Slc.v s1)]) rfl) (lt_ rfl) (fun cs => b_capS (z := s1) sl_28) fun a H => s_move H rfl rfl (lt_ rfl) fun a H => s_blt H rfl (H.args (vs := [(Slc.v s1)]) rfl) (lt_ rfl) (fun cs => b_lenS (z := s1) sl_28) fun a H => s_bin H rfl rfl rfl r_sub (lt_ rfl) fun a H => s_bin H rfl rfl rfl r_sub (lt_ rfl) fun a H => ?_
  refine s_assign H rfl rfl (lt_ rfl) fun a H => c_nil <| hK13 _ _ <| c_seq fun K14 hK14 => c_reg <| s_move H rfl rfl (lt_ rfl) fun a H => s_bin H rfl rfl rfl r_gtr (lt_ rfl) fun a H => c_nil <| hK14 _ _ <| c_cond H rfl (fun hb15 => ?_) (fun hb15 => ?_)
  ·replace h := h.1 hb15
   refine c_reg <| s_move H rfl rfl (lt_ rfl) fun a H => s_move H rfl rfl (lt_ rfl) fun a H => s_blt H rfl (H.args (vs := [(Slc.v s1)]) rfl) (lt_ rfl) (fun cs => b_capS (z := s1) sl_28) fun a H => ?_
   obtain ⟨hi16, hi17, hi18, h⟩ := h
   refine s_slice (v := (Slc.v (s1.cut 1 (Int.toNat (0)) (Int.toNat ((s1.c : Int)))))) H rfl rfl ⟨rfl, rfl⟩ ⟨rfl, rfl⟩ ⟨rfl, rfl⟩ (r_sliceSlc (lo := none) (hi := (some (.i64, (s1.c : Int)))) slc_28 rfl rfl hi16 hi17 hi18) (lt_ rfl) fun a H => s_move H rfl rfl (lt_ rfl) fun a H => ?_
   obtain ⟨s19, w20, hq21, h⟩ := h
   refine s_blt H rfl (H.args (vs := [(Slc.v (s1.cut 1 (Int.toNat (0)) (Int.toNat ((s1.c : Int))))), (.int .i64 (wr .i64 (n2 - (wr .i64 ((s1.c : Int) - (s1.l : Int))))))]) rfl) (lt_ rfl) (fun cs => b_app (z := s19) hq21) ?_
   clear H a hq21
   intro a H
   refine s_move H rfl rfl (lt_ rfl) fun a H => s_blt H rfl (H.args (vs := [(Slc.v s1)]) rfl) (lt_ rfl) (fun cs => b_lenS (z := s1) sl_28) fun a H => ?_
   obtain ⟨hi22, hi23, hi24, h⟩ := h
   refine s_slice (v := (Slc.v (s19.cut 1 (Int.toNat (0)) (Int.toNat ((s1.l : Int)))))) H rfl rfl ⟨rfl, rfl⟩ ⟨rfl, rfl⟩ ⟨rfl, rfl⟩ (r_sliceSlc (lo := none) (hi := (some (.i64, (s1.l : Int)))) slc_28 rfl rfl hi22 hi23 hi24) (lt_ rfl) fun a H => s_assign H rfl rfl (lt_ rfl) fun a H => c_nil ?_
   exact hJ12 _ _ _ h (H.weaken ⟨rfl, trivial⟩)
  ·replace h := h.2 hb15
   refine c_skip ?_
   exact hJ12 _ _ _ h (H.weaken ⟨rfl, trivial⟩)
 clear hx29
 refine c_seq fun K27 hK27 => c_reg <| s_move H rfl rfl (lt_ rfl) fun a H => s_bin H rfl rfl rfl r_lss (lt_ rfl) fun a H => c_nil <| hK27 _ _ <| c_cond H rfl (fun hb28 => ?_) (fun hb28 => ?_)
 ·replace h := h.1 hb28
  refine c_reg <| s_iface H rfl rfl ni_9 (lt_ rfl) fun a H => ?_
  exact s_panic H rfl rfl (fun H => e_panic (P := PP) (fn := Tryd.f71) H h)
 ·replace h := h.2 hb28
  refine c_skip ?_
  exact hJ26 _ _ h (H.weaken ⟨rfl, rfl, trivial⟩)

set_option maxRecDepth 100000 in
set_option maxHeartbeats 4000000 in
theorem sim_sherdref07_Writer_put (w1 : Option Addr) (b2 : Slc) (w : World) (Q : Ending → World → Prop) (h : vc_sherdref07_Writer_put w1 b2 w Q) : Calls PP F_sherdref07_Writer_put #[(.pointer w1), (Slc.v b2)] w Q := by
 unfold vc_sherdref07_Writer_put at h
 refine enter (n := 18) (l := [(.pointer w1), (Slc.v b2)]) Tryd.func72 rfl rfl (Nat.le_of_ble_eq_true rfl) fun a H => ?_
 replace H : Has 18 [] a [(0, (.pointer w1)), (1, (Slc.v b2))] := H
 refine c_seq fun K3 hK3 => c_reg <| s_move H rfl rfl (lt_ rfl) fun a H => ?_
 obtain ⟨a4, hq16, h⟩ := h
 subst hq16
 refine s_nil H rfl rfl (lt_ rfl) fun a H => s_fld H rfl rfl fld_117_1 (lt_ rfl) fun a H => ?_
 obtain ⟨l5, hc6, h⟩ := h
 refine s_load (v := (.int .i64 l5)) H rfl rfl one_29 hc6 (lt_ rfl) fun a H => s_bin H rfl rfl rfl r_eql (lt_ rfl) fun a H => c_nil <| hK3 _ _ <| c_cond H rfl (fun hb7 => ?_) (fun hb7 => ?_)
 ·replace h := h.1 hb7
  refine c_reg <| s_move H rfl rfl (lt_ rfl) fun a H => s_move H rfl rfl (lt_ rfl) fun a H => s_nil H rfl rfl (lt_ rfl) fun a H => s_fld H rfl rfl fld_117_0 (lt_ rfl) fun a H => ?_
  obtain ⟨l8, hc9, h⟩ := h
  refine s_load (v := (Slc.v l8)) H rfl rfl one_28 hc9 (lt_ rfl) fun a H => s_move H rfl rfl (lt_ rfl) fun a H => ?_
  obtain ⟨s10, w11, hq12, h⟩ := h
  refine s_blt H rfl (H.args (vs := [(Slc.v l8), (Slc.v b2)]) rfl) (lt_ rfl) (fun cs => b_app (z := s10) hq12) ?_
  clear H a hq12
  intro a H
  refine s_nil H rfl rfl (lt_ rfl) fun a H => s_fld H rfl rfl fld_117_0 (lt_ rfl) fun a H => ?_
  obtain ⟨hs14, hf15, h⟩ := h
  refine s_sto (p := a4.add 0) (v := (Slc.v s10)) H rfl rfl rfl rfl one_28 rfl hs14 hf15 ?_
  clear H
  intro H
  generalize hww13 : World.setCell w11 (a4.add 0) (Slc.v s10) = w13 at h ⊢
  have w13S : SetAt w11 (a4.add 0) (Slc.v s10) w13 := ⟨hww13.symm⟩
  clear hww13 hs14 hf15
  refine c_nil ?_
  exact e_ret0 H rfl h
 ·replace h := h.2 hb7
  refine c_skip ?_
  exact e_ret0 H rfl h

set_option maxRecDepth 100000 in
set_option maxHeartbeats 4000000 in
theorem sim_sherdref07_Form (n1 : Int) (w : World) (Q : Ending → World → Prop) (h : vc_sherdref07_Form n1 w Q) : Calls PP F_sherdref07_Form #[(.int .i64 n1)] w Q := by
 unfold vc_sherdref07_Form at h
 refine enter (n := 21) (l := [(.int .i64 n1)]) Tryd.func73 rfl rfl (Nat.le_of_ble_eq_true rfl) fun a H => ?_
 replace H : Has 21 [] a [(0, (.int .i64 n1))] := H
 refine c_seq fun K2 hK2 => c_reg <| s_assign H rfl rfl (lt_ rfl) fun a H => c_nil <| hK2 _ _ <| c_seq fun K3 hK3 => c_reg <| s_assign H rfl rfl (lt_ rfl) fun a H => c_nil <| hK3 _ _ <| c_block ?_
 obtain ⟨I7, mu8, h027, hl28⟩ := h
 refine c_loop (σ := Int × Slc) (fun z w => I7 z.1 z.2 w) (fun z w => mu8 z.1 z.2 w) (fun z => [(0, (.int .i64 z.1)), (3, (Slc.v z.2))]) (n1, Slc.nil) h027 (H.weaken ⟨rfl, rfl, trivial⟩) ?_
 clear H h027
 rintro ⟨n4, out5⟩ a w6 h H
 replace h := hl28 n4 out5 w6 h
 clear hl28
 replace H : Has 21 [] a [(0, (.int .i64 n4)), (3, (Slc.v out5))] := H
 refine c_block <| c_seq fun K9 hK9 => c_reg <| s_move H rfl rfl (lt_ rfl) fun a H => s_bin H rfl rfl rfl (r_rem (by decide)) (lt_ rfl) fun a H => s_cv H rfl rfl (r_cvI some_2 int_5) (lt_ rfl) fun a H => s_assign H rfl rfl (lt_ rfl) fun a H => c_nil <| hK9 _ _ <| c_seq fun K10 hK10 => c_reg <| s_move H rfl rfl (lt_ rfl) fun a H => s_bin H rfl rfl rfl (r_quo (by decide)) (lt_ rfl) fun a H => s_assign H rfl rfl (lt_ rfl) fun a H => c_nil <| hK10 _ _ <| c_seq fun K11 hK11 => ?_
 refine c_seq fun K12 hK12 => c_reg <| s_move H rfl rfl (lt_ rfl) fun a H => s_bin H rfl rfl rfl r_eql (lt_ rfl) fun a H => c_nil <| hK12 _ _ <| c_cond H rfl (fun hb13 => ?_) (fun hb13 => ?_)
 ·replace h := h.1 hb13
  refine c_seq fun K14 hK14 => c_reg <| s_move H rfl rfl (lt_ rfl) fun a H => s_move H rfl rfl (lt_ rfl) fun a H => ?_
  replace h := h.get
  obtain ⟨b15, w16, nb17, h⟩ := h
  refine s_bslc H rfl (by rw [H.parts (vs := [(0, (.int .u8 (wr .u8 (n4.tmod 128))))]) rfl]; exact bs_28_1_iu80 w6 (wr .u8 (n4.tmod 128))) (lt_ rfl) ?_
  rw [← nb17.at_]
  clear H a
  intro a H
  refine nb17.go ?_
  obtain ⟨s18, w19, hq20, h⟩ := h
  refine s_blt H rfl (H.args (vs := [(Slc.v out5), (Slc.v (Slc.mk (some (blk b15)) 1 1))]) rfl) (lt_ rfl) (fun cs => b_app (z := s18) hq20) ?_
  clear H a hq20
  intro a H
  refine s_assign H rfl rfl (lt_ rfl) fun a H => c_nil <| hK14 _ _ <| c_ret ?_
  exact e_ret1 H rfl rfl h
 ·replace h := h.2 hb13
  refine c_skip <| hK11 _ _ <| c_reg <| s_move H rfl rfl (lt_ rfl) fun a H => s_move H rfl rfl (lt_ rfl) fun a H => s_bin H rfl rfl rfl r_add (lt_ rfl) fun a H => ?_
  replace h := h.get
  obtain ⟨b21, w22, nb23, h⟩ := h
  refine s_bslc H rfl (by rw [H.parts (vs := [(0, (.int .u8 (wr .u8 ((wr .u8 (n4.tmod 128)) + 128))))]) rfl]; exact bs_28_1_iu80 w6 (wr .u8 ((wr .u8 (n4.tmod 128)) + 128))) (lt_ rfl) ?_
  rw [← nb23.at_]
  clear H a
  intro a H
  refine nb23.go ?_
  obtain ⟨s24, w25, hq26, h⟩ := h
  refine s_blt H rfl (H.args (vs := [(Slc.v out5), (Slc.v (Slc.mk (some (blk b21)) 1 1))]) rfl) (lt_ rfl) (fun cs => b_app (z := s24) hq26) ?_
  clear H a hq26
  intro a H
  refine s_assign H rfl rfl (lt_ rfl) fun a H => c_nil <| Exists.intro (wr .i64 (n4.tdiv 128), s24) ⟨h.1, h.2, H.weaken ⟨rfl, rfl, trivial⟩⟩

set_option maxRecDepth 100000 in
set_option maxHeartbeats 4000000 in
theorem sim_sherdref11_four (n1 : Int) (w : World) (Q : Ending → World → Prop) (h : vc_sherdref11_four n1 w Q) : Calls PP F_sherdref11_four #[(.int .u32 n1)] w Q := by
 unfold vc_sherdref11_four at h
 refine enter (n := 18) (l := [(.int .u32 n1)]) Tryd.func74 rfl rfl (Nat.le_of_ble_eq_true rfl) fun a H => ?_
 replace H : Has 18 [] a [(0, (.int .u32 n1))] := H
 refine c_seq fun K2 hK2 => c_reg <| s_assign H rfl rfl (lt_ rfl) fun a H => c_nil <| hK2 _ _ <| c_seq fun K3 hK3 => c_reg <| s_assign H rfl rfl (lt_ rfl) fun a H => c_nil <| hK3 _ _ <| c_seq fun K4 hK4 => c_seq fun K5 hK5 => c_reg <| s_assign H rfl rfl (lt_ rfl) fun a H => c_nil <| hK5 _ _ <| c_block ?_
 obtain ⟨I10, mu11, h024, hl25⟩ := h
 refine c_loop (σ := Int × Slc × Int) (fun z w => I10 z.1 z.2.1 z.2.2 w) (fun z w => mu11 z.1 z.2.1 z.2.2 w) (fun z => [(0, (.int .u32 z.1)), (3, (Slc.v z.2.1)), (4, (.int .i64 z.2.2))]) (n1, Slc.nil, 0) h024 (H.weaken ⟨rfl, rfl, rfl, trivial⟩) ?_
 clear H h024
 rintro ⟨n6, out7, i8⟩ a w9 h H
 replace h := hl25 n6 out7 i8 w9 h
 clear hl25
 replace H : Has 18 [] a [(0, (.int .u32 n6)), (3, (Slc.v out7)), (4, (.int .i64 i8))] := H
 refine c_seq fun K12 hK12 => c_seq fun K13 hK13 => c_reg <| s_move H rfl rfl (lt_ rfl) fun a H => s_bin H rfl rfl rfl r_lss (lt_ rfl) fun a H => c_nil <| hK13 _ _ <| c_cond H rfl (fun hb14 => ?_) (fun hb14 => ?_)
 ·replace h := h.1 hb14
  refine c_skip <| hK12 _ _ <| c_seq fun K15 hK15 => c_block <| c_seq fun K16 hK16 => c_reg <| s_move H rfl rfl (lt_ rfl) fun a H => s_move H rfl rfl (lt_ rfl) fun a H => s_bin H rfl rfl rfl (r_rem (by decide)) (lt_ rfl) fun a H => s_cv H rfl rfl (r_cvI some_88 int_5) (lt_ rfl) fun a H => ?_
  replace h := h.get
  obtain ⟨b17, w18, nb19, h⟩ := h
  refine s_bslc H rfl (by rw [H.parts (vs := [(0, (.int .u8 (wr .u8 (n6.tmod 256))))]) rfl]; exact bs_28_1_iu80 w9 (wr .u8 (n6.tmod 256))) (lt_ rfl) ?_
  rw [← nb19.at_]
  clear H a
  intro a H
  refine nb19.go ?_
  obtain ⟨s20, w21, hq22, h⟩ := h
  refine s_blt H rfl (H.args (vs := [(Slc.v out7), (Slc.v (Slc.mk (some (blk b17)) 1 1))]) rfl) (lt_ rfl) (fun cs => b_app (z := s20) hq22) ?_
  clear H a hq22
  intro a H
  refine s_assign H rfl rfl (lt_ rfl) fun a H => c_nil <| hK16 _ _ <| c_reg <| s_move H rfl rfl (lt_ rfl) fun a H => s_bin H rfl rfl rfl (r_quo (by decide)) (lt_ rfl) fun a H => s_assign H rfl rfl (lt_ rfl) fun a H => c_nil <| hK15 _ _ <| c_reg <| s_move H rfl rfl (lt_ rfl) fun a H => s_bin H rfl rfl rfl r_add (lt_ rfl) fun a H => s_assign H rfl rfl (lt_ rfl) fun a H => c_nil <| Exists.intro (wr .u32 (n6.tdiv 256), s20, wr .i64 (i8 + 1)) ⟨h.1, h.2, H.weaken ⟨rfl, rfl, rfl, trivial⟩⟩
 ·replace h := h.2 hb14
  refine c_exit ?_
  first | (simp only [Exit.then, Exit.inBlock, ↓reduceIte]; fail_if_success simp only [Nat.reduceEqDiff]) | simp only [Exit.then, Exit.inBlock, ↓reduceIte, Nat.reduceEqDiff]
  refine hK4 _ _ <| c_seq fun K23 hK23 => c_reg <| s_move H rfl rfl (lt_ rfl) fun a H => s_assign H rfl rfl (lt_ rfl) fun a H => c_nil <| hK23 _ _ <| c_ret ?_
  exact e_ret1 H rfl rfl h

set_option maxRecDepth 100000 in
set_option maxHeartbeats 4000000 in
theorem sim_sherdref06_Of (parts1 : Slc) (w : World) (Q : Ending → World → Prop) (h : vc_sherdref06_Of parts1 w Q) : Calls PP F_sherdref06_Of #[(Slc.v parts1)] w Q := by
 unfold vc_sherdref06_Of at h
 refine enter (n := 34) (l := [(Slc.v parts1)]) Tryd.func75 rfl rfl (Nat.le_of_ble_eq_true rfl) fun a H => ?_
 replace H : Has 34 [] a [(0, (Slc.v parts1))] := H
 refine c_seq fun K2 hK2 => c_reg <| s_assign H rfl rfl (lt_ rfl) fun a H => c_nil <| hK2 _ _ <| c_seq fun K3 hK3 => c_reg <| s_assign H rfl rfl (lt_ rfl) fun a H => c_nil <| hK3 _ _ <| c_seq fun K4 hK4 => c_seq fun K5 hK5 => c_reg <| s_assign H rfl rfl (lt_ rfl) fun a H => c_nil <| hK5 _ _ <| c_block ?_
 obtain ⟨I9, mu10, h057, hl58⟩ := h
 refine c_loop (σ := Int × Int) (fun z w => I9 z.1 z.2 w) (fun z w => mu10 z.1 z.2 w) (fun z => [(0, (Slc.v parts1)), (3, (.int .u32 z.1)), (4, (.int .i64 z.2))]) (4294967295, 0) h057 (H.weaken ⟨rfl, rfl, rfl, trivial⟩) ?_
 clear H h057
 rintro ⟨n6, i7⟩ a w8 h H
 replace h := hl58 n6 i7 w8 h
 clear hl58
 replace H : Has 34 [] a [(0, (Slc.v parts1)), (3, (.int .u32 n6)), (4, (.int .i64 i7))] := H
 refine c_seq fun K11 hK11 => c_seq fun K12 hK12 => c_reg <| s_move H rfl rfl (lt_ rfl) fun a H => s_move H rfl rfl (lt_ rfl) fun a H => s_blt H rfl (H.args (vs := [(Slc.v parts1)]) rfl) (lt_ rfl) (fun cs => b_lenS (z := parts1) sl_37) fun a H => s_bin H rfl rfl rfl r_lss (lt_ rfl) fun a H => c_nil <| hK12 _ _ <| c_cond H rfl (fun hb13 => ?_) (fun hb13 => ?_)
 ·replace h := h.1 hb13
  refine c_skip <| hK11 _ _ <| c_seq fun K14 hK14 => ?_
  obtain ⟨R16, h, hx55⟩ := h
  have hJ18 : ∀ (a : Act) (n15 : Int) (w17 : World), R16 n15 w17 → Has 34 [] a [(0, (Slc.v parts1)), (3, (.int .u32 n15)), (4, (.int .i64 i7))] → K14 a w17 := by
   clear h
   intro a n15 w17 h H
   replace h := hx55 n15 w17 h
   refine hK14 _ _ <| c_reg <| s_move H rfl rfl (lt_ rfl) fun a H => s_bin H rfl rfl rfl r_add (lt_ rfl) fun a H => s_assign H rfl rfl (lt_ rfl) fun a H => c_nil <| Exists.intro (n15, wr .i64 (i7 + 1)) ⟨h.1, h.2, H.weaken ⟨rfl, rfl, rfl, trivial⟩⟩
  clear hx55
  refine c_block <| c_seq fun K19 hK19 => c_reg <| s_assign H rfl rfl (lt_ rfl) fun a H => c_nil <| hK19 _ _ <| c_block ?_
  obtain ⟨I23, mu24, h053, hl54⟩ := h
  refine c_loop (σ := Int × Int) (fun z w => I23 z.1 z.2 w) (fun z w => mu24 z.1 z.2 w) (fun z => [(0, (Slc.v parts1)), (3, (.int .u32 z.1)), (4, (.int .i64 i7)), (5, (.int .i64 z.2))]) (n6, 0) h053 (H.weaken ⟨rfl, rfl, rfl, rfl, trivial⟩) ?_
  clear H h053
  rintro ⟨n20, j21⟩ a w22 h H
  replace h := hl54 n20 j21 w22 h
  clear hl54
  replace H : Has 34 [] a [(0, (Slc.v parts1)), (3, (.int .u32 n20)), (4, (.int .i64 i7)), (5, (.int .i64 j21))] := H
  refine c_seq fun K25 hK25 => c_seq fun K26 hK26 => c_reg ?_
  iterate 3 refine s_move H rfl rfl (lt_ rfl) fun a H => ?_
  obtain ⟨a27, hi28, hi29, hi30, h⟩ := h
  refine s_idxS (s := parts1) H rfl rfl rfl slc_37 hi28 hi29 hi30 (lt_ rfl) fun a H => ?_
  obtain ⟨l31, hc32, h⟩ := h
  refine s_load (v := (Slc.v l31)) H rfl rfl one_28 hc32 (lt_ rfl) fun a H => s_blt H rfl (H.args (vs := [(Slc.v l31)]) rfl) (lt_ rfl) (fun cs => b_lenS (z := l31) sl_28) fun a H => s_bin H rfl rfl rfl r_lss (lt_ rfl) fun a H => c_nil <| hK26 _ _ <| c_cond H rfl (fun hb33 => ?_) (fun hb33 => ?_)
  ·replace h := h.1 hb33
   refine c_skip <| hK25 _ _ <| c_seq fun K34 hK34 => c_block <| c_reg ?_
   iterate 3 refine s_move H rfl rfl (lt_ rfl) fun a H => ?_
   obtain ⟨a35, hi36, hi37, hi38, h⟩ := h
   refine s_idxS (s := parts1) H rfl rfl rfl slc_37 hi36 hi37 hi38 (lt_ rfl) fun a H => ?_
   obtain ⟨l39, hc40, h⟩ := h
   refine s_load (v := (Slc.v l39)) H rfl rfl one_28 hc40 (lt_ rfl) fun a H => s_move H rfl rfl (lt_ rfl) fun a H => ?_
   obtain ⟨a41, hi42, hi43, hi44, h⟩ := h
   refine s_idxS (s := l39) H rfl rfl rfl slc_28 hi42 hi43 hi44 (lt_ rfl) fun a H => ?_
   obtain ⟨l45, hc46, h⟩ := h
   refine s_load (v := (.int .u8 l45)) H rfl rfl one_5 hc46 (lt_ rfl) fun a H => s_cv H rfl rfl (r_cvI some_5 int_88) (lt_ rfl) fun a H => s_bin H rfl rfl rfl r_xor (lt_ rfl) fun a H => s_call H rfl body_89 (H.args (vs := [(.int .u32 (xorI .u32 n20 (wr .u32 l45)))]) rfl) (lt_ rfl) h ?_ (fun c w' h H => e_panic (P := PP) (fn := Tryd.f75) H h)
   clear H h a
   rintro _ w47 a ⟨bitwi48, rfl, h⟩ H
   refine s_assign H rfl rfl (lt_ rfl) fun a H => c_nil <| hK34 _ _ <| c_reg <| s_move H rfl rfl (lt_ rfl) fun a H => s_bin H rfl rfl rfl r_add (lt_ rfl) fun a H => s_assign H rfl rfl (lt_ rfl) fun a H => c_nil <| Exists.intro (bitwi48, wr .i64 (j21 + 1)) ⟨h.1, h.2, H.weaken ⟨rfl, rfl, rfl, rfl, trivial⟩⟩
  ·replace h := h.2 hb33
   refine c_exit ?_
   first | (simp only [Exit.then, Exit.inBlock, ↓reduceIte]; fail_if_success simp only [Nat.reduceEqDiff]) | simp only [Exit.then, Exit.inBlock, ↓reduceIte, Nat.reduceEqDiff]
   exact hJ18 _ _ _ h (H.weaken ⟨rfl, rfl, rfl, trivial⟩)
 ·replace h := h.2 hb13
  refine c_exit ?_
  first | (simp only [Exit.then, Exit.inBlock, ↓reduceIte]; fail_if_success simp only [Nat.reduceEqDiff]) | simp only [Exit.then, Exit.inBlock, ↓reduceIte, Nat.reduceEqDiff]
  refine hK4 _ _ <| c_seq fun K56 hK56 => c_reg <| s_move H rfl rfl (lt_ rfl) fun a H => s_bin H rfl rfl rfl r_xor (lt_ rfl) fun a H => s_assign H rfl rfl (lt_ rfl) fun a H => c_nil <| hK56 _ _ <| c_ret ?_
  exact e_ret1 H rfl rfl h

set_option maxRecDepth 100000 in
set_option maxHeartbeats 4000000 in
theorem sim_pack_first_fail (f1 : Option Addr) (e2 : Int) (w : World) (Q : Ending → World → Prop) (h : vc_pack_first_fail f1 e2 w Q) : Calls PP F_pack_first_fail #[(.pointer f1), (.int .i64 e2)] w Q := by
 unfold vc_pack_first_fail at h
 refine enter (n := 13) (l := [(.pointer f1), (.int .i64 e2)]) Tryd.func76 rfl rfl (Nat.le_of_ble_eq_true rfl) fun a H => ?_
 replace H : Has 13 [] a [(0, (.pointer f1)), (1, (.int .i64 e2))] := H
 refine c_seq fun K3 hK3 => c_reg <| s_move H rfl rfl (lt_ rfl) fun a H => ?_
 obtain ⟨a4, hq11, h⟩ := h
 subst hq11
 refine s_nil H rfl rfl (lt_ rfl) fun a H => s_fld H rfl rfl fld_107_0 (lt_ rfl) fun a H => ?_
 obtain ⟨l5, hc6, h⟩ := h
 refine s_load (v := (.int .i64 l5)) H rfl rfl one_29 hc6 (lt_ rfl) fun a H => s_bin H rfl rfl rfl r_eql (lt_ rfl) fun a H => c_nil <| hK3 _ _ <| c_cond H rfl (fun hb7 => ?_) (fun hb7 => ?_)
 ·replace h := h.1 hb7
  refine c_reg <| s_move H rfl rfl (lt_ rfl) fun a H => s_move H rfl rfl (lt_ rfl) fun a H => s_nil H rfl rfl (lt_ rfl) fun a H => s_fld H rfl rfl fld_107_0 (lt_ rfl) fun a H => ?_
  obtain ⟨hs9, hf10, h⟩ := h
  refine s_sto (p := a4.add 0) (v := (.int .i64 e2)) H rfl rfl rfl rfl one_29 rfl hs9 hf10 ?_
  clear H
  intro H
  generalize hww8 : World.setCell w (a4.add 0) (.int .i64 e2) = w8 at h ⊢
  have w8S : SetAt w (a4.add 0) (.int .i64 e2) w8 := ⟨hww8.symm⟩
  clear hww8 hs9 hf10
  refine c_nil ?_
  exact e_ret0 H rfl h
 ·replace h := h.2 hb7
  refine c_skip ?_
  exact e_ret0 H rfl h

set_option maxRecDepth 100000 in
set_option maxHeartbeats 4000000 in
theorem sim_pack_form (n1 : Int) (w : World) (Q : Ending → World → Prop) (h : vc_pack_form n1 w Q) : Calls PP F_pack_form #[(.int .i64 n1)] w Q := by
 unfold vc_pack_form at h
 refine enter (n := 19) (l := [(.int .i64 n1)]) Tryd.func77 rfl rfl (Nat.le_of_ble_eq_true rfl) fun a H => ?_
 replace H : Has 19 [] a [(0, (.int .i64 n1))] := H
 refine c_seq fun K2 hK2 => c_reg <| s_assign H rfl rfl (lt_ rfl) fun a H => c_nil <| hK2 _ _ <| c_seq fun K3 hK3 => c_reg <| s_assign H rfl rfl (lt_ rfl) fun a H => c_nil <| hK3 _ _ <| c_seq fun K4 hK4 => ?_
 obtain ⟨R7, h, hx34⟩ := h
 have hJ16 : ∀ (a : Act) (n5 : Int) (b6 : Slc) (w8 : World), R7 n5 b6 w8 → Has 19 [] a [(0, (.int .i64 n5)), (3, (Slc.v b6))] → K4 a w8 := by
  clear h
  intro a n5 b6 w8 h H
  replace h := hx34 n5 b6 w8 h
  refine hK4 _ _ <| c_seq fun K9 hK9 => c_reg <| s_move H rfl rfl (lt_ rfl) fun a H => s_move H rfl rfl (lt_ rfl) fun a H => s_cv H rfl rfl (r_cvI some_2 int_5) (lt_ rfl) fun a H => ?_
  replace h := h.get
  obtain ⟨b10, w11, nb12, h⟩ := h
  refine s_bslc H rfl (by rw [H.parts (vs := [(0, (.int .u8 (wr .u8 n5)))]) rfl]; exact bs_28_1_iu80 w8 (wr .u8 n5)) (lt_ rfl) ?_
  rw [← nb12.at_]
  clear H a
  intro a H
  refine nb12.go ?_
  obtain ⟨s13, w14, hq15, h⟩ := h
  refine s_blt H rfl (H.args (vs := [(Slc.v b6), (Slc.v (Slc.mk (some (blk b10)) 1 1))]) rfl) (lt_ rfl) (fun cs => b_app (z := s13) hq15) ?_
  clear H a hq15
  intro a H
  refine s_assign H rfl rfl (lt_ rfl) fun a H => c_nil <| hK9 _ _ <| c_ret ?_
  exact e_ret1 H rfl rfl h
 clear hx34
 refine c_block ?_
 obtain ⟨I20, mu21, h032, hl33⟩ := h
 refine c_loop (σ := Int × Slc) (fun z w => I20 z.1 z.2 w) (fun z w => mu21 z.1 z.2 w) (fun z => [(0, (.int .i64 z.1)), (3, (Slc.v z.2))]) (n1, Slc.nil) h032 (H.weaken ⟨rfl, rfl, trivial⟩) ?_
 clear H h032
 rintro ⟨n17, b18⟩ a w19 h H
 replace h := hl33 n17 b18 w19 h
 clear hl33
 replace H : Has 19 [] a [(0, (.int .i64 n17)), (3, (Slc.v b18))] := H
 refine c_seq fun K22 hK22 => c_seq fun K23 hK23 => c_reg <| s_move H rfl rfl (lt_ rfl) fun a H => s_bin H rfl rfl rfl r_geq (lt_ rfl) fun a H => c_nil <| hK23 _ _ <| c_cond H rfl (fun hb24 => ?_) (fun hb24 => ?_)
 ·replace h := h.1 hb24
  refine c_skip <| hK22 _ _ <| c_block <| c_seq fun K25 hK25 => c_reg <| s_move H rfl rfl (lt_ rfl) fun a H => s_move H rfl rfl (lt_ rfl) fun a H => s_cv H rfl rfl (r_cvI some_2 int_5) (lt_ rfl) fun a H => s_bin H rfl rfl rfl r_or (lt_ rfl) fun a H => ?_
  replace h := h.get
  obtain ⟨b26, w27, nb28, h⟩ := h
  refine s_bslc H rfl (by rw [H.parts (vs := [(0, (.int .u8 (orI .u8 (wr .u8 n17) 128)))]) rfl]; exact bs_28_1_iu80 w19 (orI .u8 (wr .u8 n17) 128)) (lt_ rfl) ?_
  rw [← nb28.at_]
  clear H a
  intro a H
  refine nb28.go ?_
  obtain ⟨s29, w30, hq31, h⟩ := h
  refine s_blt H rfl (H.args (vs := [(Slc.v b18), (Slc.v (Slc.mk (some (blk b26)) 1 1))]) rfl) (lt_ rfl) (fun cs => b_app (z := s29) hq31) ?_
  clear H a hq31
  intro a H
  refine s_assign H rfl rfl (lt_ rfl) fun a H => c_nil <| hK25 _ _ <| c_reg <| s_move H rfl rfl (lt_ rfl) fun a H => s_bin H rfl rfl rfl (r_shr (by decide)) (lt_ rfl) fun a H => s_assign H rfl rfl (lt_ rfl) fun a H => c_nil <| Exists.intro (shrI .i64 n17 7, s29) ⟨h.1, h.2, H.weaken ⟨rfl, rfl, trivial⟩⟩
 ·replace h := h.2 hb24
  refine c_exit ?_
  first | (simp only [Exit.then, Exit.inBlock, ↓reduceIte]; fail_if_success simp only [Nat.reduceEqDiff]) | simp only [Exit.then, Exit.inBlock, ↓reduceIte, Nat.reduceEqDiff]
  exact hJ16 _ _ _ _ h (H.weaken ⟨rfl, rfl, trivial⟩)

set_option maxRecDepth 100000 in
set_option maxHeartbeats 4000000 in
theorem sim_sherdref08_Valid (Count1 : Int) (Clien2 : Int) (w : World) (Q : Ending → World → Prop) (h : vc_sherdref08_Valid Count1 Clien2 w Q) : Calls PP F_sherdref08_Valid #[(.agg #[(.int .i64 Count1), (.int .i64 Clien2)])] w Q := by
 unfold vc_sherdref08_Valid at h
 refine enter (n := 9) (l := [(.agg #[(.int .i64 Count1), (.int .i64 Clien2)])]) Tryd.func78 rfl rfl (Nat.le_of_ble_eq_true rfl) fun a H => ?_
 replace H : Has 9 [] a [(0, (.agg #[(.int .i64 Count1), (.int .i64 Clien2)]))] := H
 refine c_seq fun K3 hK3 => c_reg ?_
 replace h := h.get
 obtain ⟨b4, w5, nb6, h⟩ := h
 refine s_box H rfl rfl (lt_ rfl) ?_
 rw [← nb6.at_]
 clear H a
 intro a H
 refine nb6.go <| s_assign H rfl rfl (lt_ rfl) fun a H => c_nil <| hK3 _ _ <| c_seq fun K7 hK7 => c_reg <| s_loadN (l := [(.int .i64 Count1), (.int .i64 Clien2)]) H rfl rfl agg_41 rfl ⟨(nb6.cell (i := 0) rfl), (nb6.cell (i := 1) rfl), trivial⟩ (lt_ rfl) fun a H => s_call H rfl body_90 (H.args (vs := [(.agg #[(.int .i64 Count1), (.int .i64 Clien2)])]) rfl) (lt_ rfl) h ?_ (fun c w' h H => e_panic (P := PP) (fn := Tryd.f78) H h)
 clear H h a
 rintro _ w8 a ⟨Zero9, rfl, h⟩ H
 refine s_move H rfl rfl (lt_ rfl) fun a H => ?_
 obtain ⟨R12, h, hx25⟩ := h
 refine g_joinW (n := 9) R12 (fun x13 => [(8, (.bool x13))]) (.succ (.succ (.succ (.zero _)))) ?_ ?_
 ·intro hr11
  clear hx25
  rcases Bool.eq_false_or_eq_true Zero9 with hg10 | hg10
  ·replace H := H.ch (t := 5) (b := true) rfl hg10
   replace h := h.2 hg10
   refine s_skip H (wantN H rfl rfl rfl) rfl (lt_ rfl) fun a H => s_skip H (wantN H rfl rfl rfl) rfl (lt_ rfl) fun a H => s_pickT H rfl rfl rfl (lt_ rfl) fun a H => ?_
   exact hr11 _ _ _ h (H.weaken ⟨rfl, trivial⟩)
  ·replace H := H.ch (t := 5) (b := false) rfl hg10
   replace h := h.1 hg10
   obtain ⟨Count15, hc16, h⟩ := h
   obtain ⟨Clien17, hc18, h⟩ := h
   refine s_loadN (l := [(.int .i64 Count15), (.int .i64 Clien17)]) H (wantG H rfl rfl) rfl agg_41 rfl ⟨hc16, hc18, trivial⟩ (lt_ rfl) fun a H => s_call H (wantG H rfl rfl) body_91 (H.args (vs := [(.agg #[(.int .i64 Count15), (.int .i64 Clien17)])]) rfl) (lt_ rfl) h ?_ (fun c w' h H => e_panic (P := PP) (fn := Tryd.f78) H h)
   clear H h a
   rintro _ w19 a ⟨prope20, rfl, h⟩ H
   refine s_pickF H rfl rfl rfl (lt_ rfl) fun a H => ?_
   exact hr11 _ _ _ h (H.weaken ⟨rfl, trivial⟩)
 ·clear H a h
  intro a x13 w14 h H
  replace h := hx25 x13 w14 h
  clear hx25
  refine s_assign H rfl rfl (lt_ rfl) fun a H => c_nil <| hK7 _ _ <| c_ret ?_
  exact e_ret1 H rfl rfl h

set_option maxRecDepth 100000 in
set_option maxHeartbeats 4000000 in
theorem sim_sherdref07_Writer_Text (w1 : Option Addr) (s2 : ByteArray) (w : World) (Q : Ending → World → Prop) (h : vc_sherdref07_Writer_Text w1 s2 w Q) : Calls PP F_sherdref07_Writer_Text #[(.pointer w1), (.string s2)] w Q := by
 unfold vc_sherdref07_Writer_Text at h
 refine enter (n := 8) (l := [(.pointer w1), (.string s2)]) Tryd.func79 rfl rfl (Nat.le_of_ble_eq_true rfl) fun a H => ?_
 replace H : Has 8 [] a [(0, (.pointer w1)), (1, (.string s2))] := H
 refine c_reg <| s_move H rfl rfl (lt_ rfl) fun a H => s_move H rfl rfl (lt_ rfl) fun a H => ?_
 obtain ⟨s3, w5, hq4, h⟩ := h
 refine s_cv H rfl rfl hq4 (lt_ rfl) ?_
 clear H a hq4
 intro a H
 refine s_call H rfl body_54 (H.args (vs := [(.pointer w1), (Slc.v s3)]) rfl) (lt_ rfl) h ?_ (fun c w' h H => e_panic (P := PP) (fn := Tryd.f79) H h)
 clear H h a
 rintro _ w6 a ⟨rfl, h⟩ H
 refine c_nil ?_
 exact e_ret0 H rfl h

set_option maxRecDepth 100000 in
set_option maxHeartbeats 4000000 in
theorem sim_sherdref07_Writer_Bool (w1 : Option Addr) (b2 : Bool) (w : World) (Q : Ending → World → Prop) (h : vc_sherdref07_Writer_Bool w1 b2 w Q) : Calls PP F_sherdref07_Writer_Bool #[(.pointer w1), (.bool b2)] w Q := by
 unfold vc_sherdref07_Writer_Bool at h
 refine enter (n := 11) (l := [(.pointer w1), (.bool b2)]) Tryd.func80 rfl rfl (Nat.le_of_ble_eq_true rfl) fun a H => ?_
 replace H : Has 11 [] a [(0, (.pointer w1)), (1, (.bool b2))] := H
 refine c_seq fun K3 hK3 => c_reg <| s_move H rfl rfl (lt_ rfl) fun a H => c_nil <| hK3 _ _ <| c_cond H rfl (fun hb4 => ?_) (fun hb4 => ?_)
 ·replace h := h.1 hb4
  refine c_reg <| s_move H rfl rfl (lt_ rfl) fun a H => ?_
  replace h := h.get
  obtain ⟨b5, w6, nb7, h⟩ := h
  refine s_bslc H rfl (by rw [H.parts (vs := [(0, (.int .u8 1))]) rfl]; exact bs_28_1_iu80 w 1) (lt_ rfl) ?_
  rw [← nb7.at_]
  clear H a
  intro a H
  refine nb7.go <| s_call H rfl body_72 (H.args (vs := [(.pointer w1), (Slc.v (Slc.mk (some (blk b5)) 1 1))]) rfl) (lt_ rfl) h ?_ (fun c w' h H => e_panic (P := PP) (fn := Tryd.f80) H h)
  clear H h a
  rintro _ w8 a ⟨rfl, h⟩ H
  refine c_nil ?_
  exact e_ret0 H rfl h
 ·replace h := h.2 hb4
  refine c_reg <| s_move H rfl rfl (lt_ rfl) fun a H => ?_
  replace h := h.get
  obtain ⟨b13, w14, nb15, h⟩ := h
  refine s_bslc H rfl (by rw [H.parts (vs := [(0, (.int .u8 0))]) rfl]; exact bs_28_1_iu80 w 0) (lt_ rfl) ?_
  rw [← nb15.at_]
  clear H a
  intro a H
  refine nb15.go <| s_call H rfl body_72 (H.args (vs := [(.pointer w1), (Slc.v (Slc.mk (some (blk b13)) 1 1))]) rfl) (lt_ rfl) h ?_ (fun c w' h H => e_panic (P := PP) (fn := Tryd.f80) H h)
  clear H h a
  rintro _ w16 a ⟨rfl, h⟩ H
  refine c_nil ?_
  exact e_ret0 H rfl h

set_option maxRecDepth 100000 in
set_option maxHeartbeats 4000000 in
theorem sim_pack_Reader_stopped (r1 : Option Addr) (w : World) (Q : Ending → World → Prop) (h : vc_pack_Reader_stopped r1 w Q) : Calls PP F_pack_Reader_stopped #[(.pointer r1)] w Q := by
 unfold vc_pack_Reader_stopped at h
 refine enter (n := 13) (l := [(.pointer r1)]) Tryd.func81 rfl rfl (Nat.le_of_ble_eq_true rfl) fun a H => ?_
 replace H : Has 13 [] a [(0, (.pointer r1))] := H
 refine c_seq fun K2 hK2 => c_reg <| s_assign H rfl rfl (lt_ rfl) fun a H => c_nil <| hK2 _ _ <| c_seq fun K3 hK3 => c_reg <| s_move H rfl rfl (lt_ rfl) fun a H => s_bin H rfl rfl rfl (r_eqP0 ptr_97) (lt_ rfl) fun a H => s_move H rfl rfl (lt_ rfl) fun a H => ?_
 obtain ⟨x10, hy11, hn12, h⟩ := h
 refine g_join (n := 13) [(12, (.bool x10))] (.succ (.succ (.succ (.succ (.succ (.succ (.succ (.zero _)))))))) ?_ ?_
 ·intro hr5
  try clear h
  rcases Bool.eq_false_or_eq_true r1.isNone with hg4 | hg4
  ·replace H := H.ch (t := 5) (b := true) rfl hg4
   iterate 6 refine s_skip H (wantN H rfl rfl rfl) rfl (lt_ rfl) fun a H => ?_
   refine s_pickT H rfl rfl rfl (lt_ rfl) fun a H => ?_
   replace h := hn12 hg4
   subst h
   exact hr5 _ (H.weaken ⟨rfl, trivial⟩)
  ·replace H := H.ch (t := 5) (b := false) rfl hg4
   replace h := hy11 hg4
   refine s_move H (wantG H rfl rfl) rfl (lt_ rfl) fun a H => ?_
   obtain ⟨a6, hq9, h⟩ := h
   subst hq9
   refine s_nil H (wantG H rfl rfl) rfl (lt_ rfl) fun a H => s_fld H (wantG H rfl rfl) rfl fld_121_0 (lt_ rfl) fun a H => s_fld H (wantG H rfl rfl) rfl fld_107_0 (lt_ rfl) fun a H => ?_
   obtain ⟨l7, hc8, h⟩ := h
   refine s_load (v := (.int .i64 l7)) H (wantG H rfl rfl) rfl one_29 hc8 (lt_ rfl) fun a H => s_bin H (wantG H rfl rfl) rfl rfl r_neq (lt_ rfl) fun a H => s_pickF H rfl rfl rfl (lt_ rfl) fun a H => ?_
   subst h
   exact hr5 _ (H.weaken ⟨rfl, trivial⟩)
 ·clear H a
  clear hy11 hn12
  intro a H
  refine s_assign H rfl rfl (lt_ rfl) fun a H => c_nil <| hK3 _ _ <| c_ret ?_
  exact e_ret1 H rfl rfl h

set_option maxRecDepth 100000 in
set_option maxHeartbeats 4000000 in
theorem sim_pack_Reader_number (r1 : Option Addr) (max2 : Int) (w : World) (Q : Ending → World → Prop) (h : vc_pack_Reader_number r1 max2 w Q) : Calls PP F_pack_Reader_number #[(.pointer r1), (.int .i64 max2)] w Q := by
 unfold vc_pack_Reader_number at h
 refine enter (n := 56) (l := [(.pointer r1), (.int .i64 max2)]) Tryd.func82 rfl rfl (Nat.le_of_ble_eq_true rfl) fun a H => ?_
 replace H : Has 56 [] a [(0, (.pointer r1)), (1, (.int .i64 max2))] := H
 refine c_seq fun K3 hK3 => c_reg ?_
 iterate 3 refine s_assign H rfl rfl (lt_ rfl) fun a H => ?_
 refine c_nil <| hK3 _ _ <| c_seq fun K4 hK4 => c_regD mixed (by kernel_rfl) <| z_move H rfl rfl (lt_ rfl) fun a H => ?_
 obtain ⟨a6, hq55, h⟩ := h
 subst hq55
 refine z_nil H rfl rfl (lt_ rfl) fun a H => z_fld H rfl rfl fld_121_1 (lt_ rfl) fun a H => ?_
 obtain ⟨l7, hc8, h⟩ := h
 refine z_load (v := (Slc.v l7)) H rfl rfl one_28 hc8 (lt_ rfl) fun a H => z_move H rfl rfl (lt_ rfl) fun a H => z_nil H rfl rfl (lt_ rfl) fun a H => z_fld H rfl rfl fld_121_2 (lt_ rfl) fun a H => ?_
 obtain ⟨l9, hc10, h⟩ := h
 refine z_load (v := (.int .i64 l9)) H rfl rfl one_3 hc10 (lt_ rfl) fun a H => ?_
 obtain ⟨hi11, hi12, hi13, h⟩ := h
 refine z_slice (v := (Slc.v (l7.cut 1 (Int.toNat (l9)) (Int.toNat ((l7.l : Int)))))) H rfl rfl ⟨rfl, rfl⟩ ⟨rfl, rfl⟩ ⟨rfl, rfl⟩ (fun w => r_sliceSlc (lo := (some (.i64, l9))) (hi := none) slc_28 rfl rfl hi11 hi12 hi13) (lt_ rfl) fun a H => z_assign H rfl rfl (lt_ rfl) fun a H => wpQuiet_nil ?_
 rintro _ ⟨k5, rfl⟩
 replace h := h k5
 refine hK4 _ _ <| c_seq fun K14 hK14 => c_reg <| s_assign H rfl rfl (lt_ rfl) fun a H => c_nil <| hK14 _ _ <| c_seq fun K15 hK15 => c_seq fun K16 hK16 => c_reg <| s_move H rfl rfl (lt_ rfl) fun a H => c_nil <| hK16 _ _ <| c_block ?_
 obtain ⟨I20, mu21, h053, hl54⟩ := h
 refine c_loop (σ := Int × Int) (fun z w => I20 z.1 z.2 w) (fun z w => mu21 z.1 z.2 w) (fun z => [(1, (.int .i64 max2)), (7, (Slc.v (l7.cut 1 (Int.toNat (l9)) (Int.toNat ((l7.l : Int)))))), (8, (.int .i64 z.1)), (20, (.int .i64 z.2))]) (0, 0) h053 (H.weaken ⟨rfl, rfl, rfl, rfl, trivial⟩) ?_
 clear H h053
 rintro ⟨n17, s18⟩ a w19 h H
 replace h := hl54 n17 s18 w19 h
 clear hl54
 replace H : Has 56 [] a [(1, (.int .i64 max2)), (7, (Slc.v (l7.cut 1 (Int.toNat (l9)) (Int.toNat ((l7.l : Int)))))), (8, (.int .i64 n17)), (20, (.int .i64 s18))] := H
 refine c_seq fun K22 hK22 => c_reg <| s_bin H rfl rfl rfl r_lss (lt_ rfl) fun a H => c_nil <| hK22 _ _ <| c_seq fun K23 hK23 => c_cond H rfl (fun hb24 => ?_) (fun hb24 => ?_)
 ·replace h := h.1 hb24
  refine c_skip <| hK23 _ _ <| c_seq fun K25 hK25 => c_block <| c_seq fun K26 hK26 => c_reg <| s_move H rfl rfl (lt_ rfl) fun a H => s_assign H rfl rfl (lt_ rfl) fun a H => c_nil <| hK26 _ _ <| c_seq fun K27 hK27 => c_seq fun K28 hK28 => c_reg <| s_move H rfl rfl (lt_ rfl) fun a H => s_move H rfl rfl (lt_ rfl) fun a H => ?_
  refine s_blt H rfl (H.args (vs := [(Slc.v (l7.cut 1 (Int.toNat (l9)) (Int.toNat ((l7.l : Int)))))]) rfl) (lt_ rfl) (fun cs => b_lenS (z := l7.cut 1 (Int.toNat (l9)) (Int.toNat ((l7.l : Int)))) sl_28) fun a H => s_bin H rfl rfl rfl r_geq (lt_ rfl) fun a H => c_nil <| hK28 _ _ <| c_cond H rfl (fun hb29 => ?_) (fun hb29 => ?_)
  ·replace h := h.1 hb29
   refine c_seq fun K30 hK30 => c_reg ?_
   iterate 3 refine s_assign H rfl rfl (lt_ rfl) fun a H => ?_
   refine c_nil <| hK30 _ _ <| c_ret ?_
   exact e_ret3 H rfl rfl rfl rfl h
  ·replace h := h.2 hb29
   refine c_skip <| hK27 _ _ <| c_seq fun K31 hK31 => c_reg <| s_move H rfl rfl (lt_ rfl) fun a H => s_move H rfl rfl (lt_ rfl) fun a H => ?_
   obtain ⟨a32, hi33, hi34, hi35, h⟩ := h
   refine s_idxS (s := l7.cut 1 (Int.toNat (l9)) (Int.toNat ((l7.l : Int)))) H rfl rfl rfl slc_28 hi33 hi34 hi35 (lt_ rfl) fun a H => ?_
   obtain ⟨l36, hc37, h⟩ := h
   refine s_load (v := (.int .u8 l36)) H rfl rfl one_5 hc37 (lt_ rfl) fun a H => s_assign H rfl rfl (lt_ rfl) fun a H => c_nil <| hK31 _ _ <| c_seq fun K38 hK38 => c_reg <| s_move H rfl rfl (lt_ rfl) fun a H => s_move H rfl rfl (lt_ rfl) fun a H => s_bin H rfl rfl rfl r_and (lt_ rfl) fun a H => s_cv H rfl rfl (r_cvI some_5 int_2) (lt_ rfl) fun a H => s_move H rfl rfl (lt_ rfl) fun a H => s_bin H rfl rfl rfl r_mul (lt_ rfl) fun a H => ?_
   obtain ⟨hz39, h⟩ := h
   refine s_bin H rfl rfl rfl (r_shl hz39) (lt_ rfl) fun a H => s_bin H rfl rfl rfl r_or (lt_ rfl) fun a H => s_assign H rfl rfl (lt_ rfl) fun a H => c_nil <| hK38 _ _ <| c_seq fun K40 hK40 => c_reg <| s_move H rfl rfl (lt_ rfl) fun a H => s_bin H rfl rfl rfl r_lss (lt_ rfl) fun a H => c_nil <| hK40 _ _ <| c_cond H rfl (fun hb41 => ?_) (fun hb41 => ?_)
   ·replace h := h.1 hb41
    refine c_seq fun K42 hK42 => c_block <| c_seq fun K43 hK43 => c_reg <| s_move H rfl rfl (lt_ rfl) fun a H => s_bin H rfl rfl rfl r_eql (lt_ rfl) fun a H => s_move H rfl rfl (lt_ rfl) fun a H => g_join (n := 56) [(47, (.bool ((decide (l36 = 0)) && (decide (0 < s18))))), (1, (.int .i64 max2)), (8, (.int .i64 (orI .i64 n17 (shlI .i64 (wr .i64 (andI .u8 l36 127)) (wr .i64 (7 * s18)))))), (9, (.int .i64 s18))] (.succ (.succ (.succ (.zero _)))) ?_ ?_
    ·intro hr45
     try clear h
     rcases Bool.eq_false_or_eq_true (decide (l36 = 0)) with hg44 | hg44
     ·replace H := H.ch (t := 44) (b := true) rfl hg44
      refine s_move H (wantG H rfl rfl) rfl (lt_ rfl) fun a H => s_bin H (wantG H rfl rfl) rfl rfl r_gtr (lt_ rfl) fun a H => s_pickT H rfl rfl rfl (lt_ rfl) fun a H => ?_
      exact hr45 _ (H.weaken ⟨by rw [hg44]; rfl, rfl, rfl, rfl, trivial⟩)
     ·replace H := H.ch (t := 44) (b := false) rfl hg44
      refine s_skip H (wantN H rfl rfl rfl) rfl (lt_ rfl) fun a H => s_skip H (wantN H rfl rfl rfl) rfl (lt_ rfl) fun a H => s_pickF H rfl rfl rfl (lt_ rfl) fun a H => ?_
      exact hr45 _ (H.weaken ⟨by rw [hg44]; rfl, rfl, rfl, rfl, trivial⟩)
    ·clear H a
     intro a H
     refine s_assign H rfl rfl (lt_ rfl) fun a H => c_nil <| hK43 _ _ <| c_cond H rfl (fun hb46 => ?_) (fun hb46 => ?_)
     ·replace h := h.1 hb46
      refine c_seq fun K47 hK47 => c_reg ?_
      iterate 3 refine s_assign H rfl rfl (lt_ rfl) fun a H => ?_
      refine c_nil <| hK47 _ _ <| c_ret ?_
      exact e_ret3 H rfl rfl rfl rfl h
     ·replace h := h.2 hb46
      refine c_seq fun K48 hK48 => c_reg <| s_move H rfl rfl (lt_ rfl) fun a H => s_move H rfl rfl (lt_ rfl) fun a H => s_bin H rfl rfl rfl r_gtr (lt_ rfl) fun a H => s_assign H rfl rfl (lt_ rfl) fun a H => c_nil <| hK48 _ _ <| c_cond H rfl (fun hb49 => ?_) (fun hb49 => ?_)
      ·replace h := h.1 hb49
       refine c_seq fun K50 hK50 => c_reg ?_
       iterate 3 refine s_assign H rfl rfl (lt_ rfl) fun a H => ?_
       refine c_nil <| hK50 _ _ <| c_ret ?_
       exact e_ret3 H rfl rfl rfl rfl h
      ·replace h := h.2 hb49
       refine c_skip <| hK42 _ _ <| c_seq fun K51 hK51 => c_reg <| s_move H rfl rfl (lt_ rfl) fun a H => s_move H rfl rfl (lt_ rfl) fun a H => s_bin H rfl rfl rfl r_add (lt_ rfl) fun a H => ?_
       iterate 3 refine s_assign H rfl rfl (lt_ rfl) fun a H => ?_
       refine c_nil <| hK51 _ _ <| c_ret ?_
       exact e_ret3 H rfl rfl rfl rfl h
   ·replace h := h.2 hb41
    refine c_skip <| hK25 _ _ <| c_reg <| s_bin H rfl rfl rfl r_add (lt_ rfl) fun a H => s_move H rfl rfl (lt_ rfl) fun a H => c_nil <| Exists.intro (orI .i64 n17 (shlI .i64 (wr .i64 (andI .u8 l36 127)) (wr .i64 (7 * s18))), wr .i64 (s18 + 1)) ⟨h.1, h.2, H.weaken ⟨rfl, rfl, rfl, rfl, trivial⟩⟩
 ·replace h := h.2 hb24
  refine c_exit ?_
  first | (simp only [Exit.then, Exit.inBlock, ↓reduceIte]; fail_if_success simp only [Nat.reduceEqDiff]) | simp only [Exit.then, Exit.inBlock, ↓reduceIte, Nat.reduceEqDiff]
  refine hK15 _ _ <| c_seq fun K52 hK52 => c_reg ?_
  iterate 3 refine s_assign H rfl rfl (lt_ rfl) fun a H => ?_
  refine c_nil <| hK52 _ _ <| c_ret ?_
  exact e_ret3 H rfl rfl rfl rfl h

set_option maxRecDepth 100000 in
set_option maxHeartbeats 4000000 in
theorem sim_pack_first_Err (f1 : Option Addr) (w : World) (Q : Ending → World → Prop) (h : vc_pack_first_Err f1 w Q) : Calls PP F_pack_first_Err #[(.pointer f1)] w Q := by
 unfold vc_pack_first_Err at h
 refine enter (n := 7) (l := [(.pointer f1)]) Tryd.func83 rfl rfl (Nat.le_of_ble_eq_true rfl) fun a H => ?_
 replace H : Has 7 [] a [(0, (.pointer f1))] := H
 refine c_seq fun K2 hK2 => c_reg <| s_assign H rfl rfl (lt_ rfl) fun a H => c_nil <| hK2 _ _ <| c_seq fun K3 hK3 => c_reg <| s_move H rfl rfl (lt_ rfl) fun a H => ?_
 obtain ⟨a4, hq7, h⟩ := h
 subst hq7
 refine s_nil H rfl rfl (lt_ rfl) fun a H => s_fld H rfl rfl fld_107_0 (lt_ rfl) fun a H => ?_
 obtain ⟨l5, hc6, h⟩ := h
 refine s_load (v := (.int .i64 l5)) H rfl rfl one_29 hc6 (lt_ rfl) fun a H => s_assign H rfl rfl (lt_ rfl) fun a H => c_nil <| hK3 _ _ <| c_ret ?_
 exact e_ret1 H rfl rfl h

set_option maxRecDepth 100000 in
set_option maxHeartbeats 4000000 in
theorem sim_pack_Reader_Text (r1 : Option Addr) (max2 : Int) (w : World) (Q : Ending → World → Prop) (h : vc_pack_Reader_Text r1 max2 w Q) : Calls PP F_pack_Reader_Text #[(.pointer r1), (.int .i64 max2)] w Q := by
 unfold vc_pack_Reader_Text at h
 refine enter (n := 9) (l := [(.pointer r1), (.int .i64 max2)]) Tryd.func84 rfl rfl (Nat.le_of_ble_eq_true rfl) fun a H => ?_
 replace H : Has 9 [] a [(0, (.pointer r1)), (1, (.int .i64 max2))] := H
 refine c_seq fun K3 hK3 => c_reg <| s_assign H rfl rfl (lt_ rfl) fun a H => c_nil <| hK3 _ _ <| c_seq fun K4 hK4 => c_reg <| s_move H rfl rfl (lt_ rfl) fun a H => s_move H rfl rfl (lt_ rfl) fun a H => s_call H rfl body_86 (H.args (vs := [(.pointer r1), (.int .i64 max2)]) rfl) (lt_ rfl) h ?_ (fun c w' h H => e_panic (P := PP) (fn := Tryd.f84) H h)
 clear H h a
 rintro _ w5 a ⟨Bytes6, rfl, h⟩ H
 obtain ⟨s7, hq8, h⟩ := h
 refine s_cv H rfl rfl hq8 (lt_ rfl) ?_
 clear H a hq8
 intro a H
 refine s_assign H rfl rfl (lt_ rfl) fun a H => c_nil <| hK4 _ _ <| c_ret ?_
 exact e_ret1 H rfl rfl h

set_option maxRecDepth 100000 in
set_option maxHeartbeats 4000000 in
theorem sim_pack_Reader_Bool (r1 : Option Addr) (w : World) (Q : Ending → World → Prop) (h : vc_pack_Reader_Bool r1 w Q) : Calls PP F_pack_Reader_Bool #[(.pointer r1)] w Q := by
 unfold vc_pack_Reader_Bool at h
 refine enter (n := 35) (l := [(.pointer r1)]) Tryd.func85 rfl rfl (Nat.le_of_ble_eq_true rfl) fun a H => ?_
 replace H : Has 35 [] a [(0, (.pointer r1))] := H
 refine c_seq fun K2 hK2 => c_reg <| s_assign H rfl rfl (lt_ rfl) fun a H => c_nil <| hK2 _ _ <| c_seq fun K3 hK3 => c_seq fun K4 hK4 => c_reg <| s_move H rfl rfl (lt_ rfl) fun a H => s_call H rfl body_81 (H.args (vs := [(.pointer r1)]) rfl) (lt_ rfl) h ?_ (fun c w' h H => e_panic (P := PP) (fn := Tryd.f85) H h)
 clear H h a
 rintro _ w5 a ⟨stopp6, rfl, h⟩ H
 refine c_nil <| hK4 _ _ <| c_cond H rfl (fun hb7 => ?_) (fun hb7 => ?_)
 ·replace h := h.1 hb7
  refine c_seq fun K8 hK8 => c_reg <| s_assign H rfl rfl (lt_ rfl) fun a H => c_nil <| hK8 _ _ <| c_ret ?_
  exact e_ret1 H rfl rfl h
 ·replace h := h.2 hb7
  refine c_skip <| hK3 _ _ <| c_seq fun K9 hK9 => c_seq fun K10 hK10 => c_regD mixed (by kernel_rfl) <| z_move H rfl rfl (lt_ rfl) fun a H => ?_
  obtain ⟨a12, hq47, h⟩ := h
  subst hq47
  refine z_nil H rfl rfl (lt_ rfl) fun a H => z_fld H rfl rfl fld_121_2 (lt_ rfl) fun a H => ?_
  obtain ⟨l13, hc14, h⟩ := h
  refine z_load (v := (.int .i64 l13)) H rfl rfl one_3 hc14 (lt_ rfl) fun a H => z_move H rfl rfl (lt_ rfl) fun a H => z_nil H rfl rfl (lt_ rfl) fun a H => z_fld H rfl rfl fld_121_1 (lt_ rfl) fun a H => ?_
  obtain ⟨l15, hc16, h⟩ := h
  refine z_load (v := (Slc.v l15)) H rfl rfl one_28 hc16 (lt_ rfl) fun a H => z_blt H rfl (H.args (vs := [(Slc.v l15)]) rfl) (lt_ rfl) (fun cs w => b_lenS (z := l15) sl_28) fun a H => z_bin H rfl rfl rfl r_lss (lt_ rfl) fun a H => z_move H rfl rfl (lt_ rfl) fun a H => ?_
  obtain ⟨x29, hy30, hn31, h⟩ := h
  refine zg_join (n := 35) [(27, (.bool x29)), (0, (.pointer (some a12)))] (.succ (.succ (.succ (.succ (.succ (.succ (.succ (.succ (.succ (.succ (.succ (.succ (.zero _))))))))))))) ?_ ?_
  ·intro hr18
   try clear h
   rcases Bool.eq_false_or_eq_true (decide (l13 < (l15.l : Int))) with hg17 | hg17
   ·replace H := H.ch (t := 15) (b := true) rfl hg17
    replace h := hy30 hg17
    refine z_move H (wantG H rfl rfl) rfl (lt_ rfl) fun a H => z_nil H (wantG H rfl rfl) rfl (lt_ rfl) fun a H => z_fld H (wantG H rfl rfl) rfl fld_121_1 (lt_ rfl) fun a H => ?_
    obtain ⟨l19, hc20, h⟩ := h
    refine z_load (v := (Slc.v l19)) H (wantG H rfl rfl) rfl one_28 hc20 (lt_ rfl) fun a H => z_move H (wantG H rfl rfl) rfl (lt_ rfl) fun a H => z_nil H (wantG H rfl rfl) rfl (lt_ rfl) fun a H => z_fld H (wantG H rfl rfl) rfl fld_121_2 (lt_ rfl) fun a H => ?_
    obtain ⟨l21, hc22, h⟩ := h
    refine z_load (v := (.int .i64 l21)) H (wantG H rfl rfl) rfl one_3 hc22 (lt_ rfl) fun a H => ?_
    obtain ⟨a23, hi24, hi25, hi26, h⟩ := h
    refine z_idxS (s := l19) H (wantG H rfl rfl) rfl rfl slc_28 hi24 hi25 hi26 (lt_ rfl) fun a H => ?_
    obtain ⟨l27, hc28, h⟩ := h
    refine z_load (v := (.int .u8 l27)) H (wantG H rfl rfl) rfl one_5 hc28 (lt_ rfl) fun a H => z_bin H (wantG H rfl rfl) rfl rfl r_gtr (lt_ rfl) fun a H => z_pickT H rfl rfl rfl (lt_ rfl) fun a H => ?_
    subst h
    exact hr18 _ (H.weaken ⟨rfl, rfl, trivial⟩)
   ·replace H := H.ch (t := 15) (b := false) rfl hg17
    iterate 11 refine z_skip H (wantN H rfl rfl rfl) rfl (lt_ rfl) fun a H => ?_
    refine z_pickF H rfl rfl rfl (lt_ rfl) fun a H => ?_
    replace h := hn31 hg17
    subst h
    exact hr18 _ (H.weaken ⟨rfl, rfl, trivial⟩)
  ·clear H a
   clear hy30 hn31
   intro a H
   refine wpQuiet_nil ?_
   rintro _ ⟨k11, rfl⟩
   replace h := h k11
   refine hK10 _ _ <| c_cond H rfl (fun hb32 => ?_) (fun hb32 => ?_)
   ·replace h := h.1 hb32
    refine c_seq fun K33 hK33 => c_reg <| s_move H rfl rfl (lt_ rfl) fun a H => s_nil H rfl rfl (lt_ rfl) fun a H => s_fld H rfl rfl fld_121_0 (lt_ rfl) fun a H => s_call H rfl body_76 (H.args (vs := [(.pointer (some (a12.add 0))), (.int .i64 31)]) rfl) (lt_ rfl) h ?_ (fun c w' h H => e_panic (P := PP) (fn := Tryd.f85) H h)
    clear H h a
    rintro _ w34 a ⟨rfl, h⟩ H
    refine c_nil <| hK33 _ _ <| c_seq fun K35 hK35 => c_reg <| s_assign H rfl rfl (lt_ rfl) fun a H => c_nil <| hK35 _ _ <| c_ret ?_
    exact e_ret1 H rfl rfl h
   ·replace h := h.2 hb32
    refine c_skip <| hK9 _ _ <| c_seq fun K40 hK40 => c_reg <| s_move H rfl rfl (lt_ rfl) fun a H => s_call H rfl body_58 (H.args (vs := [(.pointer (some a12))]) rfl) (lt_ rfl) h ?_ (fun c w' h H => e_panic (P := PP) (fn := Tryd.f85) H h)
    clear H h a
    rintro _ w41 a ⟨Byte42, rfl, h⟩ H
    refine s_bin H rfl rfl rfl r_eql (lt_ rfl) fun a H => s_assign H rfl rfl (lt_ rfl) fun a H => c_nil <| hK40 _ _ <| c_ret ?_
    exact e_ret1 H rfl rfl h

set_option maxRecDepth 100000 in
set_option maxHeartbeats 4000000 in
theorem sim_pack_Reader_Bytes (r1 : Option Addr) (max2 : Int) (w : World) (Q : Ending → World → Prop) (h : vc_pack_Reader_Bytes r1 max2 w Q) : Calls PP F_pack_Reader_Bytes #[(.pointer r1), (.int .i64 max2)] w Q := by
 unfold vc_pack_Reader_Bytes at h
 refine enter (n := 66) (l := [(.pointer r1), (.int .i64 max2)]) Tryd.func86 rfl rfl (Nat.le_of_ble_eq_true rfl) fun a H => ?_
 replace H : Has 66 [] a [(0, (.pointer r1)), (1, (.int .i64 max2))] := H
 refine c_seq fun K3 hK3 => c_reg <| s_assign H rfl rfl (lt_ rfl) fun a H => c_nil <| hK3 _ _ <| c_seq fun K4 hK4 => c_seq fun K5 hK5 => c_reg <| s_move H rfl rfl (lt_ rfl) fun a H => s_call H rfl body_81 (H.args (vs := [(.pointer r1)]) rfl) (lt_ rfl) h ?_ (fun c w' h H => e_panic (P := PP) (fn := Tryd.f86) H h)
 clear H h a
 rintro _ w6 a ⟨stopp7, rfl, h⟩ H
 refine c_nil <| hK5 _ _ <| c_cond H rfl (fun hb8 => ?_) (fun hb8 => ?_)
 ·replace h := h.1 hb8
  refine c_seq fun K9 hK9 => c_reg <| s_assign H rfl rfl (lt_ rfl) fun a H => c_nil <| hK9 _ _ <| c_ret ?_
  exact e_ret1 H rfl rfl h
 ·replace h := h.2 hb8
  refine c_skip <| hK4 _ _ <| c_seq fun K10 hK10 => c_reg <| s_move H rfl rfl (lt_ rfl) fun a H => s_move H rfl rfl (lt_ rfl) fun a H => s_call H rfl body_82 (H.args (vs := [(.pointer r1), (.int .i64 max2)]) rfl) (lt_ rfl) h ?_ (fun c w' h H => e_panic (P := PP) (fn := Tryd.f86) H h)
  clear H h a
  rintro _ w11 a ⟨numbe12, numbe13, numbe14, rfl, h⟩ H
  refine s_move H rfl rfl (lt_ rfl) fun a H => ?_
  iterate 3 refine s_ext H rfl rfl rfl (lt_ rfl) fun a H => ?_
  iterate 3 refine s_assign H rfl rfl (lt_ rfl) fun a H => ?_
  refine c_nil <| hK10 _ _ <| c_seq fun K15 hK15 => ?_
  obtain ⟨R17, h, hx69⟩ := h
  have hJ54 : ∀ (a : Act) (e16 : Int) (w18 : World), R17 e16 w18 → Has 66 [] a [(0, (.pointer r1)), (5, (.int .i64 numbe12)), (6, (.int .i64 numbe13)), (7, (.int .i64 e16))] → K15 a w18 := by
   clear h
   intro a e16 w18 h H
   replace h := hx69 e16 w18 h
   refine hK15 _ _ <| c_seq fun K19 hK19 => c_seq fun K20 hK20 => c_reg <| s_move H rfl rfl (lt_ rfl) fun a H => s_bin H rfl rfl rfl r_neq (lt_ rfl) fun a H => c_nil <| hK20 _ _ <| c_cond H rfl (fun hb21 => ?_) (fun hb21 => ?_)
   ·replace h := h.1 hb21
    refine c_seq fun K22 hK22 => c_reg <| s_move H rfl rfl (lt_ rfl) fun a H => ?_
    obtain ⟨a23, hq30, h⟩ := h
    subst hq30
    refine s_nil H rfl rfl (lt_ rfl) fun a H => s_fld H rfl rfl fld_121_0 (lt_ rfl) fun a H => s_move H rfl rfl (lt_ rfl) fun a H => s_call H rfl body_76 (H.args (vs := [(.pointer (some (a23.add 0))), (.int .i64 e16)]) rfl) (lt_ rfl) h ?_ (fun c w' h H => e_panic (P := PP) (fn := Tryd.f86) H h)
    clear H h a
    rintro _ w24 a ⟨rfl, h⟩ H
    refine c_nil <| hK22 _ _ <| c_seq fun K25 hK25 => c_reg <| s_assign H rfl rfl (lt_ rfl) fun a H => c_nil <| hK25 _ _ <| c_ret ?_
    exact e_ret1 H rfl rfl h
   ·replace h := h.2 hb21
    refine c_skip <| hK19 _ _ <| c_seq fun K31 hK31 => c_reg <| s_move H rfl rfl (lt_ rfl) fun a H => ?_
    obtain ⟨a32, hq53, h⟩ := h
    subst hq53
    refine s_nil H rfl rfl (lt_ rfl) fun a H => s_fld H rfl rfl fld_121_2 (lt_ rfl) fun a H => ?_
    obtain ⟨l33, hc34, h⟩ := h
    refine s_load (v := (.int .i64 l33)) H rfl rfl one_3 hc34 (lt_ rfl) fun a H => s_move H rfl rfl (lt_ rfl) fun a H => s_bin H rfl rfl rfl r_add (lt_ rfl) fun a H => s_assign H rfl rfl (lt_ rfl) fun a H => c_nil <| hK31 _ _ <| c_seq fun K35 hK35 => c_reg ?_
    iterate 3 refine s_move H rfl rfl (lt_ rfl) fun a H => ?_
    refine s_bin H rfl rfl rfl r_add (lt_ rfl) fun a H => s_nil H rfl rfl (lt_ rfl) fun a H => s_fld H rfl rfl fld_121_2 (lt_ rfl) fun a H => ?_
    obtain ⟨hs37, hf38, h⟩ := h
    refine s_sto (p := a32.add 2) (v := (.int .i64 (wr .i64 ((wr .i64 (l33 + numbe13)) + numbe12)))) H rfl rfl rfl rfl one_3 rfl hs37 hf38 ?_
    clear H
    intro H
    generalize hww36 : World.setCell w18 (a32.add 2) (.int .i64 (wr .i64 ((wr .i64 (l33 + numbe13)) + numbe12))) = w36 at h ⊢
    have w36S : SetAt w18 (a32.add 2) (.int .i64 (wr .i64 ((wr .i64 (l33 + numbe13)) + numbe12))) w36 := ⟨hww36.symm⟩
    clear hww36 hs37 hf38
    refine c_nil <| hK35 _ _ <| c_seq fun K39 hK39 => ?_
    replace H := H.weaken (L' := [(0, (.pointer (some a32))), (8, (.int .i64 (wr .i64 (l33 + numbe13))))]) ⟨rfl, rfl, trivial⟩
    obtain ⟨l40, hc41, h⟩ := h
    obtain ⟨l42, hc43, h⟩ := h
    obtain ⟨hi44, hi45, hi46, h⟩ := h
    refine c_any (V := [(0, (.pointer (some a32))), (1, (.pointer (some a32))), (2, (.pointer (some (a32.add 1)))), (3, (Slc.v l40)), (4, (.int .i64 (wr .i64 (l33 + numbe13)))), (5, (.pointer (some a32))), (6, (.pointer (some a32))), (7, (.pointer (some (a32.add 2)))), (8, (.int .i64 l42)), (9, (Slc.v (l40.cut 1 (Int.toNat (wr .i64 (l33 + numbe13))) (Int.toNat (l42)))))]) (⟨[[], [0], [1], [2], [], [], [5], [6], [7], [3, 4, 8], [9], [0, 1, 2, 3, 4, 5, 6, 7, 8, 9, 10]], [some 55, some 56, some 57, some 58, some 59, some 60, some 61, some 62, some 63, some 64, some 65, some 4], [10], [0, 0, 0, 0, 0, 0, 0, 0, 0, 0, 0, 1], [0, 0, 0, 0, 0, 0, 0, 0, 0, 0, 1, 1]⟩ : Rg) [(0, (.pointer (some a32))), (8, (.int .i64 (wr .i64 (l33 + numbe13))))] mixed (by kernel_rfl) H ?_
    refine Stg.eff [0, 1, 2, 3, 4, 5, 6, 7, 8, 9] (by kernel_rfl) rfl (.cons ?_ (.cons ?_ (.cons ?_ (.cons ?_ (.cons ?_ (.cons ?_ (.cons ?_ (.cons ?_ (.cons ?_ (.cons ?_ .nil)))))))))) ?_
    ·refine Ans.mk rfl rfl fun a H => ?_
     replace H := H.weaken (L' := [(0, (.pointer (some a32)))]) ⟨rfl, trivial⟩
     refine s_move H rfl rfl (lt_ rfl) fun a H => c_nil ⟨rfl, rfl, H.weaken (L' := [(55, (.pointer (some a32)))]) ⟨rfl, trivial⟩⟩
    ·refine Ans.mk rfl rfl fun a H => ?_
     replace H := H.weaken (L' := [(55, (.pointer (some a32)))]) ⟨rfl, trivial⟩
     refine s_nil H rfl rfl (lt_ rfl) fun a H => c_nil ⟨rfl, rfl, H.weaken (L' := [(56, (.pointer (some a32)))]) ⟨rfl, trivial⟩⟩
    ·refine Ans.mk rfl rfl fun a H => ?_
     replace H := H.weaken (L' := [(56, (.pointer (some a32)))]) ⟨rfl, trivial⟩
     refine s_fld H rfl rfl fld_121_1 (lt_ rfl) fun a H => c_nil ⟨rfl, rfl, H.weaken (L' := [(57, (.pointer (some (a32.add 1))))]) ⟨rfl, trivial⟩⟩
    ·refine Ans.mk rfl rfl fun a H => ?_
     replace H := H.weaken (L' := [(57, (.pointer (some (a32.add 1))))]) ⟨rfl, trivial⟩
     refine s_load (v := (Slc.v l40)) H rfl rfl one_28 hc41 (lt_ rfl) fun a H => c_nil ⟨rfl, rfl, H.weaken (L' := [(58, (Slc.v l40))]) ⟨rfl, trivial⟩⟩
    ·refine Ans.mk rfl rfl fun a H => ?_
     replace H := H.weaken (L' := [(8, (.int .i64 (wr .i64 (l33 + numbe13))))]) ⟨rfl, trivial⟩
     refine s_move H rfl rfl (lt_ rfl) fun a H => c_nil ⟨rfl, rfl, H.weaken (L' := [(59, (.int .i64 (wr .i64 (l33 + numbe13))))]) ⟨rfl, trivial⟩⟩
    ·refine Ans.mk rfl rfl fun a H => ?_
     replace H := H.weaken (L' := [(0, (.pointer (some a32)))]) ⟨rfl, trivial⟩
     refine s_move H rfl rfl (lt_ rfl) fun a H => c_nil ⟨rfl, rfl, H.weaken (L' := [(60, (.pointer (some a32)))]) ⟨rfl, trivial⟩⟩
    ·refine Ans.mk rfl rfl fun a H => ?_
     replace H := H.weaken (L' := [(60, (.pointer (some a32)))]) ⟨rfl, trivial⟩
     refine s_nil H rfl rfl (lt_ rfl) fun a H => c_nil ⟨rfl, rfl, H.weaken (L' := [(61, (.pointer (some a32)))]) ⟨rfl, trivial⟩⟩
    ·refine Ans.mk rfl rfl fun a H => ?_
     replace H := H.weaken (L' := [(61, (.pointer (some a32)))]) ⟨rfl, trivial⟩
     refine s_fld H rfl rfl fld_121_2 (lt_ rfl) fun a H => c_nil ⟨rfl, rfl, H.weaken (L' := [(62, (.pointer (some (a32.add 2))))]) ⟨rfl, trivial⟩⟩
    ·refine Ans.mk rfl rfl fun a H => ?_
     replace H := H.weaken (L' := [(62, (.pointer (some (a32.add 2))))]) ⟨rfl, trivial⟩
     refine s_load (v := (.int .i64 l42)) H rfl rfl one_3 hc43 (lt_ rfl) fun a H => c_nil ⟨rfl, rfl, H.weaken (L' := [(63, (.int .i64 l42))]) ⟨rfl, trivial⟩⟩
    ·refine Ans.mk rfl rfl fun a H => ?_
     replace H := H.weaken (L' := [(58, (Slc.v l40)), (59, (.int .i64 (wr .i64 (l33 + numbe13)))), (63, (.int .i64 l42))]) ⟨rfl, rfl, rfl, trivial⟩
     refine s_slice (v := (Slc.v (l40.cut 1 (Int.toNat (wr .i64 (l33 + numbe13))) (Int.toNat (l42))))) H rfl rfl ⟨rfl, rfl⟩ ⟨rfl, rfl⟩ ⟨rfl, rfl⟩ (r_sliceSlc (lo := (some (.i64, wr .i64 (l33 + numbe13)))) (hi := (some (.i64, l42))) slc_28 rfl rfl hi44 hi45 hi46) (lt_ rfl) fun a H => c_nil ⟨rfl, rfl, H.weaken (L' := [(64, (Slc.v (l40.cut 1 (Int.toNat (wr .i64 (l33 + numbe13))) (Int.toNat (l42)))))]) ⟨rfl, trivial⟩⟩
    ·intro a H
     replace H := H.weaken (L' := [(64, (Slc.v (l40.cut 1 (Int.toNat (wr .i64 (l33 + numbe13))) (Int.toNat (l42)))))]) ⟨rfl, trivial⟩
     refine s_call H rfl body_25 (H.args (vs := [(Slc.v (l40.cut 1 (Int.toNat (wr .i64 (l33 + numbe13))) (Int.toNat (l42))))]) rfl) (lt_ rfl) h ?_ (fun c w' h H => e_panic (P := PP) (fn := Tryd.f86) H h)
     clear H h a
     rintro _ w47 a ⟨Clone48, rfl, h⟩ H
     refine c_nil ?_
     refine effQ.ok (v := (Slc.v Clone48)) (H.weaken (L' := [(65, (Slc.v Clone48))]) ⟨rfl, trivial⟩) ⟨[(0, (.pointer (some a32))), (1, (.pointer (some a32))), (2, (.pointer (some (a32.add 1)))), (3, (Slc.v l40)), (4, (.int .i64 (wr .i64 (l33 + numbe13)))), (5, (.pointer (some a32))), (6, (.pointer (some a32))), (7, (.pointer (some (a32.add 2)))), (8, (.int .i64 l42)), (9, (Slc.v (l40.cut 1 (Int.toNat (wr .i64 (l33 + numbe13))) (Int.toNat (l42))))), (10, (Slc.v Clone48)), (11, (Slc.v Clone48))], ⟨rfl, rfl, rfl, rfl, rfl, rfl, rfl, rfl, rfl, rfl, rfl, trivial⟩, ?_⟩
     refine Stg.fin [11] (by kernel_rfl) (.cons ?_ .nil) ?_
     ·refine Ans.mk rfl rfl fun a H => ?_
      replace H := H.weaken (L' := [(65, (Slc.v Clone48))]) ⟨rfl, trivial⟩
      refine s_assign H rfl rfl (lt_ rfl) fun a H => c_nil ⟨rfl, rfl, H.weaken (L' := [(4, (Slc.v Clone48))]) ⟨rfl, trivial⟩⟩
     ·intro a H
      replace H := H.weaken (L' := [(4, (Slc.v Clone48))]) ⟨rfl, trivial⟩
      refine hK39 _ _ <| c_ret ?_
      exact e_ret1 H rfl rfl h
  clear hx69
  refine c_seq fun K55 hK55 => c_regD mixed (by kernel_rfl) <| z_move H rfl rfl (lt_ rfl) fun a H => z_bin H rfl rfl rfl r_eql (lt_ rfl) fun a H => z_move H rfl rfl (lt_ rfl) fun a H => ?_
  obtain ⟨x65, hy66, hn67, h⟩ := h
  refine zg_join (n := 66) [(35, (.bool x65)), (0, (.pointer r1)), (5, (.int .i64 numbe12)), (6, (.int .i64 numbe13)), (7, (.int .i64 numbe14))] (.succ (.succ (.succ (.succ (.succ (.succ (.succ (.succ (.succ (.succ (.succ (.succ (.succ (.succ (.succ (.zero _)))))))))))))))) ?_ ?_
  ·intro hr58
   try clear h
   rcases Bool.eq_false_or_eq_true (decide (numbe14 = 0)) with hg57 | hg57
   ·replace H := H.ch (t := 20) (b := true) rfl hg57
    replace h := hy66 hg57
    refine z_move H (wantG H rfl rfl) rfl (lt_ rfl) fun a H => z_move H (wantG H rfl rfl) rfl (lt_ rfl) fun a H => ?_
    obtain ⟨a59, hq64, h⟩ := h
    subst hq64
    refine z_nil H (wantG H rfl rfl) rfl (lt_ rfl) fun a H => z_fld H (wantG H rfl rfl) rfl fld_121_1 (lt_ rfl) fun a H => ?_
    obtain ⟨l60, hc61, h⟩ := h
    refine z_load (v := (Slc.v l60)) H (wantG H rfl rfl) rfl one_28 hc61 (lt_ rfl) fun a H => z_blt H (wantG H rfl rfl) (H.args (vs := [(Slc.v l60)]) rfl) (lt_ rfl) (fun cs w => b_lenS (z := l60) sl_28) fun a H => z_move H (wantG H rfl rfl) rfl (lt_ rfl) fun a H => z_nil H (wantG H rfl rfl) rfl (lt_ rfl) fun a H => z_fld H (wantG H rfl rfl) rfl fld_121_2 (lt_ rfl) fun a H => ?_
    obtain ⟨l62, hc63, h⟩ := h
    refine z_load (v := (.int .i64 l62)) H (wantG H rfl rfl) rfl one_3 hc63 (lt_ rfl) fun a H => z_bin H (wantG H rfl rfl) rfl rfl r_sub (lt_ rfl) fun a H => z_move H (wantG H rfl rfl) rfl (lt_ rfl) fun a H => z_bin H (wantG H rfl rfl) rfl rfl r_sub (lt_ rfl) fun a H => z_bin H (wantG H rfl rfl) rfl rfl r_gtr (lt_ rfl) fun a H => z_pickT H rfl rfl rfl (lt_ rfl) fun a H => ?_
    subst h
    exact hr58 _ (H.weaken ⟨rfl, rfl, rfl, rfl, rfl, trivial⟩)
   ·replace H := H.ch (t := 20) (b := false) rfl hg57
    iterate 14 refine z_skip H (wantN H rfl rfl rfl) rfl (lt_ rfl) fun a H => ?_
    refine z_pickF H rfl rfl rfl (lt_ rfl) fun a H => ?_
    replace h := hn67 hg57
    subst h
    exact hr58 _ (H.weaken ⟨rfl, rfl, rfl, rfl, rfl, trivial⟩)
  ·clear H a
   clear hy66 hn67
   intro a H
   refine wpQuiet_nil ?_
   rintro _ ⟨k56, rfl⟩
   replace h := h k56
   refine hK55 _ _ <| c_cond H rfl (fun hb68 => ?_) (fun hb68 => ?_)
   ·replace h := h.1 hb68
    refine c_reg <| s_assign H rfl rfl (lt_ rfl) fun a H => c_nil ?_
    exact hJ54 _ _ _ h (H.weaken ⟨rfl, rfl, rfl, rfl, trivial⟩)
   ·replace h := h.2 hb68
    refine c_skip ?_
    exact hJ54 _ _ _ h (H.weaken ⟨rfl, rfl, rfl, rfl, trivial⟩)

set_option maxRecDepth 100000 in
set_option maxHeartbeats 4000000 in
theorem sim_pack_Reader_End (r1 : Option Addr) (w : World) (Q : Ending → World → Prop) (h : vc_pack_Reader_End r1 w Q) : Calls PP F_pack_Reader_End #[(.pointer r1)] w Q := by
 unfold vc_pack_Reader_End at h
 refine enter (n := 21) (l := [(.pointer r1)]) Tryd.func87 rfl rfl (Nat.le_of_ble_eq_true rfl) fun a H => ?_
 replace H : Has 21 [] a [(0, (.pointer r1))] := H
 refine c_seq fun K2 hK2 => c_pre 2 mixed (by kernel_rfl) rfl (by kernel_rfl) ?_
 simp only [List.take_succ_cons, List.take_zero, List.drop_succ_cons, List.drop_zero]
 refine s_move H rfl rfl (lt_ rfl) fun a H => s_call H rfl body_81 (H.args (vs := [(.pointer r1)]) rfl) (lt_ rfl) h ?_ (fun c w' h H => e_panic (P := PP) (fn := Tryd.f87) H h)
 clear H h a
 rintro _ w3 a ⟨stopp4, rfl, h⟩ H
 refine c_nil ?_
 simp only [preQ]
 refine z_un H rfl rfl r_not (lt_ rfl) fun a H => z_move H rfl rfl (lt_ rfl) fun a H => ?_
 obtain ⟨x14, hy15, hn16, h⟩ := h
 refine zg_join (n := 21) [(16, (.bool x14)), (0, (.pointer r1))] (.succ (.succ (.succ (.succ (.succ (.succ (.succ (.succ (.succ (.succ (.succ (.zero _)))))))))))) ?_ ?_
 ·intro hr7
  try clear h
  rcases Bool.eq_false_or_eq_true (!stopp4) with hg6 | hg6
  ·replace H := H.ch (t := 5) (b := true) rfl hg6
   replace h := hy15 hg6
   refine z_move H (wantG H rfl rfl) rfl (lt_ rfl) fun a H => ?_
   obtain ⟨a8, hq13, h⟩ := h
   subst hq13
   refine z_nil H (wantG H rfl rfl) rfl (lt_ rfl) fun a H => z_fld H (wantG H rfl rfl) rfl fld_121_2 (lt_ rfl) fun a H => ?_
   obtain ⟨l9, hc10, h⟩ := h
   refine z_load (v := (.int .i64 l9)) H (wantG H rfl rfl) rfl one_3 hc10 (lt_ rfl) fun a H => z_move H (wantG H rfl rfl) rfl (lt_ rfl) fun a H => z_nil H (wantG H rfl rfl) rfl (lt_ rfl) fun a H => z_fld H (wantG H rfl rfl) rfl fld_121_1 (lt_ rfl) fun a H => ?_
   obtain ⟨l11, hc12, h⟩ := h
   refine z_load (v := (Slc.v l11)) H (wantG H rfl rfl) rfl one_28 hc12 (lt_ rfl) fun a H => z_blt H (wantG H rfl rfl) (H.args (vs := [(Slc.v l11)]) rfl) (lt_ rfl) (fun cs w => b_lenS (z := l11) sl_28) fun a H => z_bin H (wantG H rfl rfl) rfl rfl r_lss (lt_ rfl) fun a H => z_pickT H rfl rfl rfl (lt_ rfl) fun a H => ?_
   subst h
   exact hr7 _ (H.weaken ⟨rfl, rfl, trivial⟩)
  ·replace H := H.ch (t := 5) (b := false) rfl hg6
   iterate 10 refine z_skip H (wantN H rfl rfl rfl) rfl (lt_ rfl) fun a H => ?_
   refine z_pickF H rfl rfl rfl (lt_ rfl) fun a H => ?_
   replace h := hn16 hg6
   subst h
   exact hr7 _ (H.weaken ⟨rfl, rfl, trivial⟩)
 ·clear H a
  clear hy15 hn16
  intro a H
  refine wpQuiet_nil ?_
  rintro _ ⟨k5, rfl⟩
  replace h := h k5
  refine hK2 _ _ <| c_cond H rfl (fun hb17 => ?_) (fun hb17 => ?_)
  ·replace h := h.1 hb17
   refine c_reg <| s_move H rfl rfl (lt_ rfl) fun a H => ?_
   obtain ⟨a18, hq24, h⟩ := h
   subst hq24
   refine s_nil H rfl rfl (lt_ rfl) fun a H => s_fld H rfl rfl fld_121_0 (lt_ rfl) fun a H => s_call H rfl body_76 (H.args (vs := [(.pointer (some (a18.add 0))), (.int .i64 35)]) rfl) (lt_ rfl) h ?_ (fun c w' h H => e_panic (P := PP) (fn := Tryd.f87) H h)
   clear H h a
   rintro _ w19 a ⟨rfl, h⟩ H
   refine c_nil ?_
   exact e_ret0 H rfl h
  ·replace h := h.2 hb17
   refine c_skip ?_
   exact e_ret0 H rfl h

set_option maxRecDepth 100000 in
set_option maxHeartbeats 4000000 in
theorem sim_tag_proper (Count1 : Int) (Clien2 : Int) (w : World) (Q : Ending → World → Prop) (h : vc_tag_proper Count1 Clien2 w Q) : Calls PP F_tag_proper #[(.agg #[(.int .i64 Count1), (.int .i64 Clien2)])] w Q := by
 unfold vc_tag_proper at h
 refine enter (n := 21) (l := [(.agg #[(.int .i64 Count1), (.int .i64 Clien2)])]) Tryd.func88 rfl rfl (Nat.le_of_ble_eq_true rfl) fun a H => ?_
 replace H : Has 21 [] a [(0, (.agg #[(.int .i64 Count1), (.int .i64 Clien2)]))] := H
 refine c_seq fun K3 hK3 => c_reg ?_
 replace h := h.get
 obtain ⟨b4, w5, nb6, h⟩ := h
 refine s_box H rfl rfl (lt_ rfl) ?_
 rw [← nb6.at_]
 clear H a
 intro a H
 refine nb6.go <| s_assign H rfl rfl (lt_ rfl) fun a H => c_nil <| hK3 _ _ <| c_seq fun K7 hK7 => c_reg <| s_fld H rfl rfl fld_41_0 (lt_ rfl) fun a H => s_load (v := (.int .i64 Count1)) H rfl rfl one_2 (nb6.cell (i := 0) rfl) (lt_ rfl) fun a H => s_bin H rfl rfl rfl r_geq (lt_ rfl) fun a H => s_move H rfl rfl (lt_ rfl) fun a H => ?_
 refine g_join (n := 21) [(10, (.bool ((decide (1 ≤ Count1)) && (decide (Count1 ≤ 4611686018427387903))))), (1, (.pointer (some (blk b4))))] (.succ (.succ (.succ (.succ (.zero _))))) ?_ ?_
 ·intro hr9
  try clear h
  rcases Bool.eq_false_or_eq_true (decide (1 ≤ Count1)) with hg8 | hg8
  ·replace H := H.ch (t := 6) (b := true) rfl hg8
   refine s_fld H (wantG H rfl rfl) rfl fld_41_0 (lt_ rfl) fun a H => s_load (v := (.int .i64 Count1)) H (wantG H rfl rfl) rfl one_2 (nb6.cell (i := 0) rfl) (lt_ rfl) fun a H => s_bin H (wantG H rfl rfl) rfl rfl r_leq (lt_ rfl) fun a H => s_pickT H rfl rfl rfl (lt_ rfl) fun a H => ?_
   exact hr9 _ (H.weaken ⟨by rw [hg8]; rfl, rfl, trivial⟩)
  ·replace H := H.ch (t := 6) (b := false) rfl hg8
   iterate 3 refine s_skip H (wantN H rfl rfl rfl) rfl (lt_ rfl) fun a H => ?_
   refine s_pickF H rfl rfl rfl (lt_ rfl) fun a H => ?_
   exact hr9 _ (H.weaken ⟨by rw [hg8]; rfl, rfl, trivial⟩)
 ·clear H a
  intro a H
  refine s_move H rfl rfl (lt_ rfl) fun a H => g_join (n := 21) [(15, (.bool (((decide (1 ≤ Count1)) && (decide (Count1 ≤ 4611686018427387903))) && (decide (1 ≤ Clien2))))), (1, (.pointer (some (blk b4))))] (.succ (.succ (.succ (.succ (.zero _))))) ?_ ?_
  ·intro hr11
   try clear h
   rcases Bool.eq_false_or_eq_true ((decide (1 ≤ Count1)) && (decide (Count1 ≤ 4611686018427387903))) with hg10 | hg10
   ·replace H := H.ch (t := 11) (b := true) rfl hg10
    refine s_fld H (wantG H rfl rfl) rfl fld_41_1 (lt_ rfl) fun a H => s_load (v := (.int .i64 Clien2)) H (wantG H rfl rfl) rfl one_3 (nb6.cell (i := 1) rfl) (lt_ rfl) fun a H => s_bin H (wantG H rfl rfl) rfl rfl r_geq (lt_ rfl) fun a H => s_pickT H rfl rfl rfl (lt_ rfl) fun a H => ?_
    exact hr11 _ (H.weaken ⟨by rw [hg10]; rfl, rfl, trivial⟩)
   ·replace H := H.ch (t := 11) (b := false) rfl hg10
    iterate 3 refine s_skip H (wantN H rfl rfl rfl) rfl (lt_ rfl) fun a H => ?_
    refine s_pickF H rfl rfl rfl (lt_ rfl) fun a H => ?_
    exact hr11 _ (H.weaken ⟨by rw [hg10]; rfl, rfl, trivial⟩)
  ·clear H a
   intro a H
   refine s_move H rfl rfl (lt_ rfl) fun a H => g_join (n := 21) [(20, (.bool ((((decide (1 ≤ Count1)) && (decide (Count1 ≤ 4611686018427387903))) && (decide (1 ≤ Clien2))) && (decide (Clien2 ≤ 65535)))))] (.succ (.succ (.succ (.succ (.zero _))))) ?_ ?_
   ·intro hr13
    try clear h
    rcases Bool.eq_false_or_eq_true (((decide (1 ≤ Count1)) && (decide (Count1 ≤ 4611686018427387903))) && (decide (1 ≤ Clien2))) with hg12 | hg12
    ·replace H := H.ch (t := 16) (b := true) rfl hg12
     refine s_fld H (wantG H rfl rfl) rfl fld_41_1 (lt_ rfl) fun a H => s_load (v := (.int .i64 Clien2)) H (wantG H rfl rfl) rfl one_3 (nb6.cell (i := 1) rfl) (lt_ rfl) fun a H => s_bin H (wantG H rfl rfl) rfl rfl r_leq (lt_ rfl) fun a H => s_pickT H rfl rfl rfl (lt_ rfl) fun a H => ?_
     exact hr13 _ (H.weaken ⟨by rw [hg12]; rfl, trivial⟩)
    ·replace H := H.ch (t := 16) (b := false) rfl hg12
     iterate 3 refine s_skip H (wantN H rfl rfl rfl) rfl (lt_ rfl) fun a H => ?_
     refine s_pickF H rfl rfl rfl (lt_ rfl) fun a H => ?_
     exact hr13 _ (H.weaken ⟨by rw [hg12]; rfl, trivial⟩)
   ·clear H a
    intro a H
    refine s_assign H rfl rfl (lt_ rfl) fun a H => c_nil <| hK7 _ _ <| c_ret ?_
    exact e_ret1 H rfl rfl h

set_option maxRecDepth 100000 in
set_option maxHeartbeats 4000000 in
theorem sim_sherdref06_bitwise (n1 : Int) (w : World) (Q : Ending → World → Prop) (h : vc_sherdref06_bitwise n1 w Q) : Calls PP F_sherdref06_bitwise #[(.int .u32 n1)] w Q := by
 unfold vc_sherdref06_bitwise at h
 refine enter (n := 17) (l := [(.int .u32 n1)]) Tryd.func89 rfl rfl (Nat.le_of_ble_eq_true rfl) fun a H => ?_
 replace H : Has 17 [] a [(0, (.int .u32 n1))] := H
 refine c_seq fun K2 hK2 => c_reg <| s_assign H rfl rfl (lt_ rfl) fun a H => c_nil <| hK2 _ _ <| c_seq fun K3 hK3 => c_seq fun K4 hK4 => c_reg <| s_assign H rfl rfl (lt_ rfl) fun a H => c_nil <| hK4 _ _ <| c_block ?_
 obtain ⟨I8, mu9, h022, hl23⟩ := h
 refine c_loop (σ := Int × Int) (fun z w => I8 z.1 z.2 w) (fun z w => mu9 z.1 z.2 w) (fun z => [(0, (.int .u32 z.1)), (3, (.int .i64 z.2))]) (n1, 0) h022 (H.weaken ⟨rfl, rfl, trivial⟩) ?_
 clear H h022
 rintro ⟨n5, i6⟩ a w7 h H
 replace h := hl23 n5 i6 w7 h
 clear hl23
 replace H : Has 17 [] a [(0, (.int .u32 n5)), (3, (.int .i64 i6))] := H
 refine c_seq fun K10 hK10 => c_seq fun K11 hK11 => c_reg <| s_move H rfl rfl (lt_ rfl) fun a H => s_bin H rfl rfl rfl r_lss (lt_ rfl) fun a H => c_nil <| hK11 _ _ <| c_cond H rfl (fun hb12 => ?_) (fun hb12 => ?_)
 ·replace h := h.1 hb12
  refine c_skip <| hK10 _ _ <| c_seq fun K13 hK13 => ?_
  obtain ⟨R15, h, hx20⟩ := h
  have hJ17 : ∀ (a : Act) (n14 : Int) (w16 : World), R15 n14 w16 → Has 17 [] a [(0, (.int .u32 n14)), (3, (.int .i64 i6))] → K13 a w16 := by
   clear h
   intro a n14 w16 h H
   replace h := hx20 n14 w16 h
   refine hK13 _ _ <| c_reg <| s_move H rfl rfl (lt_ rfl) fun a H => s_bin H rfl rfl rfl r_add (lt_ rfl) fun a H => s_assign H rfl rfl (lt_ rfl) fun a H => c_nil <| Exists.intro (n14, wr .i64 (i6 + 1)) ⟨h.1, h.2, H.weaken ⟨rfl, rfl, trivial⟩⟩
  clear hx20
  refine c_block <| c_seq fun K18 hK18 => c_reg <| s_move H rfl rfl (lt_ rfl) fun a H => s_bin H rfl rfl rfl r_and (lt_ rfl) fun a H => s_bin H rfl rfl rfl r_eql (lt_ rfl) fun a H => c_nil <| hK18 _ _ <| c_cond H rfl (fun hb19 => ?_) (fun hb19 => ?_)
  ·replace h := h.1 hb19
   refine c_reg <| s_move H rfl rfl (lt_ rfl) fun a H => s_bin H rfl rfl rfl (r_shr (by decide)) (lt_ rfl) fun a H => s_bin H rfl rfl rfl r_xor (lt_ rfl) fun a H => s_assign H rfl rfl (lt_ rfl) fun a H => c_nil ?_
   exact hJ17 _ _ _ h (H.weaken ⟨rfl, rfl, trivial⟩)
  ·replace h := h.2 hb19
   refine c_reg <| s_move H rfl rfl (lt_ rfl) fun a H => s_bin H rfl rfl rfl (r_shr (by decide)) (lt_ rfl) fun a H => s_assign H rfl rfl (lt_ rfl) fun a H => c_nil ?_
   exact hJ17 _ _ _ h (H.weaken ⟨rfl, rfl, trivial⟩)
 ·replace h := h.2 hb12
  refine c_exit ?_
  first | (simp only [Exit.then, Exit.inBlock, ↓reduceIte]; fail_if_success simp only [Nat.reduceEqDiff]) | simp only [Exit.then, Exit.inBlock, ↓reduceIte, Nat.reduceEqDiff]
  refine hK3 _ _ <| c_seq fun K21 hK21 => c_reg <| s_move H rfl rfl (lt_ rfl) fun a H => s_assign H rfl rfl (lt_ rfl) fun a H => c_nil <| hK21 _ _ <| c_ret ?_
  exact e_ret1 H rfl rfl h

set_option maxRecDepth 100000 in
set_option maxHeartbeats 4000000 in
theorem sim_sherdref08_Zero (Count1 : Int) (Clien2 : Int) (w : World) (Q : Ending → World → Prop) (h : vc_sherdref08_Zero Count1 Clien2 w Q) : Calls PP F_sherdref08_Zero #[(.agg #[(.int .i64 Count1), (.int .i64 Clien2)])] w Q := by
 unfold vc_sherdref08_Zero at h
 refine enter (n := 6) (l := [(.agg #[(.int .i64 Count1), (.int .i64 Clien2)])]) Tryd.func90 rfl rfl (Nat.le_of_ble_eq_true rfl) fun a H => ?_
 replace H : Has 6 [] a [(0, (.agg #[(.int .i64 Count1), (.int .i64 Clien2)]))] := H
 refine c_seq fun K3 hK3 => c_reg ?_
 replace h := h.get
 obtain ⟨b4, w5, nb6, h⟩ := h
 refine s_box H rfl rfl (lt_ rfl) ?_
 rw [← nb6.at_]
 clear H a
 intro a H
 refine nb6.go <| s_assign H rfl rfl (lt_ rfl) fun a H => c_nil <| hK3 _ _ <| c_seq fun K7 hK7 => c_reg <| s_loadN (l := [(.int .i64 Count1), (.int .i64 Clien2)]) H rfl rfl agg_41 rfl ⟨(nb6.cell (i := 0) rfl), (nb6.cell (i := 1) rfl), trivial⟩ (lt_ rfl) fun a H => s_build H rfl (by rw [H.parts (vs := []) rfl]; exact bd_41 w5) (lt_ rfl) fun a H => s_bin H rfl rfl rfl (r_eqst eqg_41 (eqst_41 0) rfl) (lt_ rfl) fun a H => s_assign H rfl rfl (lt_ rfl) fun a H => c_nil <| hK7 _ _ <| c_ret ?_
 exact e_ret1 H rfl rfl h

set_option maxRecDepth 100000 in
set_option maxHeartbeats 4000000 in
theorem sim_sherdref08_proper (Count1 : Int) (Clien2 : Int) (w : World) (Q : Ending → World → Prop) (h : vc_sherdref08_proper Count1 Clien2 w Q) : Calls PP F_sherdref08_proper #[(.agg #[(.int .i64 Count1), (.int .i64 Clien2)])] w Q := by
 unfold vc_sherdref08_proper at h
 refine enter (n := 21) (l := [(.agg #[(.int .i64 Count1), (.int .i64 Clien2)])]) Tryd.func91 rfl rfl (Nat.le_of_ble_eq_true rfl) fun a H => ?_
 replace H : Has 21 [] a [(0, (.agg #[(.int .i64 Count1), (.int .i64 Clien2)]))] := H
 refine c_seq fun K3 hK3 => c_reg ?_
 replace h := h.get
 obtain ⟨b4, w5, nb6, h⟩ := h
 refine s_box H rfl rfl (lt_ rfl) ?_
 rw [← nb6.at_]
 clear H a
 intro a H
 refine nb6.go <| s_assign H rfl rfl (lt_ rfl) fun a H => c_nil <| hK3 _ _ <| c_seq fun K7 hK7 => c_reg <| s_fld H rfl rfl fld_41_0 (lt_ rfl) fun a H => s_load (v := (.int .i64 Count1)) H rfl rfl one_2 (nb6.cell (i := 0) rfl) (lt_ rfl) fun a H => s_bin H rfl rfl rfl r_geq (lt_ rfl) fun a H => s_move H rfl rfl (lt_ rfl) fun a H => ?_
 refine g_join (n := 21) [(10, (.bool ((decide (1 ≤ Count1)) && (decide (Count1 ≤ 4611686018427387903))))), (1, (.pointer (some (blk b4))))] (.succ (.succ (.succ (.succ (.zero _))))) ?_ ?_
 ·intro hr9
  try clear h
  rcases Bool.eq_false_or_eq_true (decide (1 ≤ Count1)) with hg8 | hg8
  ·replace H := H.ch (t := 6) (b := true) rfl hg8
   refine s_fld H (wantG H rfl rfl) rfl fld_41_0 (lt_ rfl) fun a H => s_load (v := (.int .i64 Count1)) H (wantG H rfl rfl) rfl one_2 (nb6.cell (i := 0) rfl) (lt_ rfl) fun a H => s_bin H (wantG H rfl rfl) rfl rfl r_leq (lt_ rfl) fun a H => s_pickT H rfl rfl rfl (lt_ rfl) fun a H => ?_
   exact hr9 _ (H.weaken ⟨by rw [hg8]; rfl, rfl, trivial⟩)
  ·replace H := H.ch (t := 6) (b := false) rfl hg8
   iterate 3 refine s_skip H (wantN H rfl rfl rfl) rfl (lt_ rfl) fun a H => ?_
   refine s_pickF H rfl rfl rfl (lt_ rfl) fun a H => ?_
   exact hr9 _ (H.weaken ⟨by rw [hg8]; rfl, rfl, trivial⟩)
 ·clear H a
  intro a H
  refine s_move H rfl rfl (lt_ rfl) fun a H => g_join (n := 21) [(15, (.bool (((decide (1 ≤ Count1)) && (decide (Count1 ≤ 4611686018427387903))) && (decide (1 ≤ Clien2))))), (1, (.pointer (some (blk b4))))] (.succ (.succ (.succ (.succ (.zero _))))) ?_ ?_
  ·intro hr11
   try clear h
   rcases Bool.eq_false_or_eq_true ((decide (1 ≤ Count1)) && (decide (Count1 ≤ 4611686018427387903))) with hg10 | hg10
   ·replace H := H.ch (t := 11) (b := true) rfl hg10
    refine s_fld H (wantG H rfl rfl) rfl fld_41_1 (lt_ rfl) fun a H => s_load (v := (.int .i64 Clien2)) H (wantG H rfl rfl) rfl one_3 (nb6.cell (i := 1) rfl) (lt_ rfl) fun a H => s_bin H (wantG H rfl rfl) rfl rfl r_geq (lt_ rfl) fun a H => s_pickT H rfl rfl rfl (lt_ rfl) fun a H => ?_
    exact hr11 _ (H.weaken ⟨by rw [hg10]; rfl, rfl, trivial⟩)
   ·replace H := H.ch (t := 11) (b := false) rfl hg10
    iterate 3 refine s_skip H (wantN H rfl rfl rfl) rfl (lt_ rfl) fun a H => ?_
    refine s_pickF H rfl rfl rfl (lt_ rfl) fun a H => ?_
    exact hr11 _ (H.weaken ⟨by rw [hg10]; rfl, rfl, trivial⟩)
  ·clear H a
   intro a H
   refine s_move H rfl rfl (lt_ rfl) fun a H => g_join (n := 21) [(20, (.bool ((((decide (1 ≤ Count1)) && (decide (Count1 ≤ 4611686018427387903))) && (decide (1 ≤ Clien2))) && (decide (Clien2 ≤ 65535)))))] (.succ (.succ (.succ (.succ (.zero _))))) ?_ ?_
   ·intro hr13
    try clear h
    rcases Bool.eq_false_or_eq_true (((decide (1 ≤ Count1)) && (decide (Count1 ≤ 4611686018427387903))) && (decide (1 ≤ Clien2))) with hg12 | hg12
    ·replace H := H.ch (t := 16) (b := true) rfl hg12
     refine s_fld H (wantG H rfl rfl) rfl fld_41_1 (lt_ rfl) fun a H => s_load (v := (.int .i64 Clien2)) H (wantG H rfl rfl) rfl one_3 (nb6.cell (i := 1) rfl) (lt_ rfl) fun a H => s_bin H (wantG H rfl rfl) rfl rfl r_leq (lt_ rfl) fun a H => s_pickT H rfl rfl rfl (lt_ rfl) fun a H => ?_
     exact hr13 _ (H.weaken ⟨by rw [hg12]; rfl, trivial⟩)
    ·replace H := H.ch (t := 16) (b := false) rfl hg12
     iterate 3 refine s_skip H (wantN H rfl rfl rfl) rfl (lt_ rfl) fun a H => ?_
     refine s_pickF H rfl rfl rfl (lt_ rfl) fun a H => ?_
     exact hr13 _ (H.weaken ⟨by rw [hg12]; rfl, trivial⟩)
   ·clear H a
    intro a H
    refine s_assign H rfl rfl (lt_ rfl) fun a H => c_nil <| hK7 _ _ <| c_ret ?_
    exact e_ret1 H rfl rfl h
end Go.Proofs.YtnhgnfflihoaiaaDoor
