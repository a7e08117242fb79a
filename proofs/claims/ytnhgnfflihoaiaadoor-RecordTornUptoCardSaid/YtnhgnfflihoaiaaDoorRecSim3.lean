/-
  The conditions give the machine's calls; printed by vcgen.py.
-/
import Derived.Test.YtnhgnfflihoaiaaDoorRecVc
namespace Go.Proofs.YtnhgnfflihoaiaaDoor
open Go Go.Vc
set_option maxRecDepth 100000 in
set_option maxHeartbeats 4000000 in
theorem sim_record_headOf (N1 : Int) (K2 : Int) (Delta3 : Int) (Serve4 : Int) (w : World) (Q : Ending → World → Prop) (h : vc_record_headOf N1 K2 Delta3 Serve4 w Q) : Calls PP F_record_headOf #[(.agg #[(.int .i64 N1), (.int .i64 K2), (.int .i64 Delta3), (.int .i64 Serve4)])] w Q := by
 unfold vc_record_headOf at h
 refine enter (n := 40) (l := [(.agg #[(.int .i64 N1), (.int .i64 K2), (.int .i64 Delta3), (.int .i64 Serve4)])]) Tryd.func24 rfl rfl (Nat.le_of_ble_eq_true rfl) fun a H => ?_
 replace H : Has 40 [] a [(0, (.agg #[(.int .i64 N1), (.int .i64 K2), (.int .i64 Delta3), (.int .i64 Serve4)]))] := H
 refine c_seq fun K5 hK5 => c_reg ?_
 replace h := h.get
 obtain ⟨b6, w7, nb8, h⟩ := h
 refine s_box H rfl rfl (lt_ rfl) ?_
 rw [← nb8.at_]
 clear H a
 intro a H
 refine nb8.go <| s_assign H rfl rfl (lt_ rfl) fun a H => c_nil <| hK5 _ _ <| c_seq fun K9 hK9 => c_reg <| s_call H rfl body_37 (H.args (vs := []) rfl) (lt_ rfl) h ?_ (fun c w' h H => e_panic (P := PP) (fn := Tryd.f24) H h)
 clear H h a
 rintro _ w10 a ⟨NewWr11, rfl, h⟩ H
 refine s_assign H rfl rfl (lt_ rfl) fun a H => c_nil <| hK9 _ _ <| c_seq fun K12 hK12 => c_reg <| s_move H rfl rfl (lt_ rfl) fun a H => s_call H rfl body_38 (H.args (vs := [(.pointer NewWr11), (.int .u8 72)]) rfl) (lt_ rfl) h ?_ (fun c w' h H => e_panic (P := PP) (fn := Tryd.f24) H h)
 clear H h a
 rintro _ w13 a ⟨rfl, h⟩ H
 refine c_nil <| hK12 _ _ <| c_seq fun K14 hK14 => c_seq fun K15 hK15 => c_reg <| s_fld H rfl rfl fld_25_0 (lt_ rfl) fun a H => s_fld H rfl rfl fld_23_0 (lt_ rfl) fun a H => ?_
 obtain ⟨l16, hc17, h⟩ := h
 refine s_load (v := (.int .i64 l16)) H rfl rfl one_3 hc17 (lt_ rfl) fun a H => s_fld H rfl rfl fld_25_0 (lt_ rfl) fun a H => s_fld H rfl rfl fld_23_1 (lt_ rfl) fun a H => ?_
 obtain ⟨l18, hc19, h⟩ := h
 refine s_load (v := (.int .i64 l18)) H rfl rfl one_3 hc19 (lt_ rfl) fun a H => s_fld H rfl rfl fld_25_0 (lt_ rfl) fun a H => s_fld H rfl rfl fld_23_2 (lt_ rfl) fun a H => ?_
 obtain ⟨l20, hc21, h⟩ := h
 refine s_load (v := (.int .i64 l20)) H rfl rfl one_3 hc21 (lt_ rfl) fun a H => s_fld H rfl rfl fld_25_1 (lt_ rfl) fun a H => ?_
 obtain ⟨l22, hc23, h⟩ := h
 refine s_load (v := (.int .i64 l22)) H rfl rfl one_3 hc23 (lt_ rfl) fun a H => ?_
 replace h := h.get
 obtain ⟨b24, w25, nb26, h⟩ := h
 refine s_bslc H rfl (by rw [H.parts (vs := [(0, (.int .i64 l16)), (1, (.int .i64 l18)), (2, (.int .i64 l20)), (3, (.int .i64 l22))]) rfl]; exact bs_50_4_ii640_ii641_ii642_ii643 w13 l16 l18 l20 l22) (lt_ rfl) ?_
 rw [← nb26.at_]
 clear H a
 intro a H
 refine nb26.go <| s_blt H rfl (H.args (vs := [(Slc.v (Slc.mk (some (blk b24)) 4 4))]) rfl) (lt_ rfl) (fun cs => b_lenS (z := Slc.mk (some (blk b24)) 4 4) sl_50) fun a H => s_move H rfl rfl (lt_ rfl) fun a H => c_nil <| hK15 _ _ <| c_block ?_
 obtain ⟨I29, mu30, h079, hl80⟩ := h
 refine c_loop (σ := Int) (fun z w => I29 z w) (fun z w => mu30 z w) (fun z => [(3, (.pointer NewWr11)), (21, (Slc.v (Slc.mk (some (blk b24)) 4 4))), (22, (.int .i64 ((Slc.mk (some (blk b24)) 4 4).l : Int))), (23, (.int .i64 z))]) 0 h079 (H.weaken ⟨rfl, rfl, rfl, rfl, trivial⟩) ?_
 clear H h079
 rintro s27 a w28 h H
 replace h := hl80 s27 w28 h
 clear hl80
 replace H : Has 40 [] a [(3, (.pointer NewWr11)), (21, (Slc.v (Slc.mk (some (blk b24)) 4 4))), (22, (.int .i64 ((Slc.mk (some (blk b24)) 4 4).l : Int))), (23, (.int .i64 s27))] := H
 refine c_seq fun K31 hK31 => c_reg <| s_bin H rfl rfl rfl r_lss (lt_ rfl) fun a H => c_nil <| hK31 _ _ <| c_seq fun K32 hK32 => c_cond H rfl (fun hb33 => ?_) (fun hb33 => ?_)
 ·replace h := h.1 hb33
  refine c_skip <| hK32 _ _ <| c_seq fun K34 hK34 => c_block <| c_seq fun K35 hK35 => c_reg ?_
  obtain ⟨a36, hi37, hi38, hi39, h⟩ := h
  refine s_idxS (s := Slc.mk (some (blk b24)) 4 4) H rfl rfl rfl slc_50 hi37 hi38 hi39 (lt_ rfl) fun a H => ?_
  obtain ⟨l40, hc41, h⟩ := h
  refine s_load (v := (.int .i64 l40)) H rfl rfl one_3 hc41 (lt_ rfl) fun a H => s_assign H rfl rfl (lt_ rfl) fun a H => c_nil <| hK35 _ _ <| c_reg <| s_move H rfl rfl (lt_ rfl) fun a H => s_move H rfl rfl (lt_ rfl) fun a H => s_call H rfl body_52 (H.args (vs := [(.pointer NewWr11), (.int .i64 l40)]) rfl) (lt_ rfl) h ?_ (fun c w' h H => e_panic (P := PP) (fn := Tryd.f24) H h)
  clear H h a
  rintro _ w42 a ⟨rfl, h⟩ H
  refine c_nil <| hK34 _ _ <| c_reg <| s_bin H rfl rfl rfl r_add (lt_ rfl) fun a H => s_move H rfl rfl (lt_ rfl) fun a H => c_nil <| Exists.intro (wr .i64 (s27 + 1)) ⟨h.1, h.2, H.weaken ⟨rfl, rfl, rfl, rfl, trivial⟩⟩
 ·replace h := h.2 hb33
  refine c_exit ?_
  first | (simp only [Exit.then, Exit.inBlock, ↓reduceIte]; fail_if_success simp only [Nat.reduceEqDiff]) | simp only [Exit.then, Exit.inBlock, ↓reduceIte, Nat.reduceEqDiff]
  refine hK14 _ _ <| c_seq fun K47 hK47 => c_reg <| s_move H rfl rfl (lt_ rfl) fun a H => s_call H rfl body_41 (H.args (vs := [(.pointer NewWr11)]) rfl) (lt_ rfl) h ?_ (fun c w' h H => e_panic (P := PP) (fn := Tryd.f24) H h)
  clear H h a
  rintro _ w48 a ⟨Data49, rfl, h⟩ H
  refine s_assign H rfl rfl (lt_ rfl) fun a H => c_nil <| hK47 _ _ <| c_seq fun K50 hK50 => c_reg <| s_move H rfl rfl (lt_ rfl) fun a H => s_move H rfl rfl (lt_ rfl) fun a H => ?_
  replace h := h.get
  obtain ⟨b51, w52, nb53, h⟩ := h
  refine s_bslc H rfl (by rw [H.parts (vs := [(0, (Slc.v Data49))]) rfl]; exact bs_37_1_s0 w48 Data49) (lt_ rfl) ?_
  rw [← nb53.at_]
  clear H a
  intro a H
  refine nb53.go <| s_call H rfl body_43 (H.args (vs := [(Slc.v (Slc.mk (some (blk b51)) 1 1))]) rfl) (lt_ rfl) h ?_ (fun c w' h H => e_panic (P := PP) (fn := Tryd.f24) H h)
  clear H h a
  rintro _ w54 a ⟨Of55, rfl, h⟩ H
  refine s_call H rfl body_42 (H.args (vs := [(.int .u32 Of55)]) rfl) (lt_ rfl) h ?_ (fun c w' h H => e_panic (P := PP) (fn := Tryd.f24) H h)
  clear H h a
  rintro _ w56 a ⟨four57, rfl, h⟩ H
  replace h := h.get
  obtain ⟨b58, w59, nb60, h⟩ := h
  refine s_bslc H rfl (by rw [H.parts (vs := [(0, (Slc.v Data49)), (1, (Slc.v four57))]) rfl]; exact bs_37_2_s0_s1 w56 Data49 four57) (lt_ rfl) ?_
  rw [← nb60.at_]
  clear H a
  intro a H
  refine nb60.go <| s_call H rfl body_44 (H.args (vs := [(Slc.v (Slc.mk (some (blk b58)) 2 2))]) rfl) (lt_ rfl) h ?_ (fun c w' h H => e_panic (P := PP) (fn := Tryd.f24) H h)
  clear H h a
  rintro _ w61 a ⟨Conca62, rfl, h⟩ H
  refine s_assign H rfl rfl (lt_ rfl) fun a H => c_nil <| hK50 _ _ <| c_ret ?_
  exact e_ret1 H rfl rfl h

set_option maxRecDepth 100000 in
set_option maxHeartbeats 4000000 in
theorem sim_slices_Clone (s1 : Slc) (w : World) (Q : Ending → World → Prop) (h : vc_slices_Clone s1 w Q) : Calls PP F_slices_Clone #[(Slc.v s1)] w Q := by
 unfold vc_slices_Clone at h
 refine enter (n := 8) (l := [(Slc.v s1)]) Tryd.func25 rfl rfl (Nat.le_of_ble_eq_true rfl) fun a H => ?_
 replace H : Has 8 [] a [(0, (Slc.v s1))] := H
 refine c_seq fun K2 hK2 => c_reg <| s_assign H rfl rfl (lt_ rfl) fun a H => c_nil <| hK2 _ _ <| c_seq fun K3 hK3 => c_seq fun K4 hK4 => c_reg <| s_move H rfl rfl (lt_ rfl) fun a H => s_bin H rfl rfl rfl (r_eqS0 (z := s1) sl_28) (lt_ rfl) fun a H => c_nil <| hK4 _ _ <| c_cond H rfl (fun hb5 => ?_) (fun hb5 => ?_)
 ·replace h := h.1 hb5
  refine c_seq fun K6 hK6 => c_reg <| s_assign H rfl rfl (lt_ rfl) fun a H => c_nil <| hK6 _ _ <| c_ret ?_
  exact e_ret1 H rfl rfl h
 ·replace h := h.2 hb5
  refine c_skip <| hK3 _ _ <| c_seq fun K7 hK7 => c_reg ?_
  replace h := h.get
  obtain ⟨b8, w9, nb10, h⟩ := h
  refine s_bslc H rfl (by rw [H.parts (vs := []) rfl]; exact bs_28_0 w) (lt_ rfl) ?_
  rw [← nb10.at_]
  clear H a
  intro a H
  refine nb10.go <| s_move H rfl rfl (lt_ rfl) fun a H => ?_
  obtain ⟨s11, w12, hq13, h⟩ := h
  refine s_blt H rfl (H.args (vs := [(Slc.v (Slc.mk (some (blk b8)) 0 0)), (Slc.v s1)]) rfl) (lt_ rfl) (fun cs => b_app (z := s11) hq13) ?_
  clear H a hq13
  intro a H
  refine s_assign H rfl rfl (lt_ rfl) fun a H => c_nil <| hK7 _ _ <| c_ret ?_
  exact e_ret1 H rfl rfl h

set_option maxRecDepth 100000 in
set_option maxHeartbeats 4000000 in
theorem sim_sherdlaw11_lent (l1 : Slc) (w : World) (Q : Ending → World → Prop) (h : vc_sherdlaw11_lent l1 w Q) : Calls PP F_sherdlaw11_lent #[(Slc.v l1)] w Q := by
 unfold vc_sherdlaw11_lent at h
 refine enter (n := 8) (l := [(Slc.v l1)]) Tryd.func26 rfl rfl (Nat.le_of_ble_eq_true rfl) fun a H => ?_
 replace H : Has 8 [] a [(0, (Slc.v l1))] := H
 refine c_seq fun K2 hK2 => c_reg <| s_assign H rfl rfl (lt_ rfl) fun a H => c_nil <| hK2 _ _ <| c_seq fun K3 hK3 => c_reg ?_
 replace h := h.get
 obtain ⟨b4, w5, nb6, h⟩ := h
 refine s_bslc H rfl (by rw [H.parts (vs := []) rfl]; exact bs_28_0 w) (lt_ rfl) ?_
 rw [← nb6.at_]
 clear H a
 intro a H
 refine nb6.go <| s_move H rfl rfl (lt_ rfl) fun a H => ?_
 obtain ⟨s7, w8, hq9, h⟩ := h
 refine s_blt H rfl (H.args (vs := [(Slc.v (Slc.mk (some (blk b4)) 0 0)), (Slc.v l1)]) rfl) (lt_ rfl) (fun cs => b_app (z := s7) hq9) ?_
 clear H a hq9
 intro a H
 replace h := h.get
 obtain ⟨b10, w11, nb12, h⟩ := h
 refine s_bslc H rfl (by rw [H.parts (vs := [(0, (.int .u8 77))]) rfl]; exact bs_28_1_iu80 w8 77) (lt_ rfl) ?_
 rw [← nb12.at_]
 clear H a
 intro a H
 refine nb12.go ?_
 obtain ⟨s13, w14, hq15, h⟩ := h
 refine s_blt H rfl (H.args (vs := [(Slc.v s7), (Slc.v (Slc.mk (some (blk b10)) 1 1))]) rfl) (lt_ rfl) (fun cs => b_app (z := s13) hq15) ?_
 clear H a hq15
 intro a H
 refine s_assign H rfl rfl (lt_ rfl) fun a H => c_nil <| hK3 _ _ <| c_ret ?_
 exact e_ret1 H rfl rfl h

set_option maxRecDepth 100000 in
set_option maxHeartbeats 4000000 in
theorem sim_sherdref11_Writer_Put (w1 : Option Addr) (Kind2 : Int) (Key3 : ByteArray) (Count4 : Int) (Clien5 : Int) (Fin6 : Bool) (Has7 : Bool) (Data8 : Slc) (w : World) (Q : Ending → World → Prop) (h : vc_sherdref11_Writer_Put w1 Kind2 Key3 Count4 Clien5 Fin6 Has7 Data8 w Q) : Calls PP F_sherdref11_Writer_Put #[(.pointer w1), (.agg #[(.int .i64 Kind2), (.string Key3), (.int .i64 Count4), (.int .i64 Clien5), (.bool Fin6), (.bool Has7), (Slc.v Data8)])] w Q := by
 unfold vc_sherdref11_Writer_Put at h
 refine enter (n := 45) (l := [(.pointer w1), (.agg #[(.int .i64 Kind2), (.string Key3), (.int .i64 Count4), (.int .i64 Clien5), (.bool Fin6), (.bool Has7), (Slc.v Data8)])]) Tryd.func27 rfl rfl (Nat.le_of_ble_eq_true rfl) fun a H => ?_
 replace H : Has 45 [] a [(0, (.pointer w1)), (1, (.agg #[(.int .i64 Kind2), (.string Key3), (.int .i64 Count4), (.int .i64 Clien5), (.bool Fin6), (.bool Has7), (Slc.v Data8)]))] := H
 refine c_seq fun K9 hK9 => c_reg ?_
 replace h := h.get
 obtain ⟨b10, w11, nb12, h⟩ := h
 refine s_box H rfl rfl (lt_ rfl) ?_
 rw [← nb12.at_]
 clear H a
 intro a H
 refine nb12.go <| s_assign H rfl rfl (lt_ rfl) fun a H => s_assign H rfl rfl (lt_ rfl) fun a H => c_nil <| hK9 _ _ <| c_seq fun K13 hK13 => c_reg ?_
 refine s_loadN (l := [(.int .i64 Kind2), (.string Key3), (.int .i64 Count4), (.int .i64 Clien5), (.bool Fin6), (.bool Has7), (Slc.v Data8)]) H rfl rfl agg_45 rfl ⟨(nb12.cell (i := 0) rfl), (nb12.cell (i := 1) rfl), (nb12.cell (i := 2) rfl), (nb12.cell (i := 3) rfl), (nb12.cell (i := 4) rfl), (nb12.cell (i := 5) rfl), (nb12.cell (i := 6) rfl), trivial⟩ (lt_ rfl) fun a H => ?_
 refine s_call H rfl body_53 (H.args (vs := [(.agg #[(.int .i64 Kind2), (.string Key3), (.int .i64 Count4), (.int .i64 Clien5), (.bool Fin6), (.bool Has7), (Slc.v Data8)])]) rfl) (lt_ rfl) h ?_ (fun c w' h H => e_panic (P := PP) (fn := Tryd.f27) H h)
 clear H h a
 rintro _ w14 a ⟨Check15, rfl, h⟩ H
 refine s_assign H rfl rfl (lt_ rfl) fun a H => c_nil <| hK13 _ _ <| c_seq fun K16 hK16 => c_seq fun K17 hK17 => c_reg <| s_move H rfl rfl (lt_ rfl) fun a H => s_bin H rfl rfl rfl r_neq (lt_ rfl) fun a H => c_nil <| hK17 _ _ <| c_cond H rfl (fun hb18 => ?_) (fun hb18 => ?_)
 ·replace h := h.1 hb18
  refine c_seq fun K19 hK19 => c_reg <| s_move H rfl rfl (lt_ rfl) fun a H => s_assign H rfl rfl (lt_ rfl) fun a H => s_assign H rfl rfl (lt_ rfl) fun a H => c_nil <| hK19 _ _ <| c_ret ?_
  exact e_ret2 H rfl rfl rfl h
 ·replace h := h.2 hb18
  refine c_skip <| hK16 _ _ <| c_seq fun K20 hK20 => c_reg <| s_call H rfl body_46 (H.args (vs := []) rfl) (lt_ rfl) h ?_ (fun c w' h H => e_panic (P := PP) (fn := Tryd.f27) H h)
  clear H h a
  rintro _ w21 a ⟨NewWr22, rfl, h⟩ H
  refine s_assign H rfl rfl (lt_ rfl) fun a H => c_nil <| hK20 _ _ <| c_seq fun K23 hK23 => c_reg <| s_move H rfl rfl (lt_ rfl) fun a H => s_call H rfl body_47 (H.args (vs := [(.pointer NewWr22), (.int .u8 82)]) rfl) (lt_ rfl) h ?_ (fun c w' h H => e_panic (P := PP) (fn := Tryd.f27) H h)
  clear H h a
  rintro _ w24 a ⟨rfl, h⟩ H
  refine c_nil <| hK23 _ _ <| c_seq fun K25 hK25 => c_reg <| s_move H rfl rfl (lt_ rfl) fun a H => ?_
  obtain ⟨Kind26, hc27, h⟩ := h
  obtain ⟨Key28, hc29, h⟩ := h
  obtain ⟨Count30, hc31, h⟩ := h
  obtain ⟨Clien32, hc33, h⟩ := h
  obtain ⟨Fin34, hc35, h⟩ := h
  obtain ⟨Has36, hc37, h⟩ := h
  obtain ⟨Data38, hc39, h⟩ := h
  refine s_loadN (l := [(.int .i64 Kind26), (.string Key28), (.int .i64 Count30), (.int .i64 Clien32), (.bool Fin34), (.bool Has36), (Slc.v Data38)]) H rfl rfl agg_45 rfl ⟨hc27, hc29, hc31, hc33, hc35, hc37, hc39, trivial⟩ (lt_ rfl) fun a H => ?_
  refine s_call H rfl body_55 (H.args (vs := [(.agg #[(.int .i64 Kind26), (.string Key28), (.int .i64 Count30), (.int .i64 Clien32), (.bool Fin34), (.bool Has36), (Slc.v Data38)])]) rfl) (lt_ rfl) h ?_ (fun c w' h H => e_panic (P := PP) (fn := Tryd.f27) H h)
  clear H h a
  rintro _ w40 a ⟨body41, rfl, h⟩ H
  refine s_call H rfl body_54 (H.args (vs := [(.pointer NewWr22), (Slc.v body41)]) rfl) (lt_ rfl) h ?_ (fun c w' h H => e_panic (P := PP) (fn := Tryd.f27) H h)
  clear H h a
  rintro _ w42 a ⟨rfl, h⟩ H
  refine c_nil <| hK25 _ _ <| c_seq fun K43 hK43 => c_reg <| s_move H rfl rfl (lt_ rfl) fun a H => s_call H rfl body_49 (H.args (vs := [(.pointer NewWr22)]) rfl) (lt_ rfl) h ?_ (fun c w' h H => e_panic (P := PP) (fn := Tryd.f27) H h)
  clear H h a
  rintro _ w44 a ⟨Data45, rfl, h⟩ H
  refine s_assign H rfl rfl (lt_ rfl) fun a H => c_nil <| hK43 _ _ <| c_seq fun K46 hK46 => c_reg <| s_move H rfl rfl (lt_ rfl) fun a H => s_move H rfl rfl (lt_ rfl) fun a H => ?_
  obtain ⟨a47, hq71, h⟩ := h
  subst hq71
  refine s_nil H rfl rfl (lt_ rfl) fun a H => s_fld H rfl rfl fld_68_0 (lt_ rfl) fun a H => ?_
  obtain ⟨l48, hc49, h⟩ := h
  refine s_load (v := (Slc.v l48)) H rfl rfl one_28 hc49 (lt_ rfl) fun a H => s_move H rfl rfl (lt_ rfl) fun a H => s_call H rfl body_50 (H.args (vs := [(Slc.v l48), (Slc.v Data45)]) rfl) (lt_ rfl) h ?_ (fun c w' h H => e_panic (P := PP) (fn := Tryd.f27) H h)
  clear H h a
  rintro _ w50 a ⟨Summe51, rfl, h⟩ H
  refine s_nil H rfl rfl (lt_ rfl) fun a H => s_fld H rfl rfl fld_68_0 (lt_ rfl) fun a H => ?_
  obtain ⟨hs53, hf54, h⟩ := h
  refine s_sto (p := a47.add 0) (v := (Slc.v Summe51)) H rfl rfl rfl rfl one_28 rfl hs53 hf54 ?_
  clear H
  intro H
  generalize hww52 : World.setCell w50 (a47.add 0) (Slc.v Summe51) = w52 at h ⊢
  have w52S : SetAt w50 (a47.add 0) (Slc.v Summe51) w52 := ⟨hww52.symm⟩
  clear hww52 hs53 hf54
  refine c_nil <| hK46 _ _ <| c_seq fun K55 hK55 => c_reg <| s_move H rfl rfl (lt_ rfl) fun a H => s_nil H rfl rfl (lt_ rfl) fun a H => s_fld H rfl rfl fld_68_1 (lt_ rfl) fun a H => ?_
  obtain ⟨l56, hc57, h⟩ := h
  refine s_load (v := (.int .i64 l56)) H rfl rfl one_3 hc57 (lt_ rfl) fun a H => s_bin H rfl rfl rfl r_add (lt_ rfl) fun a H => s_nil H rfl rfl (lt_ rfl) fun a H => s_fld H rfl rfl fld_68_1 (lt_ rfl) fun a H => ?_
  obtain ⟨hs59, hf60, h⟩ := h
  refine s_sto (p := a47.add 1) (v := (.int .i64 (wr .i64 (l56 + 1)))) H rfl rfl rfl rfl one_3 rfl hs59 hf60 ?_
  clear H
  intro H
  generalize hww58 : World.setCell w52 (a47.add 1) (.int .i64 (wr .i64 (l56 + 1))) = w58 at h ⊢
  have w58S : SetAt w52 (a47.add 1) (.int .i64 (wr .i64 (l56 + 1))) w58 := ⟨hww58.symm⟩
  clear hww58 hs59 hf60
  refine c_nil <| hK55 _ _ <| c_seq fun K61 hK61 => c_reg <| s_move H rfl rfl (lt_ rfl) fun a H => s_move H rfl rfl (lt_ rfl) fun a H => s_nil H rfl rfl (lt_ rfl) fun a H => s_fld H rfl rfl fld_68_0 (lt_ rfl) fun a H => ?_
  obtain ⟨l62, hc63, h⟩ := h
  refine s_load (v := (Slc.v l62)) H rfl rfl one_28 hc63 (lt_ rfl) fun a H => ?_
  obtain ⟨s64, w65, hq66, h⟩ := h
  refine s_blt H rfl (H.args (vs := [(Slc.v Data45), (Slc.v l62)]) rfl) (lt_ rfl) (fun cs => b_app (z := s64) hq66) ?_
  clear H a hq66
  intro a H
  refine s_assign H rfl rfl (lt_ rfl) fun a H => s_assign H rfl rfl (lt_ rfl) fun a H => c_nil <| hK61 _ _ <| c_ret ?_
  exact e_ret2 H rfl rfl rfl h

set_option maxRecDepth 100000 in
set_option maxHeartbeats 4000000 in
theorem sim_sherdref11_Writer_Count (w1 : Option Addr) (w : World) (Q : Ending → World → Prop) (h : vc_sherdref11_Writer_Count w1 w Q) : Calls PP F_sherdref11_Writer_Count #[(.pointer w1)] w Q := by
 unfold vc_sherdref11_Writer_Count at h
 refine enter (n := 7) (l := [(.pointer w1)]) Tryd.func28 rfl rfl (Nat.le_of_ble_eq_true rfl) fun a H => ?_
 replace H : Has 7 [] a [(0, (.pointer w1))] := H
 refine c_seq fun K2 hK2 => c_reg <| s_assign H rfl rfl (lt_ rfl) fun a H => c_nil <| hK2 _ _ <| c_seq fun K3 hK3 => c_reg <| s_move H rfl rfl (lt_ rfl) fun a H => ?_
 obtain ⟨a4, hq7, h⟩ := h
 subst hq7
 refine s_nil H rfl rfl (lt_ rfl) fun a H => s_fld H rfl rfl fld_68_1 (lt_ rfl) fun a H => ?_
 obtain ⟨l5, hc6, h⟩ := h
 refine s_load (v := (.int .i64 l5)) H rfl rfl one_3 hc6 (lt_ rfl) fun a H => s_assign H rfl rfl (lt_ rfl) fun a H => c_nil <| hK3 _ _ <| c_ret ?_
 exact e_ret1 H rfl rfl h

set_option maxRecDepth 100000 in
set_option maxHeartbeats 4000000 in
theorem sim_sherdlaw11_own (Kind1 : Int) (Key2 : ByteArray) (Count3 : Int) (Clien4 : Int) (Fin5 : Bool) (Has6 : Bool) (Data7 : Slc) (w : World) (Q : Ending → World → Prop) (h : vc_sherdlaw11_own Kind1 Key2 Count3 Clien4 Fin5 Has6 Data7 w Q) : Calls PP F_sherdlaw11_own #[(.agg #[(.int .i64 Kind1), (.string Key2), (.int .i64 Count3), (.int .i64 Clien4), (.bool Fin5), (.bool Has6), (Slc.v Data7)])] w Q := by
 unfold vc_sherdlaw11_own at h
 refine enter (n := 31) (l := [(.agg #[(.int .i64 Kind1), (.string Key2), (.int .i64 Count3), (.int .i64 Clien4), (.bool Fin5), (.bool Has6), (Slc.v Data7)])]) Tryd.func29 rfl rfl (Nat.le_of_ble_eq_true rfl) fun a H => ?_
 replace H : Has 31 [] a [(0, (.agg #[(.int .i64 Kind1), (.string Key2), (.int .i64 Count3), (.int .i64 Clien4), (.bool Fin5), (.bool Has6), (Slc.v Data7)]))] := H
 refine c_seq fun K8 hK8 => c_reg ?_
 replace h := h.get
 obtain ⟨b9, w10, nb11, h⟩ := h
 refine s_box H rfl rfl (lt_ rfl) ?_
 rw [← nb11.at_]
 clear H a
 intro a H
 refine nb11.go ?_
 replace h := h.get
 obtain ⟨b12, w13, nb14, h⟩ := h
 refine s_alloc H rfl zero_45 (lt_ rfl) ?_
 rw [← nb14.at_]
 clear H a
 intro a H
 refine nb14.go <| c_nil <| hK8 _ _ <| c_seq fun K15 hK15 => ?_
 obtain ⟨R16, h, hx91⟩ := h
 have hJ67 : ∀ (a : Act) (w17 : World), R16 w17 → Has 31 [] a [(1, (.pointer (some (blk b9)))), (2, (.pointer (some (blk b12))))] → K15 a w17 := by
  clear h
  intro a w17 h H
  replace h := hx91 w17 h
  refine hK15 _ _ <| c_seq fun K18 hK18 => ?_
  obtain ⟨R19, h, hx66⟩ := h
  have hJ51 : ∀ (a : Act) (w20 : World), R19 w20 → Has 31 [] a [(1, (.pointer (some (blk b9)))), (2, (.pointer (some (blk b12))))] → K18 a w20 := by
   clear h
   intro a w20 h H
   replace h := hx66 w20 h
   refine hK18 _ _ <| c_seq fun K21 hK21 => c_reg ?_
   obtain ⟨Kind22, hc23, h⟩ := h
   obtain ⟨Key24, hc25, h⟩ := h
   obtain ⟨Count26, hc27, h⟩ := h
   obtain ⟨Clien28, hc29, h⟩ := h
   obtain ⟨Fin30, hc31, h⟩ := h
   obtain ⟨Has32, hc33, h⟩ := h
   obtain ⟨Data34, hc35, h⟩ := h
   refine s_loadN (l := [(.int .i64 Kind22), (.string Key24), (.int .i64 Count26), (.int .i64 Clien28), (.bool Fin30), (.bool Has32), (Slc.v Data34)]) H rfl rfl agg_45 rfl ⟨hc23, hc25, hc27, hc29, hc31, hc33, hc35, trivial⟩ (lt_ rfl) fun a H => s_stoN (l := [(.int .i64 Kind22), (.string Key24), (.int .i64 Count26), (.int .i64 Clien28), (.bool Fin30), (.bool Has32), (Slc.v Data34)]) H rfl rfl rfl rfl agg_45 rfl rfl h ?_
   clear h H
   intro w36 h H
   refine c_nil <| hK21 _ _ <| c_ret ?_
   obtain ⟨Kind37, hc38, h⟩ := h
   obtain ⟨Key39, hc40, h⟩ := h
   obtain ⟨Count41, hc42, h⟩ := h
   obtain ⟨Clien43, hc44, h⟩ := h
   obtain ⟨Fin45, hc46, h⟩ := h
   obtain ⟨Has47, hc48, h⟩ := h
   obtain ⟨Data49, hc50, h⟩ := h
   exact e_ret1 H rfl ⟨_, rfl, run_loadN (l := [(.int .i64 Kind37), (.string Key39), (.int .i64 Count41), (.int .i64 Clien43), (.bool Fin45), (.bool Has47), (Slc.v Data49)]) agg_45 rfl ⟨hc38, hc40, hc42, hc44, hc46, hc48, hc50, trivial⟩⟩ h
  clear hx66
  refine c_seq fun K52 hK52 => c_reg <| s_fld H rfl rfl fld_45_0 (lt_ rfl) fun a H => ?_
  obtain ⟨l53, hc54, h⟩ := h
  refine s_load (v := (.int .i64 l53)) H rfl rfl one_3 hc54 (lt_ rfl) fun a H => s_bin H rfl rfl rfl r_eql (lt_ rfl) fun a H => s_move H rfl rfl (lt_ rfl) fun a H => ?_
  obtain ⟨x59, hy60, hn61, h⟩ := h
  refine g_join (n := 31) [(27, (.bool x59)), (1, (.pointer (some (blk b9)))), (2, (.pointer (some (blk b12))))] (.succ (.succ (.succ (.succ (.succ (.zero _)))))) ?_ ?_
  ·intro hr56
   try clear h
   rcases Bool.eq_false_or_eq_true (decide (l53 = 3)) with hg55 | hg55
   ·replace H := H.ch (t := 22) (b := true) rfl hg55
    replace h := hy60 hg55
    refine s_fld H (wantG H rfl rfl) rfl fld_45_2 (lt_ rfl) fun a H => s_fld H (wantG H rfl rfl) rfl fld_43_2 (lt_ rfl) fun a H => ?_
    obtain ⟨l57, hc58, h⟩ := h
    refine s_load (v := (.bool l57)) H (wantG H rfl rfl) rfl one_4 hc58 (lt_ rfl) fun a H => s_un H (wantG H rfl rfl) rfl r_not (lt_ rfl) fun a H => s_pickT H rfl rfl rfl (lt_ rfl) fun a H => ?_
    subst h
    exact hr56 _ (H.weaken ⟨rfl, rfl, rfl, trivial⟩)
   ·replace H := H.ch (t := 22) (b := false) rfl hg55
    iterate 4 refine s_skip H (wantN H rfl rfl rfl) rfl (lt_ rfl) fun a H => ?_
    refine s_pickF H rfl rfl rfl (lt_ rfl) fun a H => ?_
    replace h := hn61 hg55
    subst h
    exact hr56 _ (H.weaken ⟨rfl, rfl, rfl, trivial⟩)
  ·clear H a
   clear hy60 hn61
   intro a H
   refine c_nil <| hK52 _ _ <| c_cond H rfl (fun hb62 => ?_) (fun hb62 => ?_)
   ·replace h := h.1 hb62
    refine c_reg <| s_fld H rfl rfl fld_45_2 (lt_ rfl) fun a H => s_fld H rfl rfl fld_43_3 (lt_ rfl) fun a H => ?_
    obtain ⟨hs64, hf65, h⟩ := h
    refine s_sto (p := ((blk b9).add 2).add 4) (v := (Slc.v Slc.nil)) H rfl rfl rfl rfl one_28 rfl hs64 hf65 ?_
    clear H
    intro H
    generalize hww63 : World.setCell w17 (((blk b9).add 2).add 4) (Slc.v Slc.nil) = w63 at h ⊢
    have w63S : SetAt w17 (((blk b9).add 2).add 4) (Slc.v Slc.nil) w63 := ⟨hww63.symm⟩
    clear hww63 hs64 hf65
    refine c_nil ?_
    exact hJ51 _ _ h (H.weaken ⟨rfl, rfl, trivial⟩)
   ·replace h := h.2 hb62
    refine c_skip ?_
    exact hJ51 _ _ h (H.weaken ⟨rfl, rfl, trivial⟩)
 clear hx91
 refine c_seq fun K68 hK68 => c_reg <| s_fld H rfl rfl fld_45_0 (lt_ rfl) fun a H => s_load (v := (.int .i64 Kind1)) H rfl rfl one_3 (nb14.old (nb11.cell (i := 0) rfl)) (lt_ rfl) fun a H => c_nil <| hK68 _ _ <| c_block <| c_seq fun K69 hK69 => c_reg <| s_bin H rfl rfl rfl r_eql (lt_ rfl) fun a H => s_assign H rfl rfl (lt_ rfl) fun a H => c_nil <| hK69 _ _ <| c_cond H rfl (fun hb70 => ?_) (fun hb70 => ?_)
 ·replace h := h.1 hb70
  refine c_seq fun K71 hK71 => c_reg <| s_fld H rfl rfl fld_45_2 (lt_ rfl) fun a H => s_fld H rfl rfl fld_43_1 (lt_ rfl) fun a H => ?_
  obtain ⟨hs73, hf74, h⟩ := h
  refine s_sto (p := ((blk b9).add 2).add 2) (v := (.bool false)) H rfl rfl rfl rfl one_4 rfl hs73 hf74 ?_
  clear H
  intro H
  generalize hww72 : World.setCell w13 (((blk b9).add 2).add 2) (.bool false) = w72 at h ⊢
  have w72S : SetAt w13 (((blk b9).add 2).add 2) (.bool false) w72 := ⟨hww72.symm⟩
  clear hww72 hs73 hf74
  refine c_nil <| hK71 _ _ <| c_reg <| s_fld H rfl rfl fld_45_2 (lt_ rfl) fun a H => s_fld H rfl rfl fld_43_2 (lt_ rfl) fun a H => ?_
  obtain ⟨hs76, hf77, h⟩ := h
  refine s_sto (p := ((blk b9).add 2).add 3) (v := (.bool false)) H rfl rfl rfl rfl one_4 rfl hs76 hf77 ?_
  clear H
  intro H
  generalize hww75 : World.setCell w72 (((blk b9).add 2).add 3) (.bool false) = w75 at h ⊢
  have w75S : SetAt w72 (((blk b9).add 2).add 3) (.bool false) w75 := ⟨hww75.symm⟩
  clear hww75 hs76 hf77
  refine c_nil ?_
  exact hJ67 _ _ h (H.weaken ⟨rfl, rfl, trivial⟩)
 ·replace h := h.2 hb70
  refine c_seq fun K78 hK78 => c_reg <| s_bin H rfl rfl rfl r_eql (lt_ rfl) fun a H => s_assign H rfl rfl (lt_ rfl) fun a H => c_nil <| hK78 _ _ <| c_cond H rfl (fun hb79 => ?_) (fun hb79 => ?_)
  ·replace h := h.1 hb79
   refine c_seq fun K80 hK80 => c_reg <| s_fld H rfl rfl fld_45_2 (lt_ rfl) fun a H => s_fld H rfl rfl fld_43_1 (lt_ rfl) fun a H => ?_
   obtain ⟨hs82, hf83, h⟩ := h
   refine s_sto (p := ((blk b9).add 2).add 2) (v := (.bool false)) H rfl rfl rfl rfl one_4 rfl hs82 hf83 ?_
   clear H
   intro H
   generalize hww81 : World.setCell w13 (((blk b9).add 2).add 2) (.bool false) = w81 at h ⊢
   have w81S : SetAt w13 (((blk b9).add 2).add 2) (.bool false) w81 := ⟨hww81.symm⟩
   clear hww81 hs82 hf83
   refine c_nil <| hK80 _ _ <| c_seq fun K84 hK84 => c_reg <| s_fld H rfl rfl fld_45_2 (lt_ rfl) fun a H => s_fld H rfl rfl fld_43_2 (lt_ rfl) fun a H => ?_
   obtain ⟨hs86, hf87, h⟩ := h
   refine s_sto (p := ((blk b9).add 2).add 3) (v := (.bool false)) H rfl rfl rfl rfl one_4 rfl hs86 hf87 ?_
   clear H
   intro H
   generalize hww85 : World.setCell w81 (((blk b9).add 2).add 3) (.bool false) = w85 at h ⊢
   have w85S : SetAt w81 (((blk b9).add 2).add 3) (.bool false) w85 := ⟨hww85.symm⟩
   clear hww85 hs86 hf87
   refine c_nil <| hK84 _ _ <| c_reg <| s_fld H rfl rfl fld_45_2 (lt_ rfl) fun a H => s_fld H rfl rfl fld_43_3 (lt_ rfl) fun a H => ?_
   obtain ⟨hs89, hf90, h⟩ := h
   refine s_sto (p := ((blk b9).add 2).add 4) (v := (Slc.v Slc.nil)) H rfl rfl rfl rfl one_28 rfl hs89 hf90 ?_
   clear H
   intro H
   generalize hww88 : World.setCell w85 (((blk b9).add 2).add 4) (Slc.v Slc.nil) = w88 at h ⊢
   have w88S : SetAt w85 (((blk b9).add 2).add 4) (Slc.v Slc.nil) w88 := ⟨hww88.symm⟩
   clear hww88 hs89 hf90
   refine c_nil ?_
   exact hJ67 _ _ h (H.weaken ⟨rfl, rfl, trivial⟩)
  ·replace h := h.2 hb79
   refine c_skip ?_
   exact hJ67 _ _ h (H.weaken ⟨rfl, rfl, trivial⟩)

set_option maxRecDepth 100000 in
set_option maxHeartbeats 4000000 in
theorem sim_record_Scan_c1 (c1 : Addr) (c2 : Addr) (c3 : Addr) (w : World) (Q : Ending → World → Prop) (h : vc_record_Scan_c1 c1 c2 c3 w Q) : Calls PP F_record_Scan_c1 #[(.pointer (some c1)), (.pointer (some c2)), (.pointer (some c3))] w Q := by
 unfold vc_record_Scan_c1 at h
 refine enter (n := 8) (l := [(.pointer (some c1)), (.pointer (some c2)), (.pointer (some c3))]) Tryd.func31 rfl rfl (Nat.le_of_ble_eq_true rfl) fun a H => ?_
 replace H : Has 8 [] a [(0, (.pointer (some c1))), (1, (.pointer (some c2))), (2, (.pointer (some c3)))] := H
 refine c_reg ?_
 obtain ⟨l4, hc5, h⟩ := h
 refine s_load (v := (Slc.v l4)) H rfl rfl one_28 hc5 (lt_ rfl) fun a H => s_call H rfl body_32 (H.args (vs := [(Slc.v l4)]) rfl) (lt_ rfl) h ?_ (fun c w' h H => e_panic (P := PP) (fn := Tryd.f31) H h)
 clear H h a
 rintro _ w6 a ⟨N7, K8, Delta9, Serve10, readH11, rfl, h⟩ H
 refine s_move H rfl rfl (lt_ rfl) fun a H => s_ext H rfl rfl rfl (lt_ rfl) fun a H => s_ext H rfl rfl rfl (lt_ rfl) fun a H => s_stoN (l := [(.int .i64 N7), (.int .i64 K8), (.int .i64 Delta9), (.int .i64 Serve10)]) H rfl rfl rfl rfl agg_25 rfl rfl h ?_
 clear h H
 intro w12 h H
 obtain ⟨hs14, hf15, h⟩ := h
 refine s_sto (p := c3) (v := (.int .i64 readH11)) H rfl rfl rfl rfl one_3 rfl hs14 hf15 ?_
 clear H
 intro H
 generalize hww13 : World.setCell w12 (c3) (.int .i64 readH11) = w13 at h ⊢
 have w13S : SetAt w12 (c3) (.int .i64 readH11) w13 := ⟨hww13.symm⟩
 clear hww13 hs14 hf15
 refine c_nil ?_
 exact e_ret0 H rfl h

set_option maxRecDepth 100000 in
set_option maxHeartbeats 4000000 in
theorem sim_record_readHead (data1 : Slc) (w : World) (Q : Ending → World → Prop) (h : vc_record_readHead data1 w Q) : Calls PP F_record_readHead #[(Slc.v data1)] w Q := by
 unfold vc_record_readHead at h
 refine enter (n := 64) (l := [(Slc.v data1)]) Tryd.func32 rfl rfl (Nat.le_of_ble_eq_true rfl) fun a H => ?_
 replace H : Has 64 [] a [(0, (Slc.v data1))] := H
 refine c_seq fun K2 hK2 => c_reg ?_
 replace h := h.get
 obtain ⟨b3, w4, nb5, h⟩ := h
 refine s_alloc H rfl zero_25 (lt_ rfl) ?_
 rw [← nb5.at_]
 clear H a
 intro a H
 refine nb5.go <| s_assign H rfl rfl (lt_ rfl) fun a H => c_nil <| hK2 _ _ <| c_seq fun K6 hK6 => c_reg <| s_move H rfl rfl (lt_ rfl) fun a H => s_call H rfl body_57 (H.args (vs := [(Slc.v data1)]) rfl) (lt_ rfl) h ?_ (fun c w' h H => e_panic (P := PP) (fn := Tryd.f32) H h)
 clear H h a
 rintro _ w7 a ⟨NewRe8, rfl, h⟩ H
 refine s_assign H rfl rfl (lt_ rfl) fun a H => c_nil <| hK6 _ _ <| c_seq fun K9 hK9 => c_reg <| s_move H rfl rfl (lt_ rfl) fun a H => s_call H rfl body_58 (H.args (vs := [(.pointer NewRe8)]) rfl) (lt_ rfl) h ?_ (fun c w' h H => e_panic (P := PP) (fn := Tryd.f32) H h)
 clear H h a
 rintro _ w10 a ⟨Byte11, rfl, h⟩ H
 refine s_assign H rfl rfl (lt_ rfl) fun a H => c_nil <| hK9 _ _ <| c_seq fun K12 hK12 => c_reg ?_
 replace h := h.get
 obtain ⟨b13, w14, nb15, h⟩ := h
 refine s_alloc H rfl zero_100 (lt_ rfl) ?_
 rw [← nb15.at_]
 clear H a
 intro a H
 refine nb15.go <| c_nil <| hK12 _ _ <| c_seq fun K16 hK16 => c_seq fun K17 hK17 => c_reg <| s_move H rfl rfl (lt_ rfl) fun a H => c_nil <| hK17 _ _ <| c_block ?_
 obtain ⟨I20, mu21, h0139, hl140⟩ := h
 refine c_loop (σ := Int) (fun z w => I20 z w) (fun z w => mu21 z w) (fun z => [(0, (Slc.v data1)), (2, (.pointer (some (blk b3)))), (4, (.pointer NewRe8)), (5, (.int .u8 Byte11)), (6, (.pointer (some (blk b13)))), (14, (.int .i64 z))]) 0 h0139 (H.weaken ⟨rfl, rfl, rfl, rfl, rfl, rfl, trivial⟩) ?_
 clear H h0139
 rintro s18 a w19 h H
 replace h := hl140 s18 w19 h
 clear hl140
 replace H : Has 64 [] a [(0, (Slc.v data1)), (2, (.pointer (some (blk b3)))), (4, (.pointer NewRe8)), (5, (.int .u8 Byte11)), (6, (.pointer (some (blk b13)))), (14, (.int .i64 s18))] := H
 refine c_seq fun K22 hK22 => c_reg <| s_bin H rfl rfl rfl r_lss (lt_ rfl) fun a H => c_nil <| hK22 _ _ <| c_seq fun K23 hK23 => c_cond H rfl (fun hb24 => ?_) (fun hb24 => ?_)
 ·replace h := h.1 hb24
  refine c_skip <| hK23 _ _ <| c_seq fun K25 hK25 => c_block <| c_seq fun K26 hK26 => c_reg <| s_move H rfl rfl (lt_ rfl) fun a H => s_assign H rfl rfl (lt_ rfl) fun a H => c_nil <| hK26 _ _ <| c_reg <| s_move H rfl rfl (lt_ rfl) fun a H => s_move H rfl rfl (lt_ rfl) fun a H => s_call H rfl body_59 (H.args (vs := [(.pointer NewRe8), (.int .i64 4611686018427387903)]) rfl) (lt_ rfl) h ?_ (fun c w' h H => e_panic (P := PP) (fn := Tryd.f32) H h)
  clear H h a
  rintro _ w27 a ⟨Uint28, rfl, h⟩ H
  obtain ⟨hi29, hi30, h⟩ := h
  refine s_idxA H rfl rfl rfl arr_100 hi29 hi30 (lt_ rfl) fun a H => ?_
  obtain ⟨hs32, hf33, h⟩ := h
  refine s_sto (p := (blk b13).add (Int.toNat (s18) * 1)) (v := (.int .i64 Uint28)) H rfl rfl rfl rfl one_3 rfl hs32 hf33 ?_
  clear H
  intro H
  generalize hww31 : World.setCell w27 ((blk b13).add (Int.toNat (s18) * 1)) (.int .i64 Uint28) = w31 at h ⊢
  have w31S : SetAt w27 ((blk b13).add (Int.toNat (s18) * 1)) (.int .i64 Uint28) w31 := ⟨hww31.symm⟩
  clear hww31 hs32 hf33
  refine c_nil <| hK25 _ _ <| c_reg <| s_bin H rfl rfl rfl r_add (lt_ rfl) fun a H => s_move H rfl rfl (lt_ rfl) fun a H => c_nil <| Exists.intro (wr .i64 (s18 + 1)) ⟨h.1, h.2, H.weaken ⟨rfl, rfl, rfl, rfl, rfl, rfl, trivial⟩⟩
 ·replace h := h.2 hb24
  refine c_exit ?_
  first | (simp only [Exit.then, Exit.inBlock, ↓reduceIte]; fail_if_success simp only [Nat.reduceEqDiff]) | simp only [Exit.then, Exit.inBlock, ↓reduceIte, Nat.reduceEqDiff]
  refine hK16 _ _ <| c_seq fun K38 hK38 => c_reg <| s_idxA (i := 0) (len := 4) (size := 1) H rfl rfl rfl arr_100 (by decide) (by decide) (lt_ rfl) fun a H => ?_
  obtain ⟨l39, hc40, h⟩ := h
  refine s_load (v := (.int .i64 l39)) H rfl rfl one_3 hc40 (lt_ rfl) fun a H => s_idxA (i := 1) (len := 4) (size := 1) H rfl rfl rfl arr_100 (by decide) (by decide) (lt_ rfl) fun a H => ?_
  obtain ⟨l41, hc42, h⟩ := h
  refine s_load (v := (.int .i64 l41)) H rfl rfl one_3 hc42 (lt_ rfl) fun a H => s_idxA (i := 2) (len := 4) (size := 1) H rfl rfl rfl arr_100 (by decide) (by decide) (lt_ rfl) fun a H => ?_
  obtain ⟨l43, hc44, h⟩ := h
  refine s_load (v := (.int .i64 l43)) H rfl rfl one_3 hc44 (lt_ rfl) fun a H => s_build H rfl (by rw [H.parts (vs := [(0, (.int .i64 l39)), (1, (.int .i64 l41)), (2, (.int .i64 l43))]) rfl]; exact bd_23_ii640_ii641_ii642 w19 l39 l41 l43) (lt_ rfl) fun a H => s_idxA (i := 3) (len := 4) (size := 1) H rfl rfl rfl arr_100 (by decide) (by decide) (lt_ rfl) fun a H => ?_
  obtain ⟨l45, hc46, h⟩ := h
  refine s_load (v := (.int .i64 l45)) H rfl rfl one_3 hc46 (lt_ rfl) fun a H => s_build H rfl (by rw [H.parts (vs := [(0, (.agg #[(.int .i64 l39), (.int .i64 l41), (.int .i64 l43)])), (1, (.int .i64 l45))]) rfl]; exact bd_25_ii64ii64ii640_ii641 w19 l39 l41 l43 l45) (lt_ rfl) fun a H => ?_
  replace h := h.get
  obtain ⟨b47, w48, nb49, h⟩ := h
  refine s_alloc H rfl zero_25 (lt_ rfl) ?_
  rw [← nb49.at_]
  clear H a
  intro a H
  refine nb49.go <| s_stoN (l := [(.int .i64 l39), (.int .i64 l41), (.int .i64 l43), (.int .i64 l45)]) H rfl rfl rfl rfl agg_25 rfl rfl h ?_
  clear h H
  intro w50 h H
  refine c_nil <| hK38 _ _ <| c_seq fun K51 hK51 => c_reg <| s_move H rfl rfl (lt_ rfl) fun a H => s_call H rfl body_61 (H.args (vs := [(.pointer NewRe8)]) rfl) (lt_ rfl) h ?_ (fun c w' h H => e_panic (P := PP) (fn := Tryd.f32) H h)
  clear H h a
  rintro _ w52 a ⟨Err53, rfl, h⟩ H
  refine s_bin H rfl rfl rfl r_eql (lt_ rfl) fun a H => s_move H rfl rfl (lt_ rfl) fun a H => g_join (n := 64) [(38, (.bool ((decide (Err53 = 0)) && (decide (Byte11 = 72))))), (0, (Slc.v data1)), (2, (.pointer (some (blk b3)))), (8, (.pointer (some (blk b47))))] (.succ (.succ (.succ (.zero _)))) ?_ ?_
  ·intro hr55
   try clear h
   rcases Bool.eq_false_or_eq_true (decide (Err53 = 0)) with hg54 | hg54
   ·replace H := H.ch (t := 35) (b := true) rfl hg54
    refine s_move H (wantG H rfl rfl) rfl (lt_ rfl) fun a H => s_bin H (wantG H rfl rfl) rfl rfl r_eql (lt_ rfl) fun a H => s_pickT H rfl rfl rfl (lt_ rfl) fun a H => ?_
    exact hr55 _ (H.weaken ⟨by rw [hg54]; rfl, rfl, rfl, rfl, trivial⟩)
   ·replace H := H.ch (t := 35) (b := false) rfl hg54
    refine s_skip H (wantN H rfl rfl rfl) rfl (lt_ rfl) fun a H => s_skip H (wantN H rfl rfl rfl) rfl (lt_ rfl) fun a H => s_pickF H rfl rfl rfl (lt_ rfl) fun a H => ?_
    exact hr55 _ (H.weaken ⟨by rw [hg54]; rfl, rfl, rfl, rfl, trivial⟩)
  ·clear H a
   intro a H
   refine s_move H rfl rfl (lt_ rfl) fun a H => ?_
   obtain ⟨R58, h, hx134⟩ := h
   refine g_joinW (n := 64) R58 (fun x59 => [(43, (.bool x59)), (0, (Slc.v data1)), (2, (.pointer (some (blk b3)))), (8, (.pointer (some (blk b47))))]) (.succ (.succ (.succ (.succ (.zero _))))) ?_ ?_
   ·intro hr57
    clear hx134
    rcases Bool.eq_false_or_eq_true ((decide (Err53 = 0)) && (decide (Byte11 = 72))) with hg56 | hg56
    ·replace H := H.ch (t := 39) (b := true) rfl hg56
     replace h := h.1 hg56
     obtain ⟨N61, hc62, h⟩ := h
     obtain ⟨K63, hc64, h⟩ := h
     obtain ⟨Delta65, hc66, h⟩ := h
     obtain ⟨Serve67, hc68, h⟩ := h
     refine s_loadN (l := [(.int .i64 N61), (.int .i64 K63), (.int .i64 Delta65), (.int .i64 Serve67)]) H (wantG H rfl rfl) rfl agg_25 rfl ⟨hc62, hc64, hc66, hc68, trivial⟩ (lt_ rfl) fun a H => s_call H (wantG H rfl rfl) body_23 (H.args (vs := [(.agg #[(.int .i64 N61), (.int .i64 K63), (.int .i64 Delta65), (.int .i64 Serve67)])]) rfl) (lt_ rfl) h ?_ (fun c w' h H => e_panic (P := PP) (fn := Tryd.f32) H h)
     clear H h a
     rintro _ w69 a ⟨mayHe70, rfl, h⟩ H
     refine s_bin H (wantG H rfl rfl) rfl rfl r_eql (lt_ rfl) fun a H => s_pickT H rfl rfl rfl (lt_ rfl) fun a H => ?_
     exact hr57 _ _ _ h (H.weaken ⟨rfl, rfl, rfl, rfl, trivial⟩)
    ·replace H := H.ch (t := 39) (b := false) rfl hg56
     replace h := h.2 hg56
     iterate 3 refine s_skip H (wantN H rfl rfl rfl) rfl (lt_ rfl) fun a H => ?_
     refine s_pickF H rfl rfl rfl (lt_ rfl) fun a H => ?_
     exact hr57 _ _ _ h (H.weaken ⟨rfl, rfl, rfl, rfl, trivial⟩)
   ·clear H a h
    intro a x59 w60 h H
    replace h := hx134 x59 w60 h
    clear hx134
    refine s_call H rfl body_60 (H.args (vs := [(.bool x59), (.int .i64 63)]) rfl) (lt_ rfl) h ?_ (fun c w' h H => e_panic (P := PP) (fn := Tryd.f32) H h)
    clear H h a
    rintro _ w75 a ⟨rfl, h⟩ H
    refine c_nil <| hK51 _ _ <| c_seq fun K76 hK76 => c_reg ?_
    obtain ⟨N77, hc78, h⟩ := h
    obtain ⟨K79, hc80, h⟩ := h
    obtain ⟨Delta81, hc82, h⟩ := h
    obtain ⟨Serve83, hc84, h⟩ := h
    refine s_loadN (l := [(.int .i64 N77), (.int .i64 K79), (.int .i64 Delta81), (.int .i64 Serve83)]) H rfl rfl agg_25 rfl ⟨hc78, hc80, hc82, hc84, trivial⟩ (lt_ rfl) fun a H => s_call H rfl body_24 (H.args (vs := [(.agg #[(.int .i64 N77), (.int .i64 K79), (.int .i64 Delta81), (.int .i64 Serve83)])]) rfl) (lt_ rfl) h ?_ (fun c w' h H => e_panic (P := PP) (fn := Tryd.f32) H h)
    clear H h a
    rintro _ w85 a ⟨headO86, rfl, h⟩ H
    refine s_assign H rfl rfl (lt_ rfl) fun a H => c_nil <| hK76 _ _ <| c_seq fun K87 hK87 => c_reg <| s_move H rfl rfl (lt_ rfl) fun a H => s_blt H rfl (H.args (vs := [(Slc.v data1)]) rfl) (lt_ rfl) (fun cs => b_lenS (z := data1) sl_28) fun a H => s_move H rfl rfl (lt_ rfl) fun a H => s_blt H rfl (H.args (vs := [(Slc.v headO86)]) rfl) (lt_ rfl) (fun cs => b_lenS (z := headO86) sl_28) fun a H => s_bin H rfl rfl rfl r_geq (lt_ rfl) fun a H => s_move H rfl rfl (lt_ rfl) fun a H => ?_
    obtain ⟨R90, h, hx125⟩ := h
    refine g_joinW (n := 64) R90 (fun x91 => [(59, (.bool x91)), (2, (.pointer (some (blk b3)))), (8, (.pointer (some (blk b47)))), (9, (Slc.v headO86))]) (.succ (.succ (.succ (.succ (.succ (.succ (.succ (.zero _)))))))) ?_ ?_
    ·intro hr89
     clear hx125
     rcases Bool.eq_false_or_eq_true (decide ((headO86.l : Int) ≤ (data1.l : Int))) with hg88 | hg88
     ·replace H := H.ch (t := 52) (b := true) rfl hg88
      replace h := h.1 hg88
      refine s_move H (wantG H rfl rfl) rfl (lt_ rfl) fun a H => s_move H (wantG H rfl rfl) rfl (lt_ rfl) fun a H => s_blt H (wantG H rfl rfl) (H.args (vs := [(Slc.v headO86)]) rfl) (lt_ rfl) (fun cs => b_lenS (z := headO86) sl_28) fun a H => ?_
      obtain ⟨hi93, hi94, hi95, h⟩ := h
      refine s_slice (v := (Slc.v (data1.cut 1 (Int.toNat (0)) (Int.toNat ((headO86.l : Int)))))) H (wantG H rfl rfl) rfl ⟨rfl, rfl⟩ ⟨rfl, rfl⟩ ⟨rfl, rfl⟩ (r_sliceSlc (lo := none) (hi := (some (.i64, (headO86.l : Int)))) slc_28 rfl rfl hi93 hi94 hi95) (lt_ rfl) fun a H => s_move H (wantG H rfl rfl) rfl (lt_ rfl) fun a H => ?_
      refine s_call H (wantG H rfl rfl) body_62 (H.args (vs := [(Slc.v (data1.cut 1 (Int.toNat (0)) (Int.toNat ((headO86.l : Int))))), (Slc.v headO86)]) rfl) (lt_ rfl) h ?_ (fun c w' h H => e_panic (P := PP) (fn := Tryd.f32) H h)
      clear H h a
      rintro _ w96 a ⟨Equal97, rfl, h⟩ H
      refine s_pickT H rfl rfl rfl (lt_ rfl) fun a H => ?_
      exact hr89 _ _ _ h (H.weaken ⟨rfl, rfl, rfl, rfl, trivial⟩)
     ·replace H := H.ch (t := 52) (b := false) rfl hg88
      replace h := h.2 hg88
      iterate 6 refine s_skip H (wantN H rfl rfl rfl) rfl (lt_ rfl) fun a H => ?_
      refine s_pickF H rfl rfl rfl (lt_ rfl) fun a H => ?_
      exact hr89 _ _ _ h (H.weaken ⟨rfl, rfl, rfl, rfl, trivial⟩)
    ·clear H a h
     intro a x91 w92 h H
     replace h := hx125 x91 w92 h
     clear hx125
     refine s_call H rfl body_60 (H.args (vs := [(.bool x91), (.int .i64 63)]) rfl) (lt_ rfl) h ?_ (fun c w' h H => e_panic (P := PP) (fn := Tryd.f32) H h)
     clear H h a
     rintro _ w102 a ⟨rfl, h⟩ H
     refine c_nil <| hK87 _ _ <| c_seq fun K103 hK103 => c_reg ?_
     obtain ⟨N104, hc105, h⟩ := h
     obtain ⟨K106, hc107, h⟩ := h
     obtain ⟨Delta108, hc109, h⟩ := h
     obtain ⟨Serve110, hc111, h⟩ := h
     refine s_loadN (l := [(.int .i64 N104), (.int .i64 K106), (.int .i64 Delta108), (.int .i64 Serve110)]) H rfl rfl agg_25 rfl ⟨hc105, hc107, hc109, hc111, trivial⟩ (lt_ rfl) fun a H => s_move H rfl rfl (lt_ rfl) fun a H => s_blt H rfl (H.args (vs := [(Slc.v headO86)]) rfl) (lt_ rfl) (fun cs => b_lenS (z := headO86) sl_28) fun a H => s_stoN (l := [(.int .i64 N104), (.int .i64 K106), (.int .i64 Delta108), (.int .i64 Serve110)]) H rfl rfl rfl rfl agg_25 rfl rfl h ?_
     clear h H
     intro w112 h H
     refine s_assign H rfl rfl (lt_ rfl) fun a H => c_nil <| hK103 _ _ <| c_ret ?_
     obtain ⟨N113, hc114, h⟩ := h
     obtain ⟨K115, hc116, h⟩ := h
     obtain ⟨Delta117, hc118, h⟩ := h
     obtain ⟨Serve119, hc120, h⟩ := h
     exact e_ret2 H rfl ⟨_, rfl, run_loadN (l := [(.int .i64 N113), (.int .i64 K115), (.int .i64 Delta117), (.int .i64 Serve119)]) agg_25 rfl ⟨hc114, hc116, hc118, hc120, trivial⟩⟩ rfl h

set_option maxRecDepth 100000 in
set_option maxHeartbeats 4000000 in
theorem sim_record_Scan_c2 (c1 : Addr) (c2 : Addr) (w : World) (Q : Ending → World → Prop) (h : vc_record_Scan_c2 c1 c2 w Q) : Calls PP F_record_Scan_c2 #[(.pointer (some c1)), (.pointer (some c2))] w Q := by
 unfold vc_record_Scan_c2 at h
 refine enter (n := 11) (l := [(.pointer (some c1)), (.pointer (some c2))]) Tryd.func33 rfl rfl (Nat.le_of_ble_eq_true rfl) fun a H => ?_
 replace H : Has 11 [] a [(0, (.pointer (some c1))), (1, (.pointer (some c2)))] := H
 refine c_block ?_
 obtain ⟨I4, mu5, h025, hl26⟩ := h
 refine c_loop (σ := Unit) (fun z w => I4 w) (fun z w => mu5 w) (fun z => [(0, (.pointer (some c1))), (1, (.pointer (some c2)))]) () h025 (H.weaken ⟨rfl, rfl, trivial⟩) ?_
 clear H h025
 rintro _ a w3 h H
 replace h := hl26 w3 h
 clear hl26
 replace H : Has 11 [] a [(0, (.pointer (some c1))), (1, (.pointer (some c2)))] := H
 refine c_seq fun K6 hK6 => c_seq fun K7 hK7 => c_regD mixed (by kernel_rfl) ?_
 obtain ⟨l9, hc10, h⟩ := h
 refine z_load (v := (.pointer l9)) H rfl rfl one_76 hc10 (lt_ rfl) fun a H => ?_
 obtain ⟨a11, hq24, h⟩ := h
 subst hq24
 refine z_nil H rfl rfl (lt_ rfl) fun a H => z_fld H rfl rfl fld_78_1 (lt_ rfl) fun a H => ?_
 obtain ⟨l12, hc13, h⟩ := h
 refine z_load (v := (.int .i64 l12)) H rfl rfl one_3 hc13 (lt_ rfl) fun a H => ?_
 obtain ⟨l14, hc15, h⟩ := h
 refine z_load (v := (Slc.v l14)) H rfl rfl one_28 hc15 (lt_ rfl) fun a H => z_blt H rfl (H.args (vs := [(Slc.v l14)]) rfl) (lt_ rfl) (fun cs w => b_lenS (z := l14) sl_28) fun a H => z_bin H rfl rfl rfl r_lss (lt_ rfl) fun a H => wpQuiet_nil ?_
 rintro _ ⟨k8, rfl⟩
 replace h := h k8
 refine hK7 _ _ <| c_cond H rfl (fun hb16 => ?_) (fun hb16 => ?_)
 ·replace h := h.1 hb16
  refine c_skip <| hK6 _ _ <| c_block <| c_reg ?_
  obtain ⟨l17, hc18, h⟩ := h
  refine s_load (v := (.pointer l17)) H rfl rfl one_76 hc18 (lt_ rfl) fun a H => s_call H rfl body_34 (H.args (vs := [(.pointer l17)]) rfl) (lt_ rfl) h ?_ (fun c w' h H => e_panic (P := PP) (fn := Tryd.f33) H h)
  clear H h a
  rintro _ w19 a ⟨rfl, h⟩ H
  refine c_nil <| Exists.intro () ⟨h.1, h.2, H.weaken ⟨rfl, rfl, trivial⟩⟩
 ·replace h := h.2 hb16
  refine c_exit ?_
  first | (simp only [Exit.then, Exit.inBlock, ↓reduceIte]; fail_if_success simp only [Nat.reduceEqDiff]) | simp only [Exit.then, Exit.inBlock, ↓reduceIte, Nat.reduceEqDiff]
  exact e_ret0 H rfl h

set_option maxRecDepth 100000 in
set_option maxHeartbeats 4000000 in
theorem sim_record_scanner_next (s1 : Option Addr) (w : World) (Q : Ending → World → Prop) (h : vc_record_scanner_next s1 w Q) : Calls PP F_record_scanner_next #[(.pointer s1)] w Q := by
 unfold vc_record_scanner_next at h
 refine enter (n := 124) (l := [(.pointer s1)]) Tryd.func34 rfl rfl (Nat.le_of_ble_eq_true rfl) fun a H => ?_
 replace H : Has 124 [] a [(0, (.pointer s1))] := H
 refine c_seq fun K2 hK2 => c_regD mixed (by kernel_rfl) <| z_move H rfl rfl (lt_ rfl) fun a H => ?_
 obtain ⟨a4, hq178, h⟩ := h
 subst hq178
 refine z_nil H rfl rfl (lt_ rfl) fun a H => z_fld H rfl rfl fld_78_0 (lt_ rfl) fun a H => ?_
 obtain ⟨l5, hc6, h⟩ := h
 refine z_load (v := (Slc.v l5)) H rfl rfl one_28 hc6 (lt_ rfl) fun a H => z_move H rfl rfl (lt_ rfl) fun a H => z_nil H rfl rfl (lt_ rfl) fun a H => z_fld H rfl rfl fld_78_1 (lt_ rfl) fun a H => ?_
 obtain ⟨l7, hc8, h⟩ := h
 refine z_load (v := (.int .i64 l7)) H rfl rfl one_3 hc8 (lt_ rfl) fun a H => ?_
 obtain ⟨hi9, hi10, hi11, h⟩ := h
 refine z_slice (v := (Slc.v (l5.cut 1 (Int.toNat (l7)) (Int.toNat ((l5.l : Int)))))) H rfl rfl ⟨rfl, rfl⟩ ⟨rfl, rfl⟩ ⟨rfl, rfl⟩ (fun w => r_sliceSlc (lo := (some (.i64, l7))) (hi := none) slc_28 rfl rfl hi9 hi10 hi11) (lt_ rfl) fun a H => z_assign H rfl rfl (lt_ rfl) fun a H => wpQuiet_nil ?_
 rintro _ ⟨k3, rfl⟩
 replace h := h k3
 refine hK2 _ _ <| c_seq fun K12 hK12 => c_reg <| s_move H rfl rfl (lt_ rfl) fun a H => ?_
 obtain ⟨a13, hi14, hi15, hi16, h⟩ := h
 refine s_idxS (s := l5.cut 1 (Int.toNat (l7)) (Int.toNat ((l5.l : Int)))) H rfl rfl rfl slc_28 hi14 hi15 hi16 (lt_ rfl) fun a H => ?_
 obtain ⟨l17, hc18, h⟩ := h
 refine s_load (v := (.int .u8 l17)) H rfl rfl one_5 hc18 (lt_ rfl) fun a H => s_bin H rfl rfl rfl r_eql (lt_ rfl) fun a H => s_call H rfl body_60 (H.args (vs := [(.bool (decide (l17 = 82))), (.int .i64 32)]) rfl) (lt_ rfl) h ?_ (fun c w' h H => e_panic (P := PP) (fn := Tryd.f34) H h)
 clear H h a
 rintro _ w19 a ⟨rfl, h⟩ H
 refine c_nil <| hK12 _ _ <| c_seq fun K20 hK20 => c_reg <| s_move H rfl rfl (lt_ rfl) fun a H => s_move H rfl rfl (lt_ rfl) fun a H => s_blt H rfl (H.args (vs := [(Slc.v (l5.cut 1 (Int.toNat (l7)) (Int.toNat ((l5.l : Int)))))]) rfl) (lt_ rfl) (fun cs => b_lenS (z := l5.cut 1 (Int.toNat (l7)) (Int.toNat ((l5.l : Int)))) sl_28) fun a H => ?_
 refine s_blt H rfl (H.args (vs := [(.int .i64 ((l5.cut 1 (Int.toNat (l7)) (Int.toNat ((l5.l : Int)))).l : Int)), (.int .i64 11)]) rfl) (lt_ rfl) (fun cs => b_min) fun a H => ?_
 obtain ⟨hi21, hi22, hi23, h⟩ := h
 refine s_slice (v := (Slc.v ((l5.cut 1 (Int.toNat (l7)) (Int.toNat ((l5.l : Int)))).cut 1 (Int.toNat (1)) (Int.toNat (minI ((l5.cut 1 (Int.toNat (l7)) (Int.toNat ((l5.l : Int)))).l : Int) 11))))) H rfl rfl ⟨rfl, rfl⟩ ⟨rfl, rfl⟩ ⟨rfl, rfl⟩ (r_sliceSlc (lo := (some (.i64, 1))) (hi := (some (.i64, minI ((l5.cut 1 (Int.toNat (l7)) (Int.toNat ((l5.l : Int)))).l : Int) 11))) slc_28 rfl rfl hi21 hi22 hi23) (lt_ rfl) fun a H => ?_
 refine s_call H rfl body_57 (H.args (vs := [(Slc.v ((l5.cut 1 (Int.toNat (l7)) (Int.toNat ((l5.l : Int)))).cut 1 (Int.toNat (1)) (Int.toNat (minI ((l5.cut 1 (Int.toNat (l7)) (Int.toNat ((l5.l : Int)))).l : Int) 11))))]) rfl) (lt_ rfl) h ?_ (fun c w' h H => e_panic (P := PP) (fn := Tryd.f34) H h)
 clear H h a
 rintro _ w24 a ⟨NewRe25, rfl, h⟩ H
 refine s_assign H rfl rfl (lt_ rfl) fun a H => c_nil <| hK20 _ _ <| c_seq fun K26 hK26 => c_reg <| s_move H rfl rfl (lt_ rfl) fun a H => s_call H rfl body_59 (H.args (vs := [(.pointer NewRe25), (.int .i64 66000)]) rfl) (lt_ rfl) h ?_ (fun c w' h H => e_panic (P := PP) (fn := Tryd.f34) H h)
 clear H h a
 rintro _ w27 a ⟨Uint28, rfl, h⟩ H
 refine s_assign H rfl rfl (lt_ rfl) fun a H => c_nil <| hK26 _ _ <| c_seq fun K29 hK29 => ?_
 obtain ⟨R30, h, hx165⟩ := h
 have hJ153 : ∀ (a : Act) (w31 : World), R30 w31 → Has 124 [] a [(0, (.pointer (some a4))), (2, (Slc.v (l5.cut 1 (Int.toNat (l7)) (Int.toNat ((l5.l : Int)))))), (3, (.pointer NewRe25)), (4, (.int .i64 Uint28))] → K29 a w31 := by
  clear h
  intro a w31 h H
  replace h := hx165 w31 h
  refine hK29 _ _ <| c_seq fun K32 hK32 => c_reg <| s_move H rfl rfl (lt_ rfl) fun a H => s_call H rfl body_63 (H.args (vs := [(.pointer NewRe25)]) rfl) (lt_ rfl) h ?_ (fun c w' h H => e_panic (P := PP) (fn := Tryd.f34) H h)
  clear H h a
  rintro _ w33 a ⟨At34, rfl, h⟩ H
  refine s_bin H rfl rfl rfl r_add (lt_ rfl) fun a H => s_assign H rfl rfl (lt_ rfl) fun a H => c_nil <| hK32 _ _ <| c_seq fun K35 hK35 => c_reg <| s_move H rfl rfl (lt_ rfl) fun a H => s_move H rfl rfl (lt_ rfl) fun a H => s_bin H rfl rfl rfl r_add (lt_ rfl) fun a H => s_assign H rfl rfl (lt_ rfl) fun a H => c_nil <| hK35 _ _ <| c_seq fun K36 hK36 => c_reg <| s_move H rfl rfl (lt_ rfl) fun a H => ?_
  refine s_blt H rfl (H.args (vs := [(Slc.v (l5.cut 1 (Int.toNat (l7)) (Int.toNat ((l5.l : Int)))))]) rfl) (lt_ rfl) (fun cs => b_lenS (z := l5.cut 1 (Int.toNat (l7)) (Int.toNat ((l5.l : Int)))) sl_28) fun a H => s_move H rfl rfl (lt_ rfl) fun a H => s_bin H rfl rfl rfl r_add (lt_ rfl) fun a H => s_bin H rfl rfl rfl r_geq (lt_ rfl) fun a H => ?_
  refine s_call H rfl body_60 (H.args (vs := [(.bool (decide ((wr .i64 ((wr .i64 ((wr .i64 (1 + At34)) + Uint28)) + 4)) ≤ ((l5.cut 1 (Int.toNat (l7)) (Int.toNat ((l5.l : Int)))).l : Int)))), (.int .i64 30)]) rfl) (lt_ rfl) h ?_ (fun c w' h H => e_panic (P := PP) (fn := Tryd.f34) H h)
  clear H h a
  rintro _ w37 a ⟨rfl, h⟩ H
  refine c_nil <| hK36 _ _ <| c_seq fun K38 hK38 => ?_
  replace H := H.weaken (L' := [(0, (.pointer (some a4))), (2, (Slc.v (l5.cut 1 (Int.toNat (l7)) (Int.toNat ((l5.l : Int)))))), (5, (.int .i64 (wr .i64 (1 + At34)))), (6, (.int .i64 (wr .i64 ((wr .i64 (1 + At34)) + Uint28))))]) ⟨rfl, rfl, rfl, rfl, trivial⟩
  obtain ⟨l39, hc40, h⟩ := h
  obtain ⟨a41, hq42, h⟩ := h
  subst hq42
  obtain ⟨l43, hc44, h⟩ := h
  obtain ⟨hi45, hi46, hi47, h⟩ := h
  refine c_any (V := [(0, (.pointer (some a4))), (1, (.pointer (some a4))), (2, (.pointer (some (a4.add 2)))), (3, (.pointer (some a41))), (4, (.pointer (some a41))), (5, (.pointer (some (a41.add 0)))), (6, (Slc.v l43)), (7, (Slc.v (l5.cut 1 (Int.toNat (l7)) (Int.toNat ((l5.l : Int)))))), (8, (.int .i64 (wr .i64 ((wr .i64 (1 + At34)) + Uint28)))), (9, (Slc.v ((l5.cut 1 (Int.toNat (l7)) (Int.toNat ((l5.l : Int)))).cut 1 (Int.toNat (0)) (Int.toNat (wr .i64 ((wr .i64 (1 + At34)) + Uint28))))))]) (⟨[[], [0], [1], [2], [3], [4], [5], [], [], [7, 8], [6, 9], [10], [11], [0, 1, 2, 3, 4, 5, 6, 7, 8, 9, 10, 11, 12]], [some 50, some 51, some 52, some 53, some 54, some 55, some 56, some 57, some 58, some 59, some 60, some 61, some 62, some 7], [10, 11, 12], [0, 0, 0, 0, 0, 0, 0, 0, 0, 0, 0, 1, 2, 3], [0, 0, 0, 0, 0, 0, 0, 0, 0, 0, 1, 2, 3, 3]⟩ : Rg) [(0, (.pointer (some a4))), (2, (Slc.v (l5.cut 1 (Int.toNat (l7)) (Int.toNat ((l5.l : Int)))))), (5, (.int .i64 (wr .i64 (1 + At34)))), (6, (.int .i64 (wr .i64 ((wr .i64 (1 + At34)) + Uint28))))] mixed (by kernel_rfl) H ?_
  refine Stg.eff [0, 1, 2, 3, 4, 5, 6, 7, 8, 9] (by kernel_rfl) rfl (.cons ?_ (.cons ?_ (.cons ?_ (.cons ?_ (.cons ?_ (.cons ?_ (.cons ?_ (.cons ?_ (.cons ?_ (.cons ?_ .nil)))))))))) ?_
  ·refine Ans.mk rfl rfl fun a H => ?_
   replace H := H.weaken (L' := [(0, (.pointer (some a4)))]) ⟨rfl, trivial⟩
   refine s_move H rfl rfl (lt_ rfl) fun a H => c_nil ⟨rfl, rfl, H.weaken (L' := [(50, (.pointer (some a4)))]) ⟨rfl, trivial⟩⟩
  ·refine Ans.mk rfl rfl fun a H => ?_
   replace H := H.weaken (L' := [(50, (.pointer (some a4)))]) ⟨rfl, trivial⟩
   refine s_nil H rfl rfl (lt_ rfl) fun a H => c_nil ⟨rfl, rfl, H.weaken (L' := [(51, (.pointer (some a4)))]) ⟨rfl, trivial⟩⟩
  ·refine Ans.mk rfl rfl fun a H => ?_
   replace H := H.weaken (L' := [(51, (.pointer (some a4)))]) ⟨rfl, trivial⟩
   refine s_fld H rfl rfl fld_78_2 (lt_ rfl) fun a H => c_nil ⟨rfl, rfl, H.weaken (L' := [(52, (.pointer (some (a4.add 2))))]) ⟨rfl, trivial⟩⟩
  ·refine Ans.mk rfl rfl fun a H => ?_
   replace H := H.weaken (L' := [(52, (.pointer (some (a4.add 2))))]) ⟨rfl, trivial⟩
   refine s_load (v := (.pointer (some a41))) H rfl rfl one_32 hc40 (lt_ rfl) fun a H => c_nil ⟨rfl, rfl, H.weaken (L' := [(53, (.pointer (some a41)))]) ⟨rfl, trivial⟩⟩
  ·refine Ans.mk rfl rfl fun a H => ?_
   replace H := H.weaken (L' := [(53, (.pointer (some a41)))]) ⟨rfl, trivial⟩
   refine s_nil H rfl rfl (lt_ rfl) fun a H => c_nil ⟨rfl, rfl, H.weaken (L' := [(54, (.pointer (some a41)))]) ⟨rfl, trivial⟩⟩
  ·refine Ans.mk rfl rfl fun a H => ?_
   replace H := H.weaken (L' := [(54, (.pointer (some a41)))]) ⟨rfl, trivial⟩
   refine s_fld H rfl rfl fld_71_0 (lt_ rfl) fun a H => c_nil ⟨rfl, rfl, H.weaken (L' := [(55, (.pointer (some (a41.add 0))))]) ⟨rfl, trivial⟩⟩
  ·refine Ans.mk rfl rfl fun a H => ?_
   replace H := H.weaken (L' := [(55, (.pointer (some (a41.add 0))))]) ⟨rfl, trivial⟩
   refine s_load (v := (Slc.v l43)) H rfl rfl one_28 hc44 (lt_ rfl) fun a H => c_nil ⟨rfl, rfl, H.weaken (L' := [(56, (Slc.v l43))]) ⟨rfl, trivial⟩⟩
  ·refine Ans.mk rfl rfl fun a H => ?_
   replace H := H.weaken (L' := [(2, (Slc.v (l5.cut 1 (Int.toNat (l7)) (Int.toNat ((l5.l : Int))))))]) ⟨rfl, trivial⟩
   refine s_move H rfl rfl (lt_ rfl) fun a H => c_nil ⟨rfl, rfl, H.weaken (L' := [(57, (Slc.v (l5.cut 1 (Int.toNat (l7)) (Int.toNat ((l5.l : Int))))))]) ⟨rfl, trivial⟩⟩
  ·refine Ans.mk rfl rfl fun a H => ?_
   replace H := H.weaken (L' := [(6, (.int .i64 (wr .i64 ((wr .i64 (1 + At34)) + Uint28))))]) ⟨rfl, trivial⟩
   refine s_move H rfl rfl (lt_ rfl) fun a H => c_nil ⟨rfl, rfl, H.weaken (L' := [(58, (.int .i64 (wr .i64 ((wr .i64 (1 + At34)) + Uint28))))]) ⟨rfl, trivial⟩⟩
  ·refine Ans.mk rfl rfl fun a H => ?_
   replace H := H.weaken (L' := [(57, (Slc.v (l5.cut 1 (Int.toNat (l7)) (Int.toNat ((l5.l : Int)))))), (58, (.int .i64 (wr .i64 ((wr .i64 (1 + At34)) + Uint28))))]) ⟨rfl, rfl, trivial⟩
   refine s_slice (v := (Slc.v ((l5.cut 1 (Int.toNat (l7)) (Int.toNat ((l5.l : Int)))).cut 1 (Int.toNat (0)) (Int.toNat (wr .i64 ((wr .i64 (1 + At34)) + Uint28)))))) H rfl rfl ⟨rfl, rfl⟩ ⟨rfl, rfl⟩ ⟨rfl, rfl⟩ (r_sliceSlc (lo := none) (hi := (some (.i64, wr .i64 ((wr .i64 (1 + At34)) + Uint28)))) slc_28 rfl rfl hi45 hi46 hi47) (lt_ rfl) fun a H => ?_
   refine c_nil ⟨rfl, rfl, H.weaken (L' := [(59, (Slc.v ((l5.cut 1 (Int.toNat (l7)) (Int.toNat ((l5.l : Int)))).cut 1 (Int.toNat (0)) (Int.toNat (wr .i64 ((wr .i64 (1 + At34)) + Uint28))))))]) ⟨rfl, trivial⟩⟩
  ·intro a H
   replace H := H.weaken (L' := [(56, (Slc.v l43)), (59, (Slc.v ((l5.cut 1 (Int.toNat (l7)) (Int.toNat ((l5.l : Int)))).cut 1 (Int.toNat (0)) (Int.toNat (wr .i64 ((wr .i64 (1 + At34)) + Uint28))))))]) ⟨rfl, rfl, trivial⟩
   replace h := h.get
   obtain ⟨b48, w49, nb50, h⟩ := h
   refine s_bslc H rfl (by rw [H.parts (vs := [(0, (Slc.v l43)), (1, (Slc.v ((l5.cut 1 (Int.toNat (l7)) (Int.toNat ((l5.l : Int)))).cut 1 (Int.toNat (0)) (Int.toNat (wr .i64 ((wr .i64 (1 + At34)) + Uint28))))))]) rfl]; exact bs_37_2_s0_s1 (w37.drewN 1) l43 ((l5.cut 1 (Int.toNat (l7)) (Int.toNat ((l5.l : Int)))).cut 1 (Int.toNat (0)) (Int.toNat (wr .i64 ((wr .i64 (1 + At34)) + Uint28))))) (lt_ rfl) ?_
   rw [← nb50.at_]
   clear H a
   intro a H
   refine nb50.go <| c_nil ?_
   refine effQ.ok (v := (Slc.v (Slc.mk (some (blk b48)) 2 2))) (H.weaken (L' := [(60, (Slc.v (Slc.mk (some (blk b48)) 2 2)))]) ⟨rfl, trivial⟩) ⟨[(0, (.pointer (some a4))), (1, (.pointer (some a4))), (2, (.pointer (some (a4.add 2)))), (3, (.pointer (some a41))), (4, (.pointer (some a41))), (5, (.pointer (some (a41.add 0)))), (6, (Slc.v l43)), (7, (Slc.v (l5.cut 1 (Int.toNat (l7)) (Int.toNat ((l5.l : Int)))))), (8, (.int .i64 (wr .i64 ((wr .i64 (1 + At34)) + Uint28)))), (9, (Slc.v ((l5.cut 1 (Int.toNat (l7)) (Int.toNat ((l5.l : Int)))).cut 1 (Int.toNat (0)) (Int.toNat (wr .i64 ((wr .i64 (1 + At34)) + Uint28)))))), (10, (Slc.v (Slc.mk (some (blk b48)) 2 2)))], ⟨rfl, rfl, rfl, rfl, rfl, rfl, rfl, rfl, rfl, rfl, rfl, trivial⟩, ?_⟩
   refine Stg.eff [] (by kernel_rfl) rfl .nil ?_
   ·intro a H
    replace H := H.weaken (L' := [(60, (Slc.v (Slc.mk (some (blk b48)) 2 2)))]) ⟨rfl, trivial⟩
    refine s_call H rfl body_43 (H.args (vs := [(Slc.v (Slc.mk (some (blk b48)) 2 2))]) rfl) (lt_ rfl) h ?_ (fun c w' h H => e_panic (P := PP) (fn := Tryd.f34) H h)
    clear H h a
    rintro _ w51 a ⟨Of52, rfl, h⟩ H
    refine c_nil ?_
    refine effQ.ok (v := (.int .u32 Of52)) (H.weaken (L' := [(61, (.int .u32 Of52))]) ⟨rfl, trivial⟩) ⟨[(0, (.pointer (some a4))), (1, (.pointer (some a4))), (2, (.pointer (some (a4.add 2)))), (3, (.pointer (some a41))), (4, (.pointer (some a41))), (5, (.pointer (some (a41.add 0)))), (6, (Slc.v l43)), (7, (Slc.v (l5.cut 1 (Int.toNat (l7)) (Int.toNat ((l5.l : Int)))))), (8, (.int .i64 (wr .i64 ((wr .i64 (1 + At34)) + Uint28)))), (9, (Slc.v ((l5.cut 1 (Int.toNat (l7)) (Int.toNat ((l5.l : Int)))).cut 1 (Int.toNat (0)) (Int.toNat (wr .i64 ((wr .i64 (1 + At34)) + Uint28)))))), (10, (Slc.v (Slc.mk (some (blk b48)) 2 2))), (11, (.int .u32 Of52))], ⟨rfl, rfl, rfl, rfl, rfl, rfl, rfl, rfl, rfl, rfl, rfl, rfl, trivial⟩, ?_⟩
    refine Stg.eff [] (by kernel_rfl) rfl .nil ?_
    ·intro a H
     replace H := H.weaken (L' := [(61, (.int .u32 Of52))]) ⟨rfl, trivial⟩
     refine s_call H rfl body_42 (H.args (vs := [(.int .u32 Of52)]) rfl) (lt_ rfl) h ?_ (fun c w' h H => e_panic (P := PP) (fn := Tryd.f34) H h)
     clear H h a
     rintro _ w53 a ⟨four54, rfl, h⟩ H
     refine c_nil ?_
     refine effQ.ok (v := (Slc.v four54)) (H.weaken (L' := [(62, (Slc.v four54))]) ⟨rfl, trivial⟩) ⟨[(0, (.pointer (some a4))), (1, (.pointer (some a4))), (2, (.pointer (some (a4.add 2)))), (3, (.pointer (some a41))), (4, (.pointer (some a41))), (5, (.pointer (some (a41.add 0)))), (6, (Slc.v l43)), (7, (Slc.v (l5.cut 1 (Int.toNat (l7)) (Int.toNat ((l5.l : Int)))))), (8, (.int .i64 (wr .i64 ((wr .i64 (1 + At34)) + Uint28)))), (9, (Slc.v ((l5.cut 1 (Int.toNat (l7)) (Int.toNat ((l5.l : Int)))).cut 1 (Int.toNat (0)) (Int.toNat (wr .i64 ((wr .i64 (1 + At34)) + Uint28)))))), (10, (Slc.v (Slc.mk (some (blk b48)) 2 2))), (11, (.int .u32 Of52)), (12, (Slc.v four54)), (13, (Slc.v four54))], ⟨rfl, rfl, rfl, rfl, rfl, rfl, rfl, rfl, rfl, rfl, rfl, rfl, rfl, trivial⟩, ?_⟩
     refine Stg.fin [13] (by kernel_rfl) (.cons ?_ .nil) ?_
     ·refine Ans.mk rfl rfl fun a H => ?_
      replace H := H.weaken (L' := [(62, (Slc.v four54))]) ⟨rfl, trivial⟩
      refine s_assign H rfl rfl (lt_ rfl) fun a H => c_nil ⟨rfl, rfl, H.weaken (L' := [(7, (Slc.v four54))]) ⟨rfl, trivial⟩⟩
     ·intro a H
      replace H := H.weaken (L' := [(0, (.pointer (some a4))), (2, (Slc.v (l5.cut 1 (Int.toNat (l7)) (Int.toNat ((l5.l : Int)))))), (5, (.int .i64 (wr .i64 (1 + At34)))), (6, (.int .i64 (wr .i64 ((wr .i64 (1 + At34)) + Uint28)))), (7, (Slc.v four54))]) ⟨rfl, rfl, rfl, rfl, rfl, trivial⟩
      refine hK38 _ _ <| c_seq fun K55 hK55 => c_reg ?_
      iterate 4 refine s_move H rfl rfl (lt_ rfl) fun a H => ?_
      refine s_bin H rfl rfl rfl r_add (lt_ rfl) fun a H => ?_
      obtain ⟨hi56, hi57, hi58, h⟩ := h
      refine s_slice (v := (Slc.v ((l5.cut 1 (Int.toNat (l7)) (Int.toNat ((l5.l : Int)))).cut 1 (Int.toNat (wr .i64 ((wr .i64 (1 + At34)) + Uint28))) (Int.toNat (wr .i64 ((wr .i64 ((wr .i64 (1 + At34)) + Uint28)) + 4)))))) H rfl rfl ⟨rfl, rfl⟩ ⟨rfl, rfl⟩ ⟨rfl, rfl⟩ (r_sliceSlc (lo := (some (.i64, wr .i64 ((wr .i64 (1 + At34)) + Uint28)))) (hi := (some (.i64, wr .i64 ((wr .i64 ((wr .i64 (1 + At34)) + Uint28)) + 4)))) slc_28 rfl rfl hi56 hi57 hi58) (lt_ rfl) fun a H => ?_
      refine s_call H rfl body_62 (H.args (vs := [(Slc.v four54), (Slc.v ((l5.cut 1 (Int.toNat (l7)) (Int.toNat ((l5.l : Int)))).cut 1 (Int.toNat (wr .i64 ((wr .i64 (1 + At34)) + Uint28))) (Int.toNat (wr .i64 ((wr .i64 ((wr .i64 (1 + At34)) + Uint28)) + 4)))))]) rfl) (lt_ rfl) h ?_ (fun c w' h H => e_panic (P := PP) (fn := Tryd.f34) H h)
      clear H h a
      rintro _ w59 a ⟨Equal60, rfl, h⟩ H
      refine s_call H rfl body_60 (H.args (vs := [(.bool Equal60), (.int .i64 34)]) rfl) (lt_ rfl) h ?_ (fun c w' h H => e_panic (P := PP) (fn := Tryd.f34) H h)
      clear H h a
      rintro _ w61 a ⟨rfl, h⟩ H
      refine c_nil <| hK55 _ _ <| c_seq fun K62 hK62 => ?_
      replace H := H.weaken (L' := [(0, (.pointer (some a4))), (2, (Slc.v (l5.cut 1 (Int.toNat (l7)) (Int.toNat ((l5.l : Int)))))), (5, (.int .i64 (wr .i64 (1 + At34)))), (6, (.int .i64 (wr .i64 ((wr .i64 (1 + At34)) + Uint28)))), (7, (Slc.v four54))]) ⟨rfl, rfl, rfl, rfl, rfl, trivial⟩
      obtain ⟨l63, hc64, h⟩ := h
      obtain ⟨hi65, hi66, hi67, h⟩ := h
      refine c_any (V := [(0, (.pointer (some a4))), (1, (.pointer (some a4))), (2, (.pointer (some a4))), (3, (.pointer (some (a4.add 3)))), (4, (Slc.v l63)), (5, (Slc.v (l5.cut 1 (Int.toNat (l7)) (Int.toNat ((l5.l : Int)))))), (6, (.int .i64 (wr .i64 (1 + At34)))), (7, (.int .i64 (wr .i64 ((wr .i64 (1 + At34)) + Uint28)))), (8, (Slc.v ((l5.cut 1 (Int.toNat (l7)) (Int.toNat ((l5.l : Int)))).cut 1 (Int.toNat (wr .i64 (1 + At34))) (Int.toNat (wr .i64 ((wr .i64 (1 + At34)) + Uint28))))))]) (⟨[[], [], [1], [2], [3], [], [], [], [5, 6, 7], [8], [9], [4, 9, 10], [0, 1, 2, 3, 4, 5, 6, 7, 8, 9, 10, 11], [0, 1, 2, 3, 4, 5, 6, 7, 8, 9, 10, 11, 12], [0, 1, 2, 3, 4, 5, 6, 7, 8, 9, 10, 11, 13]], [some 71, some 72, some 73, some 74, some 75, some 76, some 77, some 78, some 79, some 80, some 81, some 82, some 83, some 84, none], [9, 10, 11, 14], [0, 0, 0, 0, 0, 0, 0, 0, 0, 0, 1, 2, 3, 3, 3], [3, 2, 2, 2, 2, 0, 0, 0, 0, 1, 2, 3, 3, 3, 4]⟩ : Rg) [(0, (.pointer (some a4))), (2, (Slc.v (l5.cut 1 (Int.toNat (l7)) (Int.toNat ((l5.l : Int)))))), (5, (.int .i64 (wr .i64 (1 + At34)))), (6, (.int .i64 (wr .i64 ((wr .i64 (1 + At34)) + Uint28)))), (7, (Slc.v four54))] mixed (by kernel_rfl) H ?_
      refine Stg.eff [0, 1, 2, 3, 4, 5, 6, 7, 8] (by kernel_rfl) rfl (.cons ?_ (.cons ?_ (.cons ?_ (.cons ?_ (.cons ?_ (.cons ?_ (.cons ?_ (.cons ?_ (.cons ?_ .nil))))))))) ?_
      ·refine Ans.mk rfl rfl fun a H => ?_
       replace H := H.weaken (L' := [(0, (.pointer (some a4)))]) ⟨rfl, trivial⟩
       refine s_move H rfl rfl (lt_ rfl) fun a H => c_nil ⟨rfl, rfl, H.weaken (L' := [(71, (.pointer (some a4)))]) ⟨rfl, trivial⟩⟩
      ·refine Ans.mk rfl rfl fun a H => ?_
       replace H := H.weaken (L' := [(0, (.pointer (some a4)))]) ⟨rfl, trivial⟩
       refine s_move H rfl rfl (lt_ rfl) fun a H => c_nil ⟨rfl, rfl, H.weaken (L' := [(72, (.pointer (some a4)))]) ⟨rfl, trivial⟩⟩
      ·refine Ans.mk rfl rfl fun a H => ?_
       replace H := H.weaken (L' := [(72, (.pointer (some a4)))]) ⟨rfl, trivial⟩
       refine s_nil H rfl rfl (lt_ rfl) fun a H => c_nil ⟨rfl, rfl, H.weaken (L' := [(73, (.pointer (some a4)))]) ⟨rfl, trivial⟩⟩
      ·refine Ans.mk rfl rfl fun a H => ?_
       replace H := H.weaken (L' := [(73, (.pointer (some a4)))]) ⟨rfl, trivial⟩
       refine s_fld H rfl rfl fld_78_3 (lt_ rfl) fun a H => c_nil ⟨rfl, rfl, H.weaken (L' := [(74, (.pointer (some (a4.add 3))))]) ⟨rfl, trivial⟩⟩
      ·refine Ans.mk rfl rfl fun a H => ?_
       replace H := H.weaken (L' := [(74, (.pointer (some (a4.add 3))))]) ⟨rfl, trivial⟩
       refine s_load (v := (Slc.v l63)) H rfl rfl one_26 hc64 (lt_ rfl) fun a H => c_nil ⟨rfl, rfl, H.weaken (L' := [(75, (Slc.v l63))]) ⟨rfl, trivial⟩⟩
      ·refine Ans.mk rfl rfl fun a H => ?_
       replace H := H.weaken (L' := [(2, (Slc.v (l5.cut 1 (Int.toNat (l7)) (Int.toNat ((l5.l : Int))))))]) ⟨rfl, trivial⟩
       refine s_move H rfl rfl (lt_ rfl) fun a H => c_nil ⟨rfl, rfl, H.weaken (L' := [(76, (Slc.v (l5.cut 1 (Int.toNat (l7)) (Int.toNat ((l5.l : Int))))))]) ⟨rfl, trivial⟩⟩
      ·refine Ans.mk rfl rfl fun a H => ?_
       replace H := H.weaken (L' := [(5, (.int .i64 (wr .i64 (1 + At34))))]) ⟨rfl, trivial⟩
       refine s_move H rfl rfl (lt_ rfl) fun a H => c_nil ⟨rfl, rfl, H.weaken (L' := [(77, (.int .i64 (wr .i64 (1 + At34))))]) ⟨rfl, trivial⟩⟩
      ·refine Ans.mk rfl rfl fun a H => ?_
       replace H := H.weaken (L' := [(6, (.int .i64 (wr .i64 ((wr .i64 (1 + At34)) + Uint28))))]) ⟨rfl, trivial⟩
       refine s_move H rfl rfl (lt_ rfl) fun a H => c_nil ⟨rfl, rfl, H.weaken (L' := [(78, (.int .i64 (wr .i64 ((wr .i64 (1 + At34)) + Uint28))))]) ⟨rfl, trivial⟩⟩
      ·refine Ans.mk rfl rfl fun a H => ?_
       replace H := H.weaken (L' := [(76, (Slc.v (l5.cut 1 (Int.toNat (l7)) (Int.toNat ((l5.l : Int)))))), (77, (.int .i64 (wr .i64 (1 + At34)))), (78, (.int .i64 (wr .i64 ((wr .i64 (1 + At34)) + Uint28))))]) ⟨rfl, rfl, rfl, trivial⟩
       refine s_slice (v := (Slc.v ((l5.cut 1 (Int.toNat (l7)) (Int.toNat ((l5.l : Int)))).cut 1 (Int.toNat (wr .i64 (1 + At34))) (Int.toNat (wr .i64 ((wr .i64 (1 + At34)) + Uint28)))))) H rfl rfl ⟨rfl, rfl⟩ ⟨rfl, rfl⟩ ⟨rfl, rfl⟩ (r_sliceSlc (lo := (some (.i64, wr .i64 (1 + At34)))) (hi := (some (.i64, wr .i64 ((wr .i64 (1 + At34)) + Uint28)))) slc_28 rfl rfl hi65 hi66 hi67) (lt_ rfl) fun a H => ?_
       refine c_nil ⟨rfl, rfl, H.weaken (L' := [(79, (Slc.v ((l5.cut 1 (Int.toNat (l7)) (Int.toNat ((l5.l : Int)))).cut 1 (Int.toNat (wr .i64 (1 + At34))) (Int.toNat (wr .i64 ((wr .i64 (1 + At34)) + Uint28))))))]) ⟨rfl, trivial⟩⟩
      ·intro a H
       replace H := H.weaken (L' := [(79, (Slc.v ((l5.cut 1 (Int.toNat (l7)) (Int.toNat ((l5.l : Int)))).cut 1 (Int.toNat (wr .i64 (1 + At34))) (Int.toNat (wr .i64 ((wr .i64 (1 + At34)) + Uint28))))))]) ⟨rfl, trivial⟩
       refine s_call H rfl body_64 (H.args (vs := [(Slc.v ((l5.cut 1 (Int.toNat (l7)) (Int.toNat ((l5.l : Int)))).cut 1 (Int.toNat (wr .i64 (1 + At34))) (Int.toNat (wr .i64 ((wr .i64 (1 + At34)) + Uint28)))))]) rfl) (lt_ rfl) h ?_ (fun c w' h H => e_panic (P := PP) (fn := Tryd.f34) H h)
       clear H h a
       rintro _ w68 a ⟨Kind69, Key70, Count71, Clien72, Fin73, Has74, Data75, rfl, h⟩ H
       refine c_nil ?_
       obtain ⟨hc76, h⟩ := h
       refine effQ.ok (v := (.agg #[(.int .i64 Kind69), (.string Key70), (.int .i64 Count71), (.int .i64 Clien72), (.bool Fin73), (.bool Has74), (Slc.v Data75)])) (H.weaken (L' := [(80, (.agg #[(.int .i64 Kind69), (.string Key70), (.int .i64 Count71), (.int .i64 Clien72), (.bool Fin73), (.bool Has74), (Slc.v Data75)]))]) ⟨rfl, trivial⟩) ⟨[(0, (.pointer (some a4))), (1, (.pointer (some a4))), (2, (.pointer (some a4))), (3, (.pointer (some (a4.add 3)))), (4, (Slc.v l63)), (5, (Slc.v (l5.cut 1 (Int.toNat (l7)) (Int.toNat ((l5.l : Int)))))), (6, (.int .i64 (wr .i64 (1 + At34)))), (7, (.int .i64 (wr .i64 ((wr .i64 (1 + At34)) + Uint28)))), (8, (Slc.v ((l5.cut 1 (Int.toNat (l7)) (Int.toNat ((l5.l : Int)))).cut 1 (Int.toNat (wr .i64 (1 + At34))) (Int.toNat (wr .i64 ((wr .i64 (1 + At34)) + Uint28)))))), (9, (.agg #[(.int .i64 Kind69), (.string Key70), (.int .i64 Count71), (.int .i64 Clien72), (.bool Fin73), (.bool Has74), (Slc.v Data75)]))], ⟨rfl, rfl, rfl, rfl, rfl, rfl, rfl, rfl, rfl, rfl, trivial⟩, ?_⟩
       refine Stg.eff [0, 1, 2, 3, 4] (by kernel_rfl) rfl (.cons ?_ (.cons ?_ (.cons ?_ (.cons ?_ (.cons ?_ .nil))))) ?_
       ·refine Ans.mk rfl rfl fun a H => ?_
        replace H := H.weaken (L' := [(0, (.pointer (some a4)))]) ⟨rfl, trivial⟩
        refine s_move H rfl rfl (lt_ rfl) fun a H => c_nil ⟨rfl, rfl, H.weaken (L' := [(71, (.pointer (some a4)))]) ⟨rfl, trivial⟩⟩
       ·refine Ans.mk rfl rfl fun a H => ?_
        replace H := H.weaken (L' := [(0, (.pointer (some a4)))]) ⟨rfl, trivial⟩
        refine s_move H rfl rfl (lt_ rfl) fun a H => c_nil ⟨rfl, rfl, H.weaken (L' := [(72, (.pointer (some a4)))]) ⟨rfl, trivial⟩⟩
       ·refine Ans.mk rfl rfl fun a H => ?_
        replace H := H.weaken (L' := [(72, (.pointer (some a4)))]) ⟨rfl, trivial⟩
        refine s_nil H rfl rfl (lt_ rfl) fun a H => c_nil ⟨rfl, rfl, H.weaken (L' := [(73, (.pointer (some a4)))]) ⟨rfl, trivial⟩⟩
       ·refine Ans.mk rfl rfl fun a H => ?_
        replace H := H.weaken (L' := [(73, (.pointer (some a4)))]) ⟨rfl, trivial⟩
        refine s_fld H rfl rfl fld_78_3 (lt_ rfl) fun a H => c_nil ⟨rfl, rfl, H.weaken (L' := [(74, (.pointer (some (a4.add 3))))]) ⟨rfl, trivial⟩⟩
       ·refine Ans.mk rfl rfl fun a H => ?_
        replace H := H.weaken (L' := [(74, (.pointer (some (a4.add 3))))]) ⟨rfl, trivial⟩
        refine s_load (v := (Slc.v l63)) H rfl rfl one_26 hc76 (lt_ rfl) fun a H => c_nil ⟨rfl, rfl, H.weaken (L' := [(75, (Slc.v l63))]) ⟨rfl, trivial⟩⟩
       ·intro a H
        replace H := H.weaken (L' := [(80, (.agg #[(.int .i64 Kind69), (.string Key70), (.int .i64 Count71), (.int .i64 Clien72), (.bool Fin73), (.bool Has74), (Slc.v Data75)]))]) ⟨rfl, trivial⟩
        replace h := h.get
        obtain ⟨b77, w78, nb79, h⟩ := h
        refine s_bslc H rfl (by rw [H.parts (vs := [(0, (.agg #[(.int .i64 Kind69), (.string Key70), (.int .i64 Count71), (.int .i64 Clien72), (.bool Fin73), (.bool Has74), (Slc.v Data75)]))]) rfl]; exact bs_26_1_ii64sii64ii64bbs0 w68 Kind69 Key70 Count71 Clien72 Fin73 Has74 Data75) (lt_ rfl) ?_
        rw [← nb79.at_]
        clear H a
        intro a H
        refine nb79.go <| c_nil ?_
        obtain ⟨hc80, h⟩ := h
        refine effQ.ok (v := (Slc.v (Slc.mk (some (blk b77)) 1 1))) (H.weaken (L' := [(81, (Slc.v (Slc.mk (some (blk b77)) 1 1)))]) ⟨rfl, trivial⟩) ⟨[(0, (.pointer (some a4))), (1, (.pointer (some a4))), (2, (.pointer (some a4))), (3, (.pointer (some (a4.add 3)))), (4, (Slc.v l63)), (5, (Slc.v (l5.cut 1 (Int.toNat (l7)) (Int.toNat ((l5.l : Int)))))), (6, (.int .i64 (wr .i64 (1 + At34)))), (7, (.int .i64 (wr .i64 ((wr .i64 (1 + At34)) + Uint28)))), (8, (Slc.v ((l5.cut 1 (Int.toNat (l7)) (Int.toNat ((l5.l : Int)))).cut 1 (Int.toNat (wr .i64 (1 + At34))) (Int.toNat (wr .i64 ((wr .i64 (1 + At34)) + Uint28)))))), (9, (.agg #[(.int .i64 Kind69), (.string Key70), (.int .i64 Count71), (.int .i64 Clien72), (.bool Fin73), (.bool Has74), (Slc.v Data75)])), (10, (Slc.v (Slc.mk (some (blk b77)) 1 1)))], ⟨rfl, rfl, rfl, rfl, rfl, rfl, rfl, rfl, rfl, rfl, rfl, trivial⟩, ?_⟩
        refine Stg.eff [0, 1, 2, 3, 4] (by kernel_rfl) rfl (.cons ?_ (.cons ?_ (.cons ?_ (.cons ?_ (.cons ?_ .nil))))) ?_
        ·refine Ans.mk rfl rfl fun a H => ?_
         replace H := H.weaken (L' := [(0, (.pointer (some a4)))]) ⟨rfl, trivial⟩
         refine s_move H rfl rfl (lt_ rfl) fun a H => c_nil ⟨rfl, rfl, H.weaken (L' := [(71, (.pointer (some a4)))]) ⟨rfl, trivial⟩⟩
        ·refine Ans.mk rfl rfl fun a H => ?_
         replace H := H.weaken (L' := [(0, (.pointer (some a4)))]) ⟨rfl, trivial⟩
         refine s_move H rfl rfl (lt_ rfl) fun a H => c_nil ⟨rfl, rfl, H.weaken (L' := [(72, (.pointer (some a4)))]) ⟨rfl, trivial⟩⟩
        ·refine Ans.mk rfl rfl fun a H => ?_
         replace H := H.weaken (L' := [(72, (.pointer (some a4)))]) ⟨rfl, trivial⟩
         refine s_nil H rfl rfl (lt_ rfl) fun a H => c_nil ⟨rfl, rfl, H.weaken (L' := [(73, (.pointer (some a4)))]) ⟨rfl, trivial⟩⟩
        ·refine Ans.mk rfl rfl fun a H => ?_
         replace H := H.weaken (L' := [(73, (.pointer (some a4)))]) ⟨rfl, trivial⟩
         refine s_fld H rfl rfl fld_78_3 (lt_ rfl) fun a H => c_nil ⟨rfl, rfl, H.weaken (L' := [(74, (.pointer (some (a4.add 3))))]) ⟨rfl, trivial⟩⟩
        ·refine Ans.mk rfl rfl fun a H => ?_
         replace H := H.weaken (L' := [(74, (.pointer (some (a4.add 3))))]) ⟨rfl, trivial⟩
         refine s_load (v := (Slc.v l63)) H rfl rfl one_26 hc80 (lt_ rfl) fun a H => c_nil ⟨rfl, rfl, H.weaken (L' := [(75, (Slc.v l63))]) ⟨rfl, trivial⟩⟩
        ·intro a H
         replace H := H.weaken (L' := [(75, (Slc.v l63)), (81, (Slc.v (Slc.mk (some (blk b77)) 1 1)))]) ⟨rfl, rfl, trivial⟩
         obtain ⟨s81, w82, hq83, h⟩ := h
         refine s_blt H rfl (H.args (vs := [(Slc.v l63), (Slc.v (Slc.mk (some (blk b77)) 1 1))]) rfl) (lt_ rfl) (fun cs => b_app (z := s81) hq83) ?_
         clear H a hq83
         intro a H
         refine c_nil ?_
         refine effQ.ok (v := (Slc.v s81)) (H.weaken (L' := [(82, (Slc.v s81))]) ⟨rfl, trivial⟩) ⟨[(0, (.pointer (some a4))), (1, (.pointer (some a4))), (2, (.pointer (some a4))), (3, (.pointer (some (a4.add 3)))), (4, (Slc.v l63)), (5, (Slc.v (l5.cut 1 (Int.toNat (l7)) (Int.toNat ((l5.l : Int)))))), (6, (.int .i64 (wr .i64 (1 + At34)))), (7, (.int .i64 (wr .i64 ((wr .i64 (1 + At34)) + Uint28)))), (8, (Slc.v ((l5.cut 1 (Int.toNat (l7)) (Int.toNat ((l5.l : Int)))).cut 1 (Int.toNat (wr .i64 (1 + At34))) (Int.toNat (wr .i64 ((wr .i64 (1 + At34)) + Uint28)))))), (9, (.agg #[(.int .i64 Kind69), (.string Key70), (.int .i64 Count71), (.int .i64 Clien72), (.bool Fin73), (.bool Has74), (Slc.v Data75)])), (10, (Slc.v (Slc.mk (some (blk b77)) 1 1))), (11, (Slc.v s81)), (12, (.pointer (some a4))), (13, (.pointer (some (a4.add 3))))], ⟨rfl, rfl, rfl, rfl, rfl, rfl, rfl, rfl, rfl, rfl, rfl, rfl, trivial⟩, ?_⟩
         refine Stg.eff [0, 12, 13] (by kernel_rfl) rfl (.cons ?_ (.cons ?_ (.cons ?_ .nil))) ?_
         ·refine Ans.mk rfl rfl fun a H => ?_
          replace H := H.weaken (L' := [(0, (.pointer (some a4)))]) ⟨rfl, trivial⟩
          refine s_move H rfl rfl (lt_ rfl) fun a H => c_nil ⟨rfl, rfl, H.weaken (L' := [(71, (.pointer (some a4)))]) ⟨rfl, trivial⟩⟩
         ·refine Ans.mk rfl rfl fun a H => ?_
          replace H := H.weaken (L' := [(71, (.pointer (some a4)))]) ⟨rfl, trivial⟩
          refine s_nil H rfl rfl (lt_ rfl) fun a H => c_nil ⟨rfl, rfl, H.weaken (L' := [(83, (.pointer (some a4)))]) ⟨rfl, trivial⟩⟩
         ·refine Ans.mk rfl rfl fun a H => ?_
          replace H := H.weaken (L' := [(83, (.pointer (some a4)))]) ⟨rfl, trivial⟩
          refine s_fld H rfl rfl fld_78_3 (lt_ rfl) fun a H => c_nil ⟨rfl, rfl, H.weaken (L' := [(84, (.pointer (some (a4.add 3))))]) ⟨rfl, trivial⟩⟩
         ·intro a H
          replace H := H.weaken (L' := [(82, (Slc.v s81)), (84, (.pointer (some (a4.add 3))))]) ⟨rfl, rfl, trivial⟩
          obtain ⟨hs85, hf86, h⟩ := h
          refine s_sto (p := a4.add 3) (v := (Slc.v s81)) H rfl rfl rfl rfl one_26 rfl hs85 hf86 ?_
          clear H
          intro H
          generalize hww84 : World.setCell w82 (a4.add 3) (Slc.v s81) = w84 at h ⊢
          have w84S : SetAt w82 (a4.add 3) (Slc.v s81) w84 := ⟨hww84.symm⟩
          clear hww84 hs85 hf86
          refine c_nil ?_
          refine effQ.ok (v := undef) (H.weaken (L' := []) trivial) ⟨[(0, (.pointer (some a4))), (1, (.pointer (some a4))), (2, (.pointer (some a4))), (3, (.pointer (some (a4.add 3)))), (4, (Slc.v l63)), (5, (Slc.v (l5.cut 1 (Int.toNat (l7)) (Int.toNat ((l5.l : Int)))))), (6, (.int .i64 (wr .i64 (1 + At34)))), (7, (.int .i64 (wr .i64 ((wr .i64 (1 + At34)) + Uint28)))), (8, (Slc.v ((l5.cut 1 (Int.toNat (l7)) (Int.toNat ((l5.l : Int)))).cut 1 (Int.toNat (wr .i64 (1 + At34))) (Int.toNat (wr .i64 ((wr .i64 (1 + At34)) + Uint28)))))), (9, (.agg #[(.int .i64 Kind69), (.string Key70), (.int .i64 Count71), (.int .i64 Clien72), (.bool Fin73), (.bool Has74), (Slc.v Data75)])), (10, (Slc.v (Slc.mk (some (blk b77)) 1 1))), (11, (Slc.v s81)), (12, (.pointer (some a4))), (13, (.pointer (some (a4.add 3)))), (14, undef)], ⟨rfl, rfl, rfl, rfl, rfl, rfl, rfl, rfl, rfl, rfl, rfl, rfl, rfl, rfl, rfl, trivial⟩, ?_⟩
          refine Stg.fin [] (by kernel_rfl) .nil ?_
          ·intro a H
           replace H := H.weaken (L' := [(0, (.pointer (some a4))), (6, (.int .i64 (wr .i64 ((wr .i64 (1 + At34)) + Uint28)))), (7, (Slc.v four54))]) ⟨rfl, rfl, rfl, trivial⟩
           refine hK62 _ _ <| c_seq fun K87 hK87 => c_reg <| s_move H rfl rfl (lt_ rfl) fun a H => s_nil H rfl rfl (lt_ rfl) fun a H => s_fld H rfl rfl fld_78_2 (lt_ rfl) fun a H => ?_
           obtain ⟨l88, hc89, h⟩ := h
           refine s_load (v := (.pointer l88)) H rfl rfl one_32 hc89 (lt_ rfl) fun a H => s_move H rfl rfl (lt_ rfl) fun a H => ?_
           obtain ⟨a90, hq124, h⟩ := h
           subst hq124
           refine s_nil H rfl rfl (lt_ rfl) fun a H => s_fld H rfl rfl fld_71_0 (lt_ rfl) fun a H => ?_
           obtain ⟨hs92, hf93, h⟩ := h
           refine s_sto (p := a90.add 0) (v := (Slc.v four54)) H rfl rfl rfl rfl one_28 rfl hs92 hf93 ?_
           clear H
           intro H
           generalize hww91 : World.setCell w84 (a90.add 0) (Slc.v four54) = w91 at h ⊢
           have w91S : SetAt w84 (a90.add 0) (Slc.v four54) w91 := ⟨hww91.symm⟩
           clear hww91 hs92 hf93
           refine c_nil <| hK87 _ _ <| c_seq fun K94 hK94 => c_reg <| s_move H rfl rfl (lt_ rfl) fun a H => s_nil H rfl rfl (lt_ rfl) fun a H => s_fld H rfl rfl fld_78_2 (lt_ rfl) fun a H => ?_
           obtain ⟨l95, hc96, h⟩ := h
           refine s_load (v := (.pointer l95)) H rfl rfl one_32 hc96 (lt_ rfl) fun a H => ?_
           obtain ⟨a97, hq123, h⟩ := h
           subst hq123
           refine s_nil H rfl rfl (lt_ rfl) fun a H => s_fld H rfl rfl fld_71_1 (lt_ rfl) fun a H => ?_
           obtain ⟨l98, hc99, h⟩ := h
           refine s_load (v := (.int .i64 l98)) H rfl rfl one_3 hc99 (lt_ rfl) fun a H => s_bin H rfl rfl rfl r_add (lt_ rfl) fun a H => s_nil H rfl rfl (lt_ rfl) fun a H => s_fld H rfl rfl fld_71_1 (lt_ rfl) fun a H => ?_
           obtain ⟨hs101, hf102, h⟩ := h
           refine s_sto (p := a97.add 1) (v := (.int .i64 (wr .i64 (l98 + 1)))) H rfl rfl rfl rfl one_3 rfl hs101 hf102 ?_
           clear H
           intro H
           generalize hww100 : World.setCell w91 (a97.add 1) (.int .i64 (wr .i64 (l98 + 1))) = w100 at h ⊢
           have w100S : SetAt w91 (a97.add 1) (.int .i64 (wr .i64 (l98 + 1))) w100 := ⟨hww100.symm⟩
           clear hww100 hs101 hf102
           refine c_nil <| hK94 _ _ <| c_seq fun K103 hK103 => c_reg <| s_move H rfl rfl (lt_ rfl) fun a H => s_nil H rfl rfl (lt_ rfl) fun a H => s_fld H rfl rfl fld_78_1 (lt_ rfl) fun a H => ?_
           obtain ⟨l104, hc105, h⟩ := h
           refine s_load (v := (.int .i64 l104)) H rfl rfl one_3 hc105 (lt_ rfl) fun a H => s_move H rfl rfl (lt_ rfl) fun a H => s_bin H rfl rfl rfl r_add (lt_ rfl) fun a H => s_bin H rfl rfl rfl r_add (lt_ rfl) fun a H => s_nil H rfl rfl (lt_ rfl) fun a H => s_fld H rfl rfl fld_78_1 (lt_ rfl) fun a H => ?_
           obtain ⟨hs107, hf108, h⟩ := h
           refine s_sto (p := a4.add 1) (v := (.int .i64 (wr .i64 (l104 + (wr .i64 ((wr .i64 ((wr .i64 (1 + At34)) + Uint28)) + 4)))))) H rfl rfl rfl rfl one_3 rfl hs107 hf108 ?_
           clear H
           intro H
           generalize hww106 : World.setCell w100 (a4.add 1) (.int .i64 (wr .i64 (l104 + (wr .i64 ((wr .i64 ((wr .i64 (1 + At34)) + Uint28)) + 4))))) = w106 at h ⊢
           have w106S : SetAt w100 (a4.add 1) (.int .i64 (wr .i64 (l104 + (wr .i64 ((wr .i64 ((wr .i64 (1 + At34)) + Uint28)) + 4))))) w106 := ⟨hww106.symm⟩
           clear hww106 hs107 hf108
           refine c_nil <| hK103 _ _ ?_
           replace H := H.weaken (L' := [(0, (.pointer (some a4)))]) ⟨rfl, trivial⟩
           obtain ⟨l109, hc110, h⟩ := h
           obtain ⟨l111, hc112, h⟩ := h
           refine c_any (V := [(0, (.pointer (some a4))), (1, (.pointer (some a4))), (2, (.pointer (some a4))), (3, (.pointer (some (a4.add 4)))), (4, (Slc.v l109)), (5, (.pointer (some a4))), (6, (.pointer (some a4))), (7, (.pointer (some (a4.add 1)))), (8, (.int .i64 l111))]) (⟨[[], [], [1], [2], [3], [], [5], [6], [7], [8], [4, 9], [0, 1, 2, 3, 4, 5, 6, 7, 8, 9, 10], [0, 1, 2, 3, 4, 5, 6, 7, 8, 9, 10, 11], [0, 1, 2, 3, 4, 5, 6, 7, 8, 9, 10, 12]], [some 111, some 112, some 113, some 114, some 115, some 116, some 117, some 118, some 119, some 120, some 121, some 122, some 123, none], [9, 10, 13], [0, 0, 0, 0, 0, 0, 0, 0, 0, 0, 1, 2, 2, 2], [2, 1, 1, 1, 1, 0, 0, 0, 0, 1, 2, 2, 2, 3]⟩ : Rg) [(0, (.pointer (some a4)))] mixed (by kernel_rfl) H ?_
           refine Stg.eff [0, 1, 2, 3, 4, 5, 6, 7, 8] (by kernel_rfl) rfl (.cons ?_ (.cons ?_ (.cons ?_ (.cons ?_ (.cons ?_ (.cons ?_ (.cons ?_ (.cons ?_ (.cons ?_ .nil))))))))) ?_
           ·refine Ans.mk rfl rfl fun a H => ?_
            replace H := H.weaken (L' := [(0, (.pointer (some a4)))]) ⟨rfl, trivial⟩
            refine s_move H rfl rfl (lt_ rfl) fun a H => c_nil ⟨rfl, rfl, H.weaken (L' := [(111, (.pointer (some a4)))]) ⟨rfl, trivial⟩⟩
           ·refine Ans.mk rfl rfl fun a H => ?_
            replace H := H.weaken (L' := [(0, (.pointer (some a4)))]) ⟨rfl, trivial⟩
            refine s_move H rfl rfl (lt_ rfl) fun a H => c_nil ⟨rfl, rfl, H.weaken (L' := [(112, (.pointer (some a4)))]) ⟨rfl, trivial⟩⟩
           ·refine Ans.mk rfl rfl fun a H => ?_
            replace H := H.weaken (L' := [(112, (.pointer (some a4)))]) ⟨rfl, trivial⟩
            refine s_nil H rfl rfl (lt_ rfl) fun a H => c_nil ⟨rfl, rfl, H.weaken (L' := [(113, (.pointer (some a4)))]) ⟨rfl, trivial⟩⟩
           ·refine Ans.mk rfl rfl fun a H => ?_
            replace H := H.weaken (L' := [(113, (.pointer (some a4)))]) ⟨rfl, trivial⟩
            refine s_fld H rfl rfl fld_78_4 (lt_ rfl) fun a H => c_nil ⟨rfl, rfl, H.weaken (L' := [(114, (.pointer (some (a4.add 4))))]) ⟨rfl, trivial⟩⟩
           ·refine Ans.mk rfl rfl fun a H => ?_
            replace H := H.weaken (L' := [(114, (.pointer (some (a4.add 4))))]) ⟨rfl, trivial⟩
            refine s_load (v := (Slc.v l109)) H rfl rfl one_50 hc110 (lt_ rfl) fun a H => c_nil ⟨rfl, rfl, H.weaken (L' := [(115, (Slc.v l109))]) ⟨rfl, trivial⟩⟩
           ·refine Ans.mk rfl rfl fun a H => ?_
            replace H := H.weaken (L' := [(0, (.pointer (some a4)))]) ⟨rfl, trivial⟩
            refine s_move H rfl rfl (lt_ rfl) fun a H => c_nil ⟨rfl, rfl, H.weaken (L' := [(116, (.pointer (some a4)))]) ⟨rfl, trivial⟩⟩
           ·refine Ans.mk rfl rfl fun a H => ?_
            replace H := H.weaken (L' := [(116, (.pointer (some a4)))]) ⟨rfl, trivial⟩
            refine s_nil H rfl rfl (lt_ rfl) fun a H => c_nil ⟨rfl, rfl, H.weaken (L' := [(117, (.pointer (some a4)))]) ⟨rfl, trivial⟩⟩
           ·refine Ans.mk rfl rfl fun a H => ?_
            replace H := H.weaken (L' := [(117, (.pointer (some a4)))]) ⟨rfl, trivial⟩
            refine s_fld H rfl rfl fld_78_1 (lt_ rfl) fun a H => c_nil ⟨rfl, rfl, H.weaken (L' := [(118, (.pointer (some (a4.add 1))))]) ⟨rfl, trivial⟩⟩
           ·refine Ans.mk rfl rfl fun a H => ?_
            replace H := H.weaken (L' := [(118, (.pointer (some (a4.add 1))))]) ⟨rfl, trivial⟩
            refine s_load (v := (.int .i64 l111)) H rfl rfl one_3 hc112 (lt_ rfl) fun a H => c_nil ⟨rfl, rfl, H.weaken (L' := [(119, (.int .i64 l111))]) ⟨rfl, trivial⟩⟩
           ·intro a H
            replace H := H.weaken (L' := [(119, (.int .i64 l111))]) ⟨rfl, trivial⟩
            replace h := h.get
            obtain ⟨b113, w114, nb115, h⟩ := h
            refine s_bslc H rfl (by rw [H.parts (vs := [(0, (.int .i64 l111))]) rfl]; exact bs_50_1_ii640 (w106.drewN 1) l111) (lt_ rfl) ?_
            rw [← nb115.at_]
            clear H a
            intro a H
            refine nb115.go <| c_nil ?_
            obtain ⟨hc116, h⟩ := h
            refine effQ.ok (v := (Slc.v (Slc.mk (some (blk b113)) 1 1))) (H.weaken (L' := [(120, (Slc.v (Slc.mk (some (blk b113)) 1 1)))]) ⟨rfl, trivial⟩) ⟨[(0, (.pointer (some a4))), (1, (.pointer (some a4))), (2, (.pointer (some a4))), (3, (.pointer (some (a4.add 4)))), (4, (Slc.v l109)), (5, (.pointer (some a4))), (6, (.pointer (some a4))), (7, (.pointer (some (a4.add 1)))), (8, (.int .i64 l111)), (9, (Slc.v (Slc.mk (some (blk b113)) 1 1)))], ⟨rfl, rfl, rfl, rfl, rfl, rfl, rfl, rfl, rfl, rfl, trivial⟩, ?_⟩
            refine Stg.eff [0, 1, 2, 3, 4] (by kernel_rfl) rfl (.cons ?_ (.cons ?_ (.cons ?_ (.cons ?_ (.cons ?_ .nil))))) ?_
            ·refine Ans.mk rfl rfl fun a H => ?_
             replace H := H.weaken (L' := [(0, (.pointer (some a4)))]) ⟨rfl, trivial⟩
             refine s_move H rfl rfl (lt_ rfl) fun a H => c_nil ⟨rfl, rfl, H.weaken (L' := [(111, (.pointer (some a4)))]) ⟨rfl, trivial⟩⟩
            ·refine Ans.mk rfl rfl fun a H => ?_
             replace H := H.weaken (L' := [(0, (.pointer (some a4)))]) ⟨rfl, trivial⟩
             refine s_move H rfl rfl (lt_ rfl) fun a H => c_nil ⟨rfl, rfl, H.weaken (L' := [(112, (.pointer (some a4)))]) ⟨rfl, trivial⟩⟩
            ·refine Ans.mk rfl rfl fun a H => ?_
             replace H := H.weaken (L' := [(112, (.pointer (some a4)))]) ⟨rfl, trivial⟩
             refine s_nil H rfl rfl (lt_ rfl) fun a H => c_nil ⟨rfl, rfl, H.weaken (L' := [(113, (.pointer (some a4)))]) ⟨rfl, trivial⟩⟩
            ·refine Ans.mk rfl rfl fun a H => ?_
             replace H := H.weaken (L' := [(113, (.pointer (some a4)))]) ⟨rfl, trivial⟩
             refine s_fld H rfl rfl fld_78_4 (lt_ rfl) fun a H => c_nil ⟨rfl, rfl, H.weaken (L' := [(114, (.pointer (some (a4.add 4))))]) ⟨rfl, trivial⟩⟩
            ·refine Ans.mk rfl rfl fun a H => ?_
             replace H := H.weaken (L' := [(114, (.pointer (some (a4.add 4))))]) ⟨rfl, trivial⟩
             refine s_load (v := (Slc.v l109)) H rfl rfl one_50 hc116 (lt_ rfl) fun a H => c_nil ⟨rfl, rfl, H.weaken (L' := [(115, (Slc.v l109))]) ⟨rfl, trivial⟩⟩
            ·intro a H
             replace H := H.weaken (L' := [(115, (Slc.v l109)), (120, (Slc.v (Slc.mk (some (blk b113)) 1 1)))]) ⟨rfl, rfl, trivial⟩
             obtain ⟨s117, w118, hq119, h⟩ := h
             refine s_blt H rfl (H.args (vs := [(Slc.v l109), (Slc.v (Slc.mk (some (blk b113)) 1 1))]) rfl) (lt_ rfl) (fun cs => b_app (z := s117) hq119) ?_
             clear H a hq119
             intro a H
             refine c_nil ?_
             refine effQ.ok (v := (Slc.v s117)) (H.weaken (L' := [(121, (Slc.v s117))]) ⟨rfl, trivial⟩) ⟨[(0, (.pointer (some a4))), (1, (.pointer (some a4))), (2, (.pointer (some a4))), (3, (.pointer (some (a4.add 4)))), (4, (Slc.v l109)), (5, (.pointer (some a4))), (6, (.pointer (some a4))), (7, (.pointer (some (a4.add 1)))), (8, (.int .i64 l111)), (9, (Slc.v (Slc.mk (some (blk b113)) 1 1))), (10, (Slc.v s117)), (11, (.pointer (some a4))), (12, (.pointer (some (a4.add 4))))], ⟨rfl, rfl, rfl, rfl, rfl, rfl, rfl, rfl, rfl, rfl, rfl, trivial⟩, ?_⟩
             refine Stg.eff [0, 11, 12] (by kernel_rfl) rfl (.cons ?_ (.cons ?_ (.cons ?_ .nil))) ?_
             ·refine Ans.mk rfl rfl fun a H => ?_
              replace H := H.weaken (L' := [(0, (.pointer (some a4)))]) ⟨rfl, trivial⟩
              refine s_move H rfl rfl (lt_ rfl) fun a H => c_nil ⟨rfl, rfl, H.weaken (L' := [(111, (.pointer (some a4)))]) ⟨rfl, trivial⟩⟩
             ·refine Ans.mk rfl rfl fun a H => ?_
              replace H := H.weaken (L' := [(111, (.pointer (some a4)))]) ⟨rfl, trivial⟩
              refine s_nil H rfl rfl (lt_ rfl) fun a H => c_nil ⟨rfl, rfl, H.weaken (L' := [(122, (.pointer (some a4)))]) ⟨rfl, trivial⟩⟩
             ·refine Ans.mk rfl rfl fun a H => ?_
              replace H := H.weaken (L' := [(122, (.pointer (some a4)))]) ⟨rfl, trivial⟩
              refine s_fld H rfl rfl fld_78_4 (lt_ rfl) fun a H => c_nil ⟨rfl, rfl, H.weaken (L' := [(123, (.pointer (some (a4.add 4))))]) ⟨rfl, trivial⟩⟩
             ·intro a H
              replace H := H.weaken (L' := [(121, (Slc.v s117)), (123, (.pointer (some (a4.add 4))))]) ⟨rfl, rfl, trivial⟩
              obtain ⟨hs121, hf122, h⟩ := h
              refine s_sto (p := a4.add 4) (v := (Slc.v s117)) H rfl rfl rfl rfl one_50 rfl hs121 hf122 ?_
              clear H
              intro H
              generalize hww120 : World.setCell w118 (a4.add 4) (Slc.v s117) = w120 at h ⊢
              have w120S : SetAt w118 (a4.add 4) (Slc.v s117) w120 := ⟨hww120.symm⟩
              clear hww120 hs121 hf122
              refine c_nil ?_
              refine effQ.ok (v := undef) (H.weaken (L' := []) trivial) ⟨[(0, (.pointer (some a4))), (1, (.pointer (some a4))), (2, (.pointer (some a4))), (3, (.pointer (some (a4.add 4)))), (4, (Slc.v l109)), (5, (.pointer (some a4))), (6, (.pointer (some a4))), (7, (.pointer (some (a4.add 1)))), (8, (.int .i64 l111)), (9, (Slc.v (Slc.mk (some (blk b113)) 1 1))), (10, (Slc.v s117)), (11, (.pointer (some a4))), (12, (.pointer (some (a4.add 4)))), (13, undef)], ⟨rfl, rfl, rfl, rfl, rfl, rfl, rfl, rfl, rfl, rfl, rfl, rfl, rfl, rfl, trivial⟩, ?_⟩
              refine Stg.fin [] (by kernel_rfl) .nil ?_
              ·intro a H
               replace H := H.weaken (L' := []) trivial
               exact e_ret0 H rfl h
 clear hx165
 refine c_seq fun K154 hK154 => c_reg <| s_move H rfl rfl (lt_ rfl) fun a H => s_call H rfl body_61 (H.args (vs := [(.pointer NewRe25)]) rfl) (lt_ rfl) h ?_ (fun c w' h H => e_panic (P := PP) (fn := Tryd.f34) H h)
 clear H h a
 rintro _ w155 a ⟨Err156, rfl, h⟩ H
 refine c_nil <| hK154 _ _ <| c_block <| c_seq fun K157 hK157 => c_reg <| s_bin H rfl rfl rfl r_eql (lt_ rfl) fun a H => s_assign H rfl rfl (lt_ rfl) fun a H => c_nil <| hK157 _ _ <| c_cond H rfl (fun hb158 => ?_) (fun hb158 => ?_)
 ·replace h := h.1 hb158
  refine c_skip ?_
  exact hJ153 _ _ h (H.weaken ⟨rfl, rfl, rfl, rfl, trivial⟩)
 ·replace h := h.2 hb158
  refine c_seq fun K159 hK159 => c_reg <| s_bin H rfl rfl rfl r_eql (lt_ rfl) fun a H => s_assign H rfl rfl (lt_ rfl) fun a H => c_nil <| hK159 _ _ <| c_cond H rfl (fun hb160 => ?_) (fun hb160 => ?_)
  ·replace h := h.1 hb160
   refine c_reg <| s_iface H rfl rfl ni_29 (lt_ rfl) fun a H => ?_
   exact s_panic H rfl rfl (fun H => e_panic (P := PP) (fn := Tryd.f34) H h)
  ·replace h := h.2 hb160
   refine c_reg <| s_iface H rfl rfl ni_29 (lt_ rfl) fun a H => ?_
   exact s_panic H rfl rfl (fun H => e_panic (P := PP) (fn := Tryd.f34) H h)

set_option maxRecDepth 100000 in
set_option maxHeartbeats 4000000 in
theorem sim_sherdlaw11_equal (Kind1 : Int) (Key2 : ByteArray) (Count3 : Int) (Clien4 : Int) (Fin5 : Bool) (Has6 : Bool) (Data7 : Slc) (Kind8 : Int) (Key9 : ByteArray) (Count10 : Int) (Clien11 : Int) (Fin12 : Bool) (Has13 : Bool) (Data14 : Slc) (w : World) (Q : Ending → World → Prop) (h : vc_sherdlaw11_equal Kind1 Key2 Count3 Clien4 Fin5 Has6 Data7 Kind8 Key9 Count10 Clien11 Fin12 Has13 Data14 w Q) : Calls PP F_sherdlaw11_equal #[(.agg #[(.int .i64 Kind1), (.string Key2), (.int .i64 Count3), (.int .i64 Clien4), (.bool Fin5), (.bool Has6), (Slc.v Data7)]), (.agg #[(.int .i64 Kind8), (.string Key9), (.int .i64 Count10), (.int .i64 Clien11), (.bool Fin12), (.bool Has13), (Slc.v Data14)])] w Q := by
 unfold vc_sherdlaw11_equal at h
 refine enter (n := 53) (l := [(.agg #[(.int .i64 Kind1), (.string Key2), (.int .i64 Count3), (.int .i64 Clien4), (.bool Fin5), (.bool Has6), (Slc.v Data7)]), (.agg #[(.int .i64 Kind8), (.string Key9), (.int .i64 Count10), (.int .i64 Clien11), (.bool Fin12), (.bool Has13), (Slc.v Data14)])]) Tryd.func35 rfl rfl (Nat.le_of_ble_eq_true rfl) fun a H => ?_
 replace H : Has 53 [] a [(0, (.agg #[(.int .i64 Kind1), (.string Key2), (.int .i64 Count3), (.int .i64 Clien4), (.bool Fin5), (.bool Has6), (Slc.v Data7)])), (1, (.agg #[(.int .i64 Kind8), (.string Key9), (.int .i64 Count10), (.int .i64 Clien11), (.bool Fin12), (.bool Has13), (Slc.v Data14)]))] := H
 refine c_seq fun K15 hK15 => c_reg ?_
 replace h := h.get
 obtain ⟨b16, w17, nb18, h⟩ := h
 refine s_box H rfl rfl (lt_ rfl) ?_
 rw [← nb18.at_]
 clear H a
 intro a H
 refine nb18.go ?_
 replace h := h.get
 obtain ⟨b19, w20, nb21, h⟩ := h
 refine s_box H rfl rfl (lt_ rfl) ?_
 rw [← nb21.at_]
 clear H a
 intro a H
 refine nb21.go <| s_assign H rfl rfl (lt_ rfl) fun a H => c_nil <| hK15 _ _ <| c_seq fun K22 hK22 => c_reg <| s_fld H rfl rfl fld_45_0 (lt_ rfl) fun a H => s_load (v := (.int .i64 Kind1)) H rfl rfl one_3 (nb21.old (nb18.cell (i := 0) rfl)) (lt_ rfl) fun a H => s_fld H rfl rfl fld_45_0 (lt_ rfl) fun a H => s_load (v := (.int .i64 Kind8)) H rfl rfl one_3 (nb21.cell (i := 0) rfl) (lt_ rfl) fun a H => s_bin H rfl rfl rfl r_eql (lt_ rfl) fun a H => s_move H rfl rfl (lt_ rfl) fun a H => ?_
 refine g_join (n := 53) [(16, (.bool ((decide (Kind1 = Kind8)) && (decide (Key2.toList = Key9.toList))))), (2, (.pointer (some (blk b16)))), (3, (.pointer (some (blk b19))))] (.succ (.succ (.succ (.succ (.succ (.succ (.zero _))))))) ?_ ?_
 ·intro hr24
  try clear h
  rcases Bool.eq_false_or_eq_true (decide (Kind1 = Kind8)) with hg23 | hg23
  ·replace H := H.ch (t := 10) (b := true) rfl hg23
   refine s_fld H (wantG H rfl rfl) rfl fld_45_1 (lt_ rfl) fun a H => s_load (v := (.string Key2)) H (wantG H rfl rfl) rfl one_9 (nb21.old (nb18.cell (i := 1) rfl)) (lt_ rfl) fun a H => s_fld H (wantG H rfl rfl) rfl fld_45_1 (lt_ rfl) fun a H => s_load (v := (.string Key9)) H (wantG H rfl rfl) rfl one_9 (nb21.cell (i := 1) rfl) (lt_ rfl) fun a H => s_bin H (wantG H rfl rfl) rfl rfl r_eqlS (lt_ rfl) fun a H => s_pickT H rfl rfl rfl (lt_ rfl) fun a H => ?_
   exact hr24 _ (H.weaken ⟨by rw [hg23]; rfl, rfl, rfl, trivial⟩)
  ·replace H := H.ch (t := 10) (b := false) rfl hg23
   iterate 5 refine s_skip H (wantN H rfl rfl rfl) rfl (lt_ rfl) fun a H => ?_
   refine s_pickF H rfl rfl rfl (lt_ rfl) fun a H => ?_
   exact hr24 _ (H.weaken ⟨by rw [hg23]; rfl, rfl, rfl, trivial⟩)
 ·clear H a
  intro a H
  refine s_move H rfl rfl (lt_ rfl) fun a H => g_join (n := 53) [(25, (.bool (((decide (Kind1 = Kind8)) && (decide (Key2.toList = Key9.toList))) && (decide (Count3 = Count10) && (decide (Clien4 = Clien11)))))), (2, (.pointer (some (blk b16)))), (3, (.pointer (some (blk b19))))] (.succ (.succ (.succ (.succ (.succ (.succ (.succ (.succ (.zero _))))))))) ?_ ?_
  ·intro hr26
   try clear h
   rcases Bool.eq_false_or_eq_true ((decide (Kind1 = Kind8)) && (decide (Key2.toList = Key9.toList))) with hg25 | hg25
   ·replace H := H.ch (t := 17) (b := true) rfl hg25
    refine s_fld H (wantG H rfl rfl) rfl fld_45_2 (lt_ rfl) fun a H => s_fld H (wantG H rfl rfl) rfl fld_43_0 (lt_ rfl) fun a H => s_loadN (l := [(.int .i64 Count3), (.int .i64 Clien4)]) H (wantG H rfl rfl) rfl agg_41 rfl ⟨(nb21.old (nb18.cell (i := 2) rfl)), (nb21.old (nb18.cell (i := 3) rfl)), trivial⟩ (lt_ rfl) fun a H => s_fld H (wantG H rfl rfl) rfl fld_45_2 (lt_ rfl) fun a H => s_fld H (wantG H rfl rfl) rfl fld_43_0 (lt_ rfl) fun a H => ?_
    refine s_loadN (l := [(.int .i64 Count10), (.int .i64 Clien11)]) H (wantG H rfl rfl) rfl agg_41 rfl ⟨(nb21.cell (i := 2) rfl), (nb21.cell (i := 3) rfl), trivial⟩ (lt_ rfl) fun a H => s_bin H (wantG H rfl rfl) rfl rfl (r_eqst eqg_41 (eqst_41 0) rfl) (lt_ rfl) fun a H => s_pickT H rfl rfl rfl (lt_ rfl) fun a H => ?_
    exact hr26 _ (H.weaken ⟨by rw [hg25]; rfl, rfl, rfl, trivial⟩)
   ·replace H := H.ch (t := 17) (b := false) rfl hg25
    iterate 7 refine s_skip H (wantN H rfl rfl rfl) rfl (lt_ rfl) fun a H => ?_
    refine s_pickF H rfl rfl rfl (lt_ rfl) fun a H => ?_
    exact hr26 _ (H.weaken ⟨by rw [hg25]; rfl, rfl, rfl, trivial⟩)
  ·clear H a
   intro a H
   refine s_move H rfl rfl (lt_ rfl) fun a H => g_join (n := 53) [(34, (.bool ((((decide (Kind1 = Kind8)) && (decide (Key2.toList = Key9.toList))) && (decide (Count3 = Count10) && (decide (Clien4 = Clien11)))) && (decide (Fin5 = Fin12))))), (2, (.pointer (some (blk b16)))), (3, (.pointer (some (blk b19))))] (.succ (.succ (.succ (.succ (.succ (.succ (.succ (.succ (.zero _))))))))) ?_ ?_
   ·intro hr28
    try clear h
    rcases Bool.eq_false_or_eq_true (((decide (Kind1 = Kind8)) && (decide (Key2.toList = Key9.toList))) && (decide (Count3 = Count10) && (decide (Clien4 = Clien11)))) with hg27 | hg27
    ·replace H := H.ch (t := 26) (b := true) rfl hg27
     refine s_fld H (wantG H rfl rfl) rfl fld_45_2 (lt_ rfl) fun a H => s_fld H (wantG H rfl rfl) rfl fld_43_1 (lt_ rfl) fun a H => s_load (v := (.bool Fin5)) H (wantG H rfl rfl) rfl one_4 (nb21.old (nb18.cell (i := 4) rfl)) (lt_ rfl) fun a H => s_fld H (wantG H rfl rfl) rfl fld_45_2 (lt_ rfl) fun a H => s_fld H (wantG H rfl rfl) rfl fld_43_1 (lt_ rfl) fun a H => s_load (v := (.bool Fin12)) H (wantG H rfl rfl) rfl one_4 (nb21.cell (i := 4) rfl) (lt_ rfl) fun a H => ?_
     refine s_bin H (wantG H rfl rfl) rfl rfl (r_eqB bool_4) (lt_ rfl) fun a H => s_pickT H rfl rfl rfl (lt_ rfl) fun a H => ?_
     exact hr28 _ (H.weaken ⟨by rw [hg27]; rfl, rfl, rfl, trivial⟩)
    ·replace H := H.ch (t := 26) (b := false) rfl hg27
     iterate 7 refine s_skip H (wantN H rfl rfl rfl) rfl (lt_ rfl) fun a H => ?_
     refine s_pickF H rfl rfl rfl (lt_ rfl) fun a H => ?_
     exact hr28 _ (H.weaken ⟨by rw [hg27]; rfl, rfl, rfl, trivial⟩)
   ·clear H a
    intro a H
    refine s_move H rfl rfl (lt_ rfl) fun a H => g_join (n := 53) [(43, (.bool (((((decide (Kind1 = Kind8)) && (decide (Key2.toList = Key9.toList))) && (decide (Count3 = Count10) && (decide (Clien4 = Clien11)))) && (decide (Fin5 = Fin12))) && (decide (Has6 = Has13))))), (2, (.pointer (some (blk b16)))), (3, (.pointer (some (blk b19))))] (.succ (.succ (.succ (.succ (.succ (.succ (.succ (.succ (.zero _))))))))) ?_ ?_
    ·intro hr30
     try clear h
     rcases Bool.eq_false_or_eq_true ((((decide (Kind1 = Kind8)) && (decide (Key2.toList = Key9.toList))) && (decide (Count3 = Count10) && (decide (Clien4 = Clien11)))) && (decide (Fin5 = Fin12))) with hg29 | hg29
     ·replace H := H.ch (t := 35) (b := true) rfl hg29
      refine s_fld H (wantG H rfl rfl) rfl fld_45_2 (lt_ rfl) fun a H => s_fld H (wantG H rfl rfl) rfl fld_43_2 (lt_ rfl) fun a H => s_load (v := (.bool Has6)) H (wantG H rfl rfl) rfl one_4 (nb21.old (nb18.cell (i := 5) rfl)) (lt_ rfl) fun a H => s_fld H (wantG H rfl rfl) rfl fld_45_2 (lt_ rfl) fun a H => s_fld H (wantG H rfl rfl) rfl fld_43_2 (lt_ rfl) fun a H => s_load (v := (.bool Has13)) H (wantG H rfl rfl) rfl one_4 (nb21.cell (i := 5) rfl) (lt_ rfl) fun a H => ?_
      refine s_bin H (wantG H rfl rfl) rfl rfl (r_eqB bool_4) (lt_ rfl) fun a H => s_pickT H rfl rfl rfl (lt_ rfl) fun a H => ?_
      exact hr30 _ (H.weaken ⟨by rw [hg29]; rfl, rfl, rfl, trivial⟩)
     ·replace H := H.ch (t := 35) (b := false) rfl hg29
      iterate 7 refine s_skip H (wantN H rfl rfl rfl) rfl (lt_ rfl) fun a H => ?_
      refine s_pickF H rfl rfl rfl (lt_ rfl) fun a H => ?_
      exact hr30 _ (H.weaken ⟨by rw [hg29]; rfl, rfl, rfl, trivial⟩)
    ·clear H a
     intro a H
     refine s_move H rfl rfl (lt_ rfl) fun a H => ?_
     obtain ⟨R33, h, hx42⟩ := h
     refine g_joinW (n := 53) R33 (fun x34 => [(52, (.bool x34))]) (.succ (.succ (.succ (.succ (.succ (.succ (.succ (.succ (.zero _))))))))) ?_ ?_
     ·intro hr32
      clear hx42
      rcases Bool.eq_false_or_eq_true (((((decide (Kind1 = Kind8)) && (decide (Key2.toList = Key9.toList))) && (decide (Count3 = Count10) && (decide (Clien4 = Clien11)))) && (decide (Fin5 = Fin12))) && (decide (Has6 = Has13))) with hg31 | hg31
      ·replace H := H.ch (t := 44) (b := true) rfl hg31
       replace h := h.1 hg31
       refine s_fld H (wantG H rfl rfl) rfl fld_45_2 (lt_ rfl) fun a H => s_fld H (wantG H rfl rfl) rfl fld_43_3 (lt_ rfl) fun a H => s_load (v := (Slc.v Data7)) H (wantG H rfl rfl) rfl one_28 (nb21.old (nb18.cell (i := 6) rfl)) (lt_ rfl) fun a H => s_fld H (wantG H rfl rfl) rfl fld_45_2 (lt_ rfl) fun a H => s_fld H (wantG H rfl rfl) rfl fld_43_3 (lt_ rfl) fun a H => s_load (v := (Slc.v Data14)) H (wantG H rfl rfl) rfl one_28 (nb21.cell (i := 6) rfl) (lt_ rfl) fun a H => ?_
       refine s_call H (wantG H rfl rfl) body_10 (H.args (vs := [(Slc.v Data7), (Slc.v Data14)]) rfl) (lt_ rfl) h ?_ (fun c w' h H => e_panic (P := PP) (fn := Tryd.f35) H h)
       clear H h a
       rintro _ w36 a ⟨same37, rfl, h⟩ H
       refine s_pickT H rfl rfl rfl (lt_ rfl) fun a H => ?_
       exact hr32 _ _ _ h (H.weaken ⟨rfl, trivial⟩)
      ·replace H := H.ch (t := 44) (b := false) rfl hg31
       replace h := h.2 hg31
       iterate 7 refine s_skip H (wantN H rfl rfl rfl) rfl (lt_ rfl) fun a H => ?_
       refine s_pickF H rfl rfl rfl (lt_ rfl) fun a H => ?_
       exact hr32 _ _ _ h (H.weaken ⟨rfl, trivial⟩)
     ·clear H a h
      intro a x34 w35 h H
      replace h := hx42 x34 w35 h
      clear hx42
      refine s_assign H rfl rfl (lt_ rfl) fun a H => c_nil <| hK22 _ _ <| c_ret ?_
      exact e_ret1 H rfl rfl h

set_option maxRecDepth 100000 in
set_option maxHeartbeats 4000000 in
theorem sim_record_may (Kind1 : Int) (Key2 : ByteArray) (Count3 : Int) (Clien4 : Int) (Fin5 : Bool) (Has6 : Bool) (Data7 : Slc) (w : World) (Q : Ending → World → Prop) (h : vc_record_may Kind1 Key2 Count3 Clien4 Fin5 Has6 Data7 w Q) : Calls PP F_record_may #[(.agg #[(.int .i64 Kind1), (.string Key2), (.int .i64 Count3), (.int .i64 Clien4), (.bool Fin5), (.bool Has6), (Slc.v Data7)])] w Q := by
 unfold vc_record_may at h
 refine enter (n := 74) (l := [(.agg #[(.int .i64 Kind1), (.string Key2), (.int .i64 Count3), (.int .i64 Clien4), (.bool Fin5), (.bool Has6), (Slc.v Data7)])]) Tryd.func36 rfl rfl (Nat.le_of_ble_eq_true rfl) fun a H => ?_
 replace H : Has 74 [] a [(0, (.agg #[(.int .i64 Kind1), (.string Key2), (.int .i64 Count3), (.int .i64 Clien4), (.bool Fin5), (.bool Has6), (Slc.v Data7)]))] := H
 refine c_seq fun K8 hK8 => c_reg ?_
 replace h := h.get
 obtain ⟨b9, w10, nb11, h⟩ := h
 refine s_box H rfl rfl (lt_ rfl) ?_
 rw [← nb11.at_]
 clear H a
 intro a H
 refine nb11.go <| s_assign H rfl rfl (lt_ rfl) fun a H => c_nil <| hK8 _ _ <| c_seq fun K12 hK12 => c_reg <| s_fld H rfl rfl fld_45_0 (lt_ rfl) fun a H => s_load (v := (.int .i64 Kind1)) H rfl rfl one_3 (nb11.cell (i := 0) rfl) (lt_ rfl) fun a H => s_bin H rfl rfl rfl r_eql (lt_ rfl) fun a H => s_move H rfl rfl (lt_ rfl) fun a H => ?_
 refine g_join (n := 74) [(16, (.bool ((decide (Kind1 = 1)) || ((decide (Kind1 = 3)) && Has6)))), (1, (.pointer (some (blk b9))))] (.succ (.succ (.succ (.succ (.succ (.succ (.succ (.succ (.succ (.zero _)))))))))) ?_ ?_
 ·intro hr14
  try clear h
  rcases Bool.eq_false_or_eq_true (decide (Kind1 = 1)) with hg13 | hg13
  ·replace H := H.ch (t := 7) (b := true) rfl hg13
   iterate 4 refine s_skip H (wantN H rfl rfl rfl) rfl (lt_ rfl) fun a H => ?_
   iterate 3 refine s_skip H (wantU H rfl rfl) rfl (lt_ rfl) fun a H => ?_
   refine s_skip H (wantN H rfl rfl rfl) rfl (lt_ rfl) fun a H => s_pickT H rfl rfl rfl (lt_ rfl) fun a H => ?_
   exact hr14 _ (H.weaken ⟨by rw [hg13]; rfl, rfl, trivial⟩)
  ·replace H := H.ch (t := 7) (b := false) rfl hg13
   refine s_fld H (wantG H rfl rfl) rfl fld_45_0 (lt_ rfl) fun a H => s_load (v := (.int .i64 Kind1)) H (wantG H rfl rfl) rfl one_3 (nb11.cell (i := 0) rfl) (lt_ rfl) fun a H => s_bin H (wantG H rfl rfl) rfl rfl r_eql (lt_ rfl) fun a H => s_move H (wantG H rfl rfl) rfl (lt_ rfl) fun a H => g_join (n := 74) [(15, (.bool ((decide (Kind1 = 3)) && Has6))), (1, (.pointer (some (blk b9)))), (7, (.bool false))] (.succ (.succ (.succ (.succ (.zero _))))) ?_ ?_
   ·intro hr16
    try clear h
    rcases Bool.eq_false_or_eq_true (decide (Kind1 = 3)) with hg15 | hg15
    ·replace H := H.ch (t := 11) (b := true) rfl hg15
     refine s_fld H (wantG H rfl rfl) rfl fld_45_2 (lt_ rfl) fun a H => s_fld H (wantG H rfl rfl) rfl fld_43_2 (lt_ rfl) fun a H => s_load (v := (.bool Has6)) H (wantG H rfl rfl) rfl one_4 (nb11.cell (i := 5) rfl) (lt_ rfl) fun a H => s_pickT H (wantG H rfl rfl) rfl rfl (lt_ rfl) fun a H => ?_
     exact hr16 _ (H.weaken ⟨by rw [hg15]; rfl, rfl, rfl, trivial⟩)
    ·replace H := H.ch (t := 11) (b := false) rfl hg15
     iterate 3 refine s_skip H (wantN H rfl rfl rfl) rfl (lt_ rfl) fun a H => ?_
     refine s_pickF H (wantG H rfl rfl) rfl rfl (lt_ rfl) fun a H => ?_
     exact hr16 _ (H.weaken ⟨by rw [hg15]; rfl, rfl, rfl, trivial⟩)
   ·clear H a
    intro a H
    refine s_pickF H rfl rfl rfl (lt_ rfl) fun a H => ?_
    exact hr14 _ (H.weaken ⟨by rw [hg13]; rfl, rfl, trivial⟩)
 ·clear H a
  intro a H
  refine s_assign H rfl rfl (lt_ rfl) fun a H => c_nil <| hK12 _ _ <| c_seq fun K17 hK17 => c_block <| c_seq fun K18 hK18 => c_reg <| s_fld H rfl rfl fld_45_0 (lt_ rfl) fun a H => s_load (v := (.int .i64 Kind1)) H rfl rfl one_3 (nb11.cell (i := 0) rfl) (lt_ rfl) fun a H => s_bin H rfl rfl rfl r_lss (lt_ rfl) fun a H => s_move H rfl rfl (lt_ rfl) fun a H => ?_
  refine g_join (n := 74) [(25, (.bool ((decide (Kind1 < 1)) || (decide (3 < Kind1))))), (1, (.pointer (some (blk b9)))), (3, (.bool ((decide (Kind1 = 1)) || ((decide (Kind1 = 3)) && Has6))))] (.succ (.succ (.succ (.succ (.zero _))))) ?_ ?_
  ·intro hr20
   try clear h
   rcases Bool.eq_false_or_eq_true (decide (Kind1 < 1)) with hg19 | hg19
   ·replace H := H.ch (t := 21) (b := true) rfl hg19
    iterate 3 refine s_skip H (wantN H rfl rfl rfl) rfl (lt_ rfl) fun a H => ?_
    refine s_pickT H rfl rfl rfl (lt_ rfl) fun a H => ?_
    exact hr20 _ (H.weaken ⟨by rw [hg19]; rfl, rfl, rfl, trivial⟩)
   ·replace H := H.ch (t := 21) (b := false) rfl hg19
    refine s_fld H (wantG H rfl rfl) rfl fld_45_0 (lt_ rfl) fun a H => s_load (v := (.int .i64 Kind1)) H (wantG H rfl rfl) rfl one_3 (nb11.cell (i := 0) rfl) (lt_ rfl) fun a H => s_bin H (wantG H rfl rfl) rfl rfl r_gtr (lt_ rfl) fun a H => s_pickF H rfl rfl rfl (lt_ rfl) fun a H => ?_
    exact hr20 _ (H.weaken ⟨by rw [hg19]; rfl, rfl, rfl, trivial⟩)
  ·clear H a
   intro a H
   refine s_assign H rfl rfl (lt_ rfl) fun a H => c_nil <| hK18 _ _ <| c_cond H rfl (fun hb21 => ?_) (fun hb21 => ?_)
   ·replace h := h.1 hb21
    refine c_seq fun K22 hK22 => c_reg <| s_assign H rfl rfl (lt_ rfl) fun a H => c_nil <| hK22 _ _ <| c_ret ?_
    exact e_ret1 H rfl rfl h
   ·replace h := h.2 hb21
    refine c_seq fun K23 hK23 => c_reg <| s_fld H rfl rfl fld_45_1 (lt_ rfl) fun a H => s_load (v := (.string Key2)) H rfl rfl one_9 (nb11.cell (i := 1) rfl) (lt_ rfl) fun a H => s_blt H rfl (H.args (vs := [(.string Key2)]) rfl) (lt_ rfl) (fun cs => b_lenT str_9) fun a H => s_bin H rfl rfl rfl r_lss (lt_ rfl) fun a H => s_move H rfl rfl (lt_ rfl) fun a H => ?_
    refine g_join (n := 74) [(36, (.bool ((decide ((Key2.size : Int) < 1)) || (decide (64 < (Key2.size : Int)))))), (1, (.pointer (some (blk b9)))), (3, (.bool ((decide (Kind1 = 1)) || ((decide (Kind1 = 3)) && Has6))))] (.succ (.succ (.succ (.succ (.succ (.zero _)))))) ?_ ?_
    ·intro hr25
     try clear h
     rcases Bool.eq_false_or_eq_true (decide ((Key2.size : Int) < 1)) with hg24 | hg24
     ·replace H := H.ch (t := 31) (b := true) rfl hg24
      iterate 4 refine s_skip H (wantN H rfl rfl rfl) rfl (lt_ rfl) fun a H => ?_
      refine s_pickT H rfl rfl rfl (lt_ rfl) fun a H => ?_
      exact hr25 _ (H.weaken ⟨by rw [hg24]; rfl, rfl, rfl, trivial⟩)
     ·replace H := H.ch (t := 31) (b := false) rfl hg24
      refine s_fld H (wantG H rfl rfl) rfl fld_45_1 (lt_ rfl) fun a H => s_load (v := (.string Key2)) H (wantG H rfl rfl) rfl one_9 (nb11.cell (i := 1) rfl) (lt_ rfl) fun a H => s_blt H (wantG H rfl rfl) (H.args (vs := [(.string Key2)]) rfl) (lt_ rfl) (fun cs => b_lenT str_9) fun a H => s_bin H (wantG H rfl rfl) rfl rfl r_gtr (lt_ rfl) fun a H => s_pickF H rfl rfl rfl (lt_ rfl) fun a H => ?_
      exact hr25 _ (H.weaken ⟨by rw [hg24]; rfl, rfl, rfl, trivial⟩)
    ·clear H a
     intro a H
     refine s_assign H rfl rfl (lt_ rfl) fun a H => c_nil <| hK23 _ _ <| c_cond H rfl (fun hb26 => ?_) (fun hb26 => ?_)
     ·replace h := h.1 hb26
      refine c_seq fun K27 hK27 => c_reg <| s_assign H rfl rfl (lt_ rfl) fun a H => c_nil <| hK27 _ _ <| c_ret ?_
      exact e_ret1 H rfl rfl h
     ·replace h := h.2 hb26
      refine c_seq fun K28 hK28 => c_reg <| s_fld H rfl rfl fld_45_2 (lt_ rfl) fun a H => s_fld H rfl rfl fld_43_0 (lt_ rfl) fun a H => s_loadN (l := [(.int .i64 Count3), (.int .i64 Clien4)]) H rfl rfl agg_41 rfl ⟨(nb11.cell (i := 2) rfl), (nb11.cell (i := 3) rfl), trivial⟩ (lt_ rfl) fun a H => s_call H rfl body_65 (H.args (vs := [(.agg #[(.int .i64 Count3), (.int .i64 Clien4)])]) rfl) (lt_ rfl) h ?_ (fun c w' h H => e_panic (P := PP) (fn := Tryd.f36) H h)
      clear H h a
      rintro _ w29 a ⟨Zero30, rfl, h⟩ H
      refine s_move H rfl rfl (lt_ rfl) fun a H => ?_
      obtain ⟨R33, h, hx78⟩ := h
      refine g_joinW (n := 74) R33 (fun x34 => [(48, (.bool x34)), (1, (.pointer (some (blk b9)))), (3, (.bool ((decide (Kind1 = 1)) || ((decide (Kind1 = 3)) && Has6))))]) (.succ (.succ (.succ (.succ (.succ (.succ (.zero _))))))) ?_ ?_
      ·intro hr32
       clear hx78
       rcases Bool.eq_false_or_eq_true Zero30 with hg31 | hg31
       ·replace H := H.ch (t := 42) (b := true) rfl hg31
        replace h := h.2 hg31
        iterate 5 refine s_skip H (wantN H rfl rfl rfl) rfl (lt_ rfl) fun a H => ?_
        refine s_pickT H rfl rfl rfl (lt_ rfl) fun a H => ?_
        exact hr32 _ _ _ h (H.weaken ⟨rfl, rfl, rfl, trivial⟩)
       ·replace H := H.ch (t := 42) (b := false) rfl hg31
        replace h := h.1 hg31
        refine s_fld H (wantG H rfl rfl) rfl fld_45_2 (lt_ rfl) fun a H => s_fld H (wantG H rfl rfl) rfl fld_43_0 (lt_ rfl) fun a H => ?_
        obtain ⟨Count36, hc37, h⟩ := h
        obtain ⟨Clien38, hc39, h⟩ := h
        refine s_loadN (l := [(.int .i64 Count36), (.int .i64 Clien38)]) H (wantG H rfl rfl) rfl agg_41 rfl ⟨hc37, hc39, trivial⟩ (lt_ rfl) fun a H => s_call H (wantG H rfl rfl) body_66 (H.args (vs := [(.agg #[(.int .i64 Count36), (.int .i64 Clien38)])]) rfl) (lt_ rfl) h ?_ (fun c w' h H => e_panic (P := PP) (fn := Tryd.f36) H h)
        clear H h a
        rintro _ w40 a ⟨Valid41, rfl, h⟩ H
        refine s_un H (wantG H rfl rfl) rfl r_not (lt_ rfl) fun a H => s_pickF H rfl rfl rfl (lt_ rfl) fun a H => ?_
        exact hr32 _ _ _ h (H.weaken ⟨rfl, rfl, rfl, trivial⟩)
      ·clear H a h
       intro a x34 w35 h H
       replace h := hx78 x34 w35 h
       clear hx78
       refine s_assign H rfl rfl (lt_ rfl) fun a H => c_nil <| hK28 _ _ <| c_cond H rfl (fun hb46 => ?_) (fun hb46 => ?_)
       ·replace h := h.1 hb46
        refine c_seq fun K47 hK47 => c_reg <| s_assign H rfl rfl (lt_ rfl) fun a H => c_nil <| hK47 _ _ <| c_ret ?_
        exact e_ret1 H rfl rfl h
       ·replace h := h.2 hb46
        refine c_seq fun K48 hK48 => c_reg <| s_fld H rfl rfl fld_45_0 (lt_ rfl) fun a H => ?_
        obtain ⟨l49, hc50, h⟩ := h
        refine s_load (v := (.int .i64 l49)) H rfl rfl one_3 hc50 (lt_ rfl) fun a H => s_bin H rfl rfl rfl r_eql (lt_ rfl) fun a H => s_move H rfl rfl (lt_ rfl) fun a H => ?_
        obtain ⟨x55, hy56, hn57, h⟩ := h
        refine g_join (n := 74) [(58, (.bool x55)), (1, (.pointer (some (blk b9)))), (3, (.bool ((decide (Kind1 = 1)) || ((decide (Kind1 = 3)) && Has6))))] (.succ (.succ (.succ (.succ (.succ (.zero _)))))) ?_ ?_
        ·intro hr52
         try clear h
         rcases Bool.eq_false_or_eq_true (decide (l49 = 3)) with hg51 | hg51
         ·replace H := H.ch (t := 53) (b := true) rfl hg51
          replace h := hy56 hg51
          refine s_fld H (wantG H rfl rfl) rfl fld_45_2 (lt_ rfl) fun a H => s_fld H (wantG H rfl rfl) rfl fld_43_1 (lt_ rfl) fun a H => ?_
          obtain ⟨l53, hc54, h⟩ := h
          refine s_load (v := (.bool l53)) H (wantG H rfl rfl) rfl one_4 hc54 (lt_ rfl) fun a H => s_un H (wantG H rfl rfl) rfl r_not (lt_ rfl) fun a H => s_pickT H rfl rfl rfl (lt_ rfl) fun a H => ?_
          subst h
          exact hr52 _ (H.weaken ⟨rfl, rfl, rfl, trivial⟩)
         ·replace H := H.ch (t := 53) (b := false) rfl hg51
          iterate 4 refine s_skip H (wantN H rfl rfl rfl) rfl (lt_ rfl) fun a H => ?_
          refine s_pickF H rfl rfl rfl (lt_ rfl) fun a H => ?_
          replace h := hn57 hg51
          subst h
          exact hr52 _ (H.weaken ⟨rfl, rfl, rfl, trivial⟩)
        ·clear H a
         clear hy56 hn57
         intro a H
         refine s_move H rfl rfl (lt_ rfl) fun a H => ?_
         obtain ⟨x62, hy63, hn64, h⟩ := h
         refine g_join (n := 74) [(64, (.bool x62)), (1, (.pointer (some (blk b9)))), (3, (.bool ((decide (Kind1 = 1)) || ((decide (Kind1 = 3)) && Has6))))] (.succ (.succ (.succ (.succ (.succ (.zero _)))))) ?_ ?_
         ·intro hr59
          try clear h
          rcases Bool.eq_false_or_eq_true x55 with hg58 | hg58
          ·replace H := H.ch (t := 59) (b := true) rfl hg58
           replace h := hy63 hg58
           refine s_fld H (wantG H rfl rfl) rfl fld_45_2 (lt_ rfl) fun a H => s_fld H (wantG H rfl rfl) rfl fld_43_2 (lt_ rfl) fun a H => ?_
           obtain ⟨l60, hc61, h⟩ := h
           refine s_load (v := (.bool l60)) H (wantG H rfl rfl) rfl one_4 hc61 (lt_ rfl) fun a H => s_un H (wantG H rfl rfl) rfl r_not (lt_ rfl) fun a H => s_pickT H rfl rfl rfl (lt_ rfl) fun a H => ?_
           subst h
           exact hr59 _ (H.weaken ⟨rfl, rfl, rfl, trivial⟩)
          ·replace H := H.ch (t := 59) (b := false) rfl hg58
           iterate 4 refine s_skip H (wantN H rfl rfl rfl) rfl (lt_ rfl) fun a H => ?_
           refine s_pickF H rfl rfl rfl (lt_ rfl) fun a H => ?_
           replace h := hn64 hg58
           subst h
           exact hr59 _ (H.weaken ⟨rfl, rfl, rfl, trivial⟩)
         ·clear H a
          clear hy63 hn64
          intro a H
          refine s_assign H rfl rfl (lt_ rfl) fun a H => c_nil <| hK48 _ _ <| c_cond H rfl (fun hb65 => ?_) (fun hb65 => ?_)
          ·replace h := h.1 hb65
           refine c_seq fun K66 hK66 => c_reg <| s_assign H rfl rfl (lt_ rfl) fun a H => c_nil <| hK66 _ _ <| c_ret ?_
           exact e_ret1 H rfl rfl h
          ·replace h := h.2 hb65
           refine c_seq fun K67 hK67 => c_reg <| s_move H rfl rfl (lt_ rfl) fun a H => s_move H rfl rfl (lt_ rfl) fun a H => ?_
           obtain ⟨x72, hy73, hn74, h⟩ := h
           refine g_join (n := 74) [(73, (.bool x72))] (.succ (.succ (.succ (.succ (.succ (.succ (.zero _))))))) ?_ ?_
           ·intro hr69
            try clear h
            rcases Bool.eq_false_or_eq_true ((decide (Kind1 = 1)) || ((decide (Kind1 = 3)) && Has6)) with hg68 | hg68
            ·replace H := H.ch (t := 67) (b := true) rfl hg68
             replace h := hy73 hg68
             refine s_fld H (wantG H rfl rfl) rfl fld_45_2 (lt_ rfl) fun a H => s_fld H (wantG H rfl rfl) rfl fld_43_3 (lt_ rfl) fun a H => ?_
             obtain ⟨l70, hc71, h⟩ := h
             refine s_load (v := (Slc.v l70)) H (wantG H rfl rfl) rfl one_28 hc71 (lt_ rfl) fun a H => s_blt H (wantG H rfl rfl) (H.args (vs := [(Slc.v l70)]) rfl) (lt_ rfl) (fun cs => b_lenS (z := l70) sl_28) fun a H => s_bin H (wantG H rfl rfl) rfl rfl r_gtr (lt_ rfl) fun a H => s_pickT H rfl rfl rfl (lt_ rfl) fun a H => ?_
             subst h
             exact hr69 _ (H.weaken ⟨rfl, trivial⟩)
            ·replace H := H.ch (t := 67) (b := false) rfl hg68
             iterate 5 refine s_skip H (wantN H rfl rfl rfl) rfl (lt_ rfl) fun a H => ?_
             refine s_pickF H rfl rfl rfl (lt_ rfl) fun a H => ?_
             replace h := hn74 hg68
             subst h
             exact hr69 _ (H.weaken ⟨rfl, trivial⟩)
           ·clear H a
            clear hy73 hn74
            intro a H
            refine s_assign H rfl rfl (lt_ rfl) fun a H => c_nil <| hK67 _ _ <| c_cond H rfl (fun hb75 => ?_) (fun hb75 => ?_)
            ·replace h := h.1 hb75
             refine c_seq fun K76 hK76 => c_reg <| s_assign H rfl rfl (lt_ rfl) fun a H => c_nil <| hK76 _ _ <| c_ret ?_
             exact e_ret1 H rfl rfl h
            ·replace h := h.2 hb75
             refine c_skip <| hK17 _ _ <| c_seq fun K77 hK77 => c_reg <| s_assign H rfl rfl (lt_ rfl) fun a H => c_nil <| hK77 _ _ <| c_ret ?_
             exact e_ret1 H rfl rfl h

set_option maxRecDepth 100000 in
set_option maxHeartbeats 4000000 in
theorem sim_pack_NewWriter (w : World) (Q : Ending → World → Prop) (h : vc_pack_NewWriter w Q) : Calls PP F_pack_NewWriter #[] w Q := by
 unfold vc_pack_NewWriter at h
 refine enter (n := 3) (l := []) Tryd.func37 rfl rfl (Nat.le_of_ble_eq_true rfl) fun a H => ?_
 replace H : Has 3 [] a [] := H
 refine c_seq fun K1 hK1 => c_reg <| s_assign H rfl rfl (lt_ rfl) fun a H => c_nil <| hK1 _ _ <| c_seq fun K2 hK2 => c_reg <| s_build H rfl (by rw [H.parts (vs := []) rfl]; exact bd_109 w) (lt_ rfl) fun a H => ?_
 replace h := h.get
 obtain ⟨b3, w4, nb5, h⟩ := h
 refine s_box H rfl rfl (lt_ rfl) ?_
 rw [← nb5.at_]
 clear H a
 intro a H
 refine nb5.go <| s_assign H rfl rfl (lt_ rfl) fun a H => c_nil <| hK2 _ _ <| c_ret ?_
 exact e_ret1 H rfl rfl h

set_option maxRecDepth 100000 in
set_option maxHeartbeats 4000000 in
theorem sim_pack_Writer_Byte (w1 : Option Addr) (b2 : Int) (w : World) (Q : Ending → World → Prop) (h : vc_pack_Writer_Byte w1 b2 w Q) : Calls PP F_pack_Writer_Byte #[(.pointer w1), (.int .u8 b2)] w Q := by
 unfold vc_pack_Writer_Byte at h
 refine enter (n := 8) (l := [(.pointer w1), (.int .u8 b2)]) Tryd.func38 rfl rfl (Nat.le_of_ble_eq_true rfl) fun a H => ?_
 replace H : Has 8 [] a [(0, (.pointer w1)), (1, (.int .u8 b2))] := H
 refine c_reg <| s_move H rfl rfl (lt_ rfl) fun a H => s_move H rfl rfl (lt_ rfl) fun a H => ?_
 replace h := h.get
 obtain ⟨b3, w4, nb5, h⟩ := h
 refine s_bslc H rfl (by rw [H.parts (vs := [(0, (.int .u8 b2))]) rfl]; exact bs_28_1_iu80 w b2) (lt_ rfl) ?_
 rw [← nb5.at_]
 clear H a
 intro a H
 refine nb5.go <| s_call H rfl body_67 (H.args (vs := [(.pointer w1), (Slc.v (Slc.mk (some (blk b3)) 1 1))]) rfl) (lt_ rfl) h ?_ (fun c w' h H => e_panic (P := PP) (fn := Tryd.f38) H h)
 clear H h a
 rintro _ w6 a ⟨rfl, h⟩ H
 refine c_nil ?_
 exact e_ret0 H rfl h

set_option maxRecDepth 100000 in
set_option maxHeartbeats 4000000 in
theorem sim_pack_Writer_Bytes (w1 : Option Addr) (b2 : Slc) (w : World) (Q : Ending → World → Prop) (h : vc_pack_Writer_Bytes w1 b2 w Q) : Calls PP F_pack_Writer_Bytes #[(.pointer w1), (Slc.v b2)] w Q := by
 unfold vc_pack_Writer_Bytes at h
 refine enter (n := 11) (l := [(.pointer w1), (Slc.v b2)]) Tryd.func39 rfl rfl (Nat.le_of_ble_eq_true rfl) fun a H => ?_
 replace H : Has 11 [] a [(0, (.pointer w1)), (1, (Slc.v b2))] := H
 refine c_seq fun K3 hK3 => c_reg <| s_move H rfl rfl (lt_ rfl) fun a H => s_move H rfl rfl (lt_ rfl) fun a H => s_blt H rfl (H.args (vs := [(Slc.v b2)]) rfl) (lt_ rfl) (fun cs => b_lenS (z := b2) sl_28) fun a H => s_call H rfl body_52 (H.args (vs := [(.pointer w1), (.int .i64 (b2.l : Int))]) rfl) (lt_ rfl) h ?_ (fun c w' h H => e_panic (P := PP) (fn := Tryd.f39) H h)
 clear H h a
 rintro _ w4 a ⟨rfl, h⟩ H
 refine c_nil <| hK3 _ _ <| c_reg <| s_move H rfl rfl (lt_ rfl) fun a H => s_move H rfl rfl (lt_ rfl) fun a H => s_call H rfl body_67 (H.args (vs := [(.pointer w1), (Slc.v b2)]) rfl) (lt_ rfl) h ?_ (fun c w' h H => e_panic (P := PP) (fn := Tryd.f39) H h)
 clear H h a
 rintro _ w5 a ⟨rfl, h⟩ H
 refine c_nil ?_
 exact e_ret0 H rfl h
end Go.Proofs.YtnhgnfflihoaiaaDoor
