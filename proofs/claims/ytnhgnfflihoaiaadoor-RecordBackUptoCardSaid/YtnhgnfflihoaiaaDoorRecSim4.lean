/-
  The conditions give the machine's calls; printed by vcgen.py.
-/
import Derived.Test.YtnhgnfflihoaiaaDoorRecVc
namespace Go.Proofs.YtnhgnfflihoaiaaDoor
open Go Go.Vc
set_option maxRecDepth 100000 in
set_option maxHeartbeats 4000000 in
theorem sim_record_body (Kind1 : Int) (Key2 : ByteArray) (Count3 : Int) (Clien4 : Int) (Fin5 : Bool) (Has6 : Bool) (Data7 : Slc) (w : World) (Q : Ending → World → Prop) (h : vc_record_body Kind1 Key2 Count3 Clien4 Fin5 Has6 Data7 w Q) : Calls PP F_record_body #[(.agg #[(.int .i64 Kind1), (.string Key2), (.int .i64 Count3), (.int .i64 Clien4), (.bool Fin5), (.bool Has6), (Slc.v Data7)])] w Q := by
 unfold vc_record_body at h
 refine enter (n := 54) (l := [(.agg #[(.int .i64 Kind1), (.string Key2), (.int .i64 Count3), (.int .i64 Clien4), (.bool Fin5), (.bool Has6), (Slc.v Data7)])]) Tryd.func40 rfl rfl (Nat.le_of_ble_eq_true rfl) fun a H => ?_
 replace H : Has 54 [] a [(0, (.agg #[(.int .i64 Kind1), (.string Key2), (.int .i64 Count3), (.int .i64 Clien4), (.bool Fin5), (.bool Has6), (Slc.v Data7)]))] := H
 refine c_seq fun K8 hK8 => c_reg ?_
 replace h := h.get
 obtain ⟨b9, w10, nb11, h⟩ := h
 refine s_box H rfl rfl (lt_ rfl) ?_
 rw [← nb11.at_]
 clear H a
 intro a H
 refine nb11.go <| s_assign H rfl rfl (lt_ rfl) fun a H => c_nil <| hK8 _ _ <| c_seq fun K12 hK12 => c_reg <| s_call H rfl body_37 (H.args (vs := []) rfl) (lt_ rfl) h ?_ (fun c w' h H => e_panic (P := PP) (fn := Tryd.f40) H h)
 clear H h a
 rintro _ w13 a ⟨NewWr14, rfl, h⟩ H
 refine s_assign H rfl rfl (lt_ rfl) fun a H => c_nil <| hK12 _ _ <| c_seq fun K15 hK15 => c_reg <| s_move H rfl rfl (lt_ rfl) fun a H => s_fld H rfl rfl fld_45_0 (lt_ rfl) fun a H => ?_
 obtain ⟨l16, hc17, h⟩ := h
 refine s_load (v := (.int .i64 l16)) H rfl rfl one_3 hc17 (lt_ rfl) fun a H => s_cv H rfl rfl (r_cvI some_3 int_5) (lt_ rfl) fun a H => s_call H rfl body_38 (H.args (vs := [(.pointer NewWr14), (.int .u8 (wr .u8 l16))]) rfl) (lt_ rfl) h ?_ (fun c w' h H => e_panic (P := PP) (fn := Tryd.f40) H h)
 clear H h a
 rintro _ w18 a ⟨rfl, h⟩ H
 refine c_nil <| hK15 _ _ <| c_seq fun K19 hK19 => c_reg <| s_move H rfl rfl (lt_ rfl) fun a H => s_fld H rfl rfl fld_45_1 (lt_ rfl) fun a H => ?_
 obtain ⟨l20, hc21, h⟩ := h
 refine s_load (v := (.string l20)) H rfl rfl one_9 hc21 (lt_ rfl) fun a H => s_call H rfl body_68 (H.args (vs := [(.pointer NewWr14), (.string l20)]) rfl) (lt_ rfl) h ?_ (fun c w' h H => e_panic (P := PP) (fn := Tryd.f40) H h)
 clear H h a
 rintro _ w22 a ⟨rfl, h⟩ H
 refine c_nil <| hK19 _ _ <| c_seq fun K23 hK23 => c_reg <| s_move H rfl rfl (lt_ rfl) fun a H => s_fld H rfl rfl fld_45_2 (lt_ rfl) fun a H => s_fld H rfl rfl fld_43_0 (lt_ rfl) fun a H => s_fld H rfl rfl fld_41_0 (lt_ rfl) fun a H => ?_
 obtain ⟨l24, hc25, h⟩ := h
 refine s_load (v := (.int .i64 l24)) H rfl rfl one_2 hc25 (lt_ rfl) fun a H => s_call H rfl body_52 (H.args (vs := [(.pointer NewWr14), (.int .i64 l24)]) rfl) (lt_ rfl) h ?_ (fun c w' h H => e_panic (P := PP) (fn := Tryd.f40) H h)
 clear H h a
 rintro _ w26 a ⟨rfl, h⟩ H
 refine c_nil <| hK23 _ _ <| c_seq fun K27 hK27 => c_reg <| s_move H rfl rfl (lt_ rfl) fun a H => s_fld H rfl rfl fld_45_2 (lt_ rfl) fun a H => s_fld H rfl rfl fld_43_0 (lt_ rfl) fun a H => s_fld H rfl rfl fld_41_1 (lt_ rfl) fun a H => ?_
 obtain ⟨l28, hc29, h⟩ := h
 refine s_load (v := (.int .i64 l28)) H rfl rfl one_3 hc29 (lt_ rfl) fun a H => s_call H rfl body_52 (H.args (vs := [(.pointer NewWr14), (.int .i64 l28)]) rfl) (lt_ rfl) h ?_ (fun c w' h H => e_panic (P := PP) (fn := Tryd.f40) H h)
 clear H h a
 rintro _ w30 a ⟨rfl, h⟩ H
 refine c_nil <| hK27 _ _ <| c_seq fun K31 hK31 => c_reg <| s_fld H rfl rfl fld_45_0 (lt_ rfl) fun a H => ?_
 obtain ⟨l32, hc33, h⟩ := h
 refine s_load (v := (.int .i64 l32)) H rfl rfl one_3 hc33 (lt_ rfl) fun a H => s_bin H rfl rfl rfl r_eql (lt_ rfl) fun a H => s_assign H rfl rfl (lt_ rfl) fun a H => c_nil <| hK31 _ _ <| c_seq fun K34 hK34 => ?_
 obtain ⟨R36, h, hx82⟩ := h
 have hJ59 : ∀ (a : Act) (has35 : Bool) (w37 : World), R36 has35 w37 → Has 54 [] a [(1, (.pointer (some (blk b9)))), (3, (.pointer NewWr14)), (4, (.bool has35))] → K34 a w37 := by
  clear h
  intro a has35 w37 h H
  replace h := hx82 has35 w37 h
  refine hK34 _ _ <| c_seq fun K38 hK38 => ?_
  obtain ⟨R39, h, hx58⟩ := h
  have hJ48 : ∀ (a : Act) (w40 : World), R39 w40 → Has 54 [] a [(3, (.pointer NewWr14))] → K38 a w40 := by
   clear h
   intro a w40 h H
   replace h := hx58 w40 h
   refine hK38 _ _ <| c_seq fun K41 hK41 => c_reg <| s_move H rfl rfl (lt_ rfl) fun a H => s_call H rfl body_41 (H.args (vs := [(.pointer NewWr14)]) rfl) (lt_ rfl) h ?_ (fun c w' h H => e_panic (P := PP) (fn := Tryd.f40) H h)
   clear H h a
   rintro _ w42 a ⟨Data43, rfl, h⟩ H
   refine s_assign H rfl rfl (lt_ rfl) fun a H => c_nil <| hK41 _ _ <| c_ret ?_
   exact e_ret1 H rfl rfl h
  clear hx58
  refine c_seq fun K49 hK49 => c_reg <| s_move H rfl rfl (lt_ rfl) fun a H => c_nil <| hK49 _ _ <| c_cond H rfl (fun hb50 => ?_) (fun hb50 => ?_)
  ·replace h := h.1 hb50
   refine c_reg <| s_move H rfl rfl (lt_ rfl) fun a H => s_fld H rfl rfl fld_45_2 (lt_ rfl) fun a H => s_fld H rfl rfl fld_43_3 (lt_ rfl) fun a H => ?_
   obtain ⟨l51, hc52, h⟩ := h
   refine s_load (v := (Slc.v l51)) H rfl rfl one_28 hc52 (lt_ rfl) fun a H => s_call H rfl body_39 (H.args (vs := [(.pointer NewWr14), (Slc.v l51)]) rfl) (lt_ rfl) h ?_ (fun c w' h H => e_panic (P := PP) (fn := Tryd.f40) H h)
   clear H h a
   rintro _ w53 a ⟨rfl, h⟩ H
   refine c_nil ?_
   exact hJ48 _ _ h (H.weaken ⟨rfl, trivial⟩)
  ·replace h := h.2 hb50
   refine c_skip ?_
   exact hJ48 _ _ h (H.weaken ⟨rfl, trivial⟩)
 clear hx82
 refine c_seq fun K60 hK60 => c_reg <| s_fld H rfl rfl fld_45_0 (lt_ rfl) fun a H => ?_
 obtain ⟨l61, hc62, h⟩ := h
 refine s_load (v := (.int .i64 l61)) H rfl rfl one_3 hc62 (lt_ rfl) fun a H => s_bin H rfl rfl rfl r_eql (lt_ rfl) fun a H => c_nil <| hK60 _ _ <| c_cond H rfl (fun hb63 => ?_) (fun hb63 => ?_)
 ·replace h := h.1 hb63
  refine c_seq fun K64 hK64 => c_reg <| s_move H rfl rfl (lt_ rfl) fun a H => s_fld H rfl rfl fld_45_2 (lt_ rfl) fun a H => s_fld H rfl rfl fld_43_1 (lt_ rfl) fun a H => ?_
  obtain ⟨l65, hc66, h⟩ := h
  refine s_load (v := (.bool l65)) H rfl rfl one_4 hc66 (lt_ rfl) fun a H => s_call H rfl body_69 (H.args (vs := [(.pointer NewWr14), (.bool l65)]) rfl) (lt_ rfl) h ?_ (fun c w' h H => e_panic (P := PP) (fn := Tryd.f40) H h)
  clear H h a
  rintro _ w67 a ⟨rfl, h⟩ H
  refine c_nil <| hK64 _ _ <| c_seq fun K68 hK68 => c_reg <| s_move H rfl rfl (lt_ rfl) fun a H => s_fld H rfl rfl fld_45_2 (lt_ rfl) fun a H => s_fld H rfl rfl fld_43_2 (lt_ rfl) fun a H => ?_
  obtain ⟨l69, hc70, h⟩ := h
  refine s_load (v := (.bool l69)) H rfl rfl one_4 hc70 (lt_ rfl) fun a H => s_call H rfl body_69 (H.args (vs := [(.pointer NewWr14), (.bool l69)]) rfl) (lt_ rfl) h ?_ (fun c w' h H => e_panic (P := PP) (fn := Tryd.f40) H h)
  clear H h a
  rintro _ w71 a ⟨rfl, h⟩ H
  refine c_nil <| hK68 _ _ <| c_reg <| s_fld H rfl rfl fld_45_2 (lt_ rfl) fun a H => s_fld H rfl rfl fld_43_2 (lt_ rfl) fun a H => ?_
  obtain ⟨l72, hc73, h⟩ := h
  refine s_load (v := (.bool l72)) H rfl rfl one_4 hc73 (lt_ rfl) fun a H => s_assign H rfl rfl (lt_ rfl) fun a H => c_nil ?_
  exact hJ59 _ _ _ h (H.weaken ⟨rfl, rfl, rfl, trivial⟩)
 ·replace h := h.2 hb63
  refine c_skip ?_
  exact hJ59 _ _ _ h (H.weaken ⟨rfl, rfl, rfl, trivial⟩)

set_option maxRecDepth 100000 in
set_option maxHeartbeats 4000000 in
theorem sim_pack_Writer_Data (w1 : Option Addr) (w : World) (Q : Ending → World → Prop) (h : vc_pack_Writer_Data w1 w Q) : Calls PP F_pack_Writer_Data #[(.pointer w1)] w Q := by
 unfold vc_pack_Writer_Data at h
 refine enter (n := 18) (l := [(.pointer w1)]) Tryd.func41 rfl rfl (Nat.le_of_ble_eq_true rfl) fun a H => ?_
 replace H : Has 18 [] a [(0, (.pointer w1))] := H
 refine c_seq fun K2 hK2 => c_reg <| s_assign H rfl rfl (lt_ rfl) fun a H => c_nil <| hK2 _ _ <| c_seq fun K3 hK3 => c_seq fun K4 hK4 => c_reg <| s_move H rfl rfl (lt_ rfl) fun a H => s_bin H rfl rfl rfl (r_eqP0 ptr_81) (lt_ rfl) fun a H => s_move H rfl rfl (lt_ rfl) fun a H => ?_
 obtain ⟨x11, hy12, hn13, h⟩ := h
 refine g_join (n := 18) [(12, (.bool x11)), (0, (.pointer w1))] (.succ (.succ (.succ (.succ (.succ (.succ (.succ (.zero _)))))))) ?_ ?_
 ·intro hr6
  try clear h
  rcases Bool.eq_false_or_eq_true w1.isNone with hg5 | hg5
  ·replace H := H.ch (t := 5) (b := true) rfl hg5
   iterate 6 refine s_skip H (wantN H rfl rfl rfl) rfl (lt_ rfl) fun a H => ?_
   refine s_pickT H rfl rfl rfl (lt_ rfl) fun a H => ?_
   replace h := hn13 hg5
   subst h
   exact hr6 _ (H.weaken ⟨rfl, rfl, trivial⟩)
  ·replace H := H.ch (t := 5) (b := false) rfl hg5
   replace h := hy12 hg5
   refine s_move H (wantG H rfl rfl) rfl (lt_ rfl) fun a H => ?_
   obtain ⟨a7, hq10, h⟩ := h
   subst hq10
   refine s_nil H (wantG H rfl rfl) rfl (lt_ rfl) fun a H => s_fld H (wantG H rfl rfl) rfl fld_109_0 (lt_ rfl) fun a H => s_fld H (wantG H rfl rfl) rfl fld_107_0 (lt_ rfl) fun a H => ?_
   obtain ⟨l8, hc9, h⟩ := h
   refine s_load (v := (.int .i64 l8)) H (wantG H rfl rfl) rfl one_29 hc9 (lt_ rfl) fun a H => s_bin H (wantG H rfl rfl) rfl rfl r_neq (lt_ rfl) fun a H => s_pickF H rfl rfl rfl (lt_ rfl) fun a H => ?_
   subst h
   exact hr6 _ (H.weaken ⟨rfl, rfl, trivial⟩)
 ·clear H a
  clear hy12 hn13
  intro a H
  refine c_nil <| hK4 _ _ <| c_cond H rfl (fun hb14 => ?_) (fun hb14 => ?_)
  ·replace h := h.1 hb14
   refine c_seq fun K15 hK15 => c_reg <| s_assign H rfl rfl (lt_ rfl) fun a H => c_nil <| hK15 _ _ <| c_ret ?_
   exact e_ret1 H rfl rfl h
  ·replace h := h.2 hb14
   refine c_skip <| hK3 _ _ <| c_seq fun K16 hK16 => c_reg <| s_move H rfl rfl (lt_ rfl) fun a H => ?_
   obtain ⟨a17, hq26, h⟩ := h
   subst hq26
   refine s_nil H rfl rfl (lt_ rfl) fun a H => s_fld H rfl rfl fld_109_1 (lt_ rfl) fun a H => ?_
   obtain ⟨l18, hc19, h⟩ := h
   refine s_load (v := (Slc.v l18)) H rfl rfl one_28 hc19 (lt_ rfl) fun a H => s_call H rfl body_25 (H.args (vs := [(Slc.v l18)]) rfl) (lt_ rfl) h ?_ (fun c w' h H => e_panic (P := PP) (fn := Tryd.f41) H h)
   clear H h a
   rintro _ w20 a ⟨Clone21, rfl, h⟩ H
   refine s_assign H rfl rfl (lt_ rfl) fun a H => c_nil <| hK16 _ _ <| c_ret ?_
   exact e_ret1 H rfl rfl h

set_option maxRecDepth 100000 in
set_option maxHeartbeats 4000000 in
theorem sim_record_four (n1 : Int) (w : World) (Q : Ending → World → Prop) (h : vc_record_four n1 w Q) : Calls PP F_record_four #[(.int .u32 n1)] w Q := by
 unfold vc_record_four at h
 refine enter (n := 15) (l := [(.int .u32 n1)]) Tryd.func42 rfl rfl (Nat.le_of_ble_eq_true rfl) fun a H => ?_
 replace H : Has 15 [] a [(0, (.int .u32 n1))] := H
 refine c_seq fun K2 hK2 => c_reg <| s_assign H rfl rfl (lt_ rfl) fun a H => c_nil <| hK2 _ _ <| c_seq fun K3 hK3 => c_reg <| s_move H rfl rfl (lt_ rfl) fun a H => s_cv H rfl rfl (r_cvI some_88 int_5) (lt_ rfl) fun a H => s_move H rfl rfl (lt_ rfl) fun a H => s_bin H rfl rfl rfl (r_shr (by decide)) (lt_ rfl) fun a H => s_cv H rfl rfl (r_cvI some_88 int_5) (lt_ rfl) fun a H => s_move H rfl rfl (lt_ rfl) fun a H => s_bin H rfl rfl rfl (r_shr (by decide)) (lt_ rfl) fun a H => ?_
 refine s_cv H rfl rfl (r_cvI some_88 int_5) (lt_ rfl) fun a H => s_move H rfl rfl (lt_ rfl) fun a H => s_bin H rfl rfl rfl (r_shr (by decide)) (lt_ rfl) fun a H => s_cv H rfl rfl (r_cvI some_88 int_5) (lt_ rfl) fun a H => ?_
 replace h := h.get
 obtain ⟨b4, w5, nb6, h⟩ := h
 refine s_bslc H rfl (by rw [H.parts (vs := [(0, (.int .u8 (wr .u8 n1))), (1, (.int .u8 (wr .u8 (shrI .u32 n1 8)))), (2, (.int .u8 (wr .u8 (shrI .u32 n1 16)))), (3, (.int .u8 (wr .u8 (shrI .u32 n1 24))))]) rfl]; exact bs_28_4_iu80_iu81_iu82_iu83 w (wr .u8 n1) (wr .u8 (shrI .u32 n1 8)) (wr .u8 (shrI .u32 n1 16)) (wr .u8 (shrI .u32 n1 24))) (lt_ rfl) ?_
 rw [← nb6.at_]
 clear H a
 intro a H
 refine nb6.go <| s_assign H rfl rfl (lt_ rfl) fun a H => c_nil <| hK3 _ _ <| c_ret ?_
 exact e_ret1 H rfl rfl h

set_option maxRecDepth 100000 in
set_option maxHeartbeats 4000000 in
theorem sim_sum_Of (parts1 : Slc) (w : World) (Q : Ending → World → Prop) (h : vc_sum_Of parts1 w Q) : Calls PP F_sum_Of #[(Slc.v parts1)] w Q := by
 unfold vc_sum_Of at h
 refine enter (n := 27) (l := [(Slc.v parts1)]) Tryd.func43 rfl rfl (Nat.le_of_ble_eq_true rfl) fun a H => ?_
 replace H : Has 27 [] a [(0, (Slc.v parts1))] := H
 refine c_seq fun K2 hK2 => c_reg <| s_assign H rfl rfl (lt_ rfl) fun a H => c_nil <| hK2 _ _ <| c_seq fun K3 hK3 => c_reg <| s_assign H rfl rfl (lt_ rfl) fun a H => c_nil <| hK3 _ _ <| c_seq fun K4 hK4 => c_seq fun K5 hK5 => c_reg <| s_move H rfl rfl (lt_ rfl) fun a H => s_blt H rfl (H.args (vs := [(Slc.v parts1)]) rfl) (lt_ rfl) (fun cs => b_lenS (z := parts1) sl_37) fun a H => s_move H rfl rfl (lt_ rfl) fun a H => c_nil <| hK5 _ _ <| c_block ?_
 obtain ⟨I9, mu10, h053, hl54⟩ := h
 refine c_loop (σ := Int × Int) (fun z w => I9 z.1 z.2 w) (fun z w => mu10 z.1 z.2 w) (fun z => [(3, (.int .u32 z.1)), (8, (Slc.v parts1)), (9, (.int .i64 (parts1.l : Int))), (10, (.int .i64 z.2))]) (4294967295, 0) h053 (H.weaken ⟨rfl, rfl, rfl, rfl, trivial⟩) ?_
 clear H h053
 rintro ⟨x6, s7⟩ a w8 h H
 replace h := hl54 x6 s7 w8 h
 clear hl54
 replace H : Has 27 [] a [(3, (.int .u32 x6)), (8, (Slc.v parts1)), (9, (.int .i64 (parts1.l : Int))), (10, (.int .i64 s7))] := H
 refine c_seq fun K11 hK11 => c_reg <| s_bin H rfl rfl rfl r_lss (lt_ rfl) fun a H => c_nil <| hK11 _ _ <| c_seq fun K12 hK12 => c_cond H rfl (fun hb13 => ?_) (fun hb13 => ?_)
 ·replace h := h.1 hb13
  refine c_skip <| hK12 _ _ <| c_seq fun K14 hK14 => ?_
  obtain ⟨R16, h, hx51⟩ := h
  have hJ18 : ∀ (a : Act) (x15 : Int) (w17 : World), R16 x15 w17 → Has 27 [] a [(3, (.int .u32 x15)), (8, (Slc.v parts1)), (9, (.int .i64 (parts1.l : Int))), (10, (.int .i64 s7))] → K14 a w17 := by
   clear h
   intro a x15 w17 h H
   replace h := hx51 x15 w17 h
   refine hK14 _ _ <| c_reg <| s_bin H rfl rfl rfl r_add (lt_ rfl) fun a H => s_move H rfl rfl (lt_ rfl) fun a H => c_nil <| Exists.intro (x15, wr .i64 (s7 + 1)) ⟨h.1, h.2, H.weaken ⟨rfl, rfl, rfl, rfl, trivial⟩⟩
  clear hx51
  refine c_block <| c_seq fun K19 hK19 => c_reg ?_
  obtain ⟨a20, hi21, hi22, hi23, h⟩ := h
  refine s_idxS (s := parts1) H rfl rfl rfl slc_37 hi21 hi22 hi23 (lt_ rfl) fun a H => ?_
  obtain ⟨l24, hc25, h⟩ := h
  refine s_load (v := (Slc.v l24)) H rfl rfl one_28 hc25 (lt_ rfl) fun a H => s_assign H rfl rfl (lt_ rfl) fun a H => c_nil <| hK19 _ _ <| c_seq fun K26 hK26 => c_reg <| s_move H rfl rfl (lt_ rfl) fun a H => s_blt H rfl (H.args (vs := [(Slc.v l24)]) rfl) (lt_ rfl) (fun cs => b_lenS (z := l24) sl_28) fun a H => s_move H rfl rfl (lt_ rfl) fun a H => c_nil <| hK26 _ _ <| c_block ?_
  obtain ⟨I30, mu31, h049, hl50⟩ := h
  refine c_loop (σ := Int × Int) (fun z w => I30 z.1 z.2 w) (fun z w => mu31 z.1 z.2 w) (fun z => [(3, (.int .u32 z.1)), (8, (Slc.v parts1)), (9, (.int .i64 (parts1.l : Int))), (10, (.int .i64 s7)), (14, (Slc.v l24)), (15, (.int .i64 (l24.l : Int))), (16, (.int .i64 z.2))]) (x6, 0) h049 (H.weaken ⟨rfl, rfl, rfl, rfl, rfl, rfl, rfl, trivial⟩) ?_
  clear H h049
  rintro ⟨x27, s28⟩ a w29 h H
  replace h := hl50 x27 s28 w29 h
  clear hl50
  replace H : Has 27 [] a [(3, (.int .u32 x27)), (8, (Slc.v parts1)), (9, (.int .i64 (parts1.l : Int))), (10, (.int .i64 s7)), (14, (Slc.v l24)), (15, (.int .i64 (l24.l : Int))), (16, (.int .i64 s28))] := H
  refine c_seq fun K32 hK32 => c_reg <| s_bin H rfl rfl rfl r_lss (lt_ rfl) fun a H => c_nil <| hK32 _ _ <| c_seq fun K33 hK33 => c_cond H rfl (fun hb34 => ?_) (fun hb34 => ?_)
  ·replace h := h.1 hb34
   refine c_skip <| hK33 _ _ <| c_seq fun K35 hK35 => c_block <| c_seq fun K36 hK36 => c_reg ?_
   obtain ⟨a37, hi38, hi39, hi40, h⟩ := h
   refine s_idxS (s := l24) H rfl rfl rfl slc_28 hi38 hi39 hi40 (lt_ rfl) fun a H => ?_
   obtain ⟨l41, hc42, h⟩ := h
   refine s_load (v := (.int .u8 l41)) H rfl rfl one_5 hc42 (lt_ rfl) fun a H => s_assign H rfl rfl (lt_ rfl) fun a H => c_nil <| hK36 _ _ <| c_reg <| s_move H rfl rfl (lt_ rfl) fun a H => s_move H rfl rfl (lt_ rfl) fun a H => s_call H rfl body_70 (H.args (vs := [(.int .u32 x27), (.int .u8 l41)]) rfl) (lt_ rfl) h ?_ (fun c w' h H => e_panic (P := PP) (fn := Tryd.f43) H h)
   clear H h a
   rintro _ w43 a ⟨step44, rfl, h⟩ H
   refine s_assign H rfl rfl (lt_ rfl) fun a H => c_nil <| hK35 _ _ <| c_reg <| s_bin H rfl rfl rfl r_add (lt_ rfl) fun a H => s_move H rfl rfl (lt_ rfl) fun a H => c_nil <| Exists.intro (step44, wr .i64 (s28 + 1)) ⟨h.1, h.2, H.weaken ⟨rfl, rfl, rfl, rfl, rfl, rfl, rfl, trivial⟩⟩
  ·replace h := h.2 hb34
   refine c_exit ?_
   first | (simp only [Exit.then, Exit.inBlock, ↓reduceIte]; fail_if_success simp only [Nat.reduceEqDiff]) | simp only [Exit.then, Exit.inBlock, ↓reduceIte, Nat.reduceEqDiff]
   exact hJ18 _ _ _ h (H.weaken ⟨rfl, rfl, rfl, rfl, trivial⟩)
 ·replace h := h.2 hb13
  refine c_exit ?_
  first | (simp only [Exit.then, Exit.inBlock, ↓reduceIte]; fail_if_success simp only [Nat.reduceEqDiff]) | simp only [Exit.then, Exit.inBlock, ↓reduceIte, Nat.reduceEqDiff]
  refine hK4 _ _ <| c_seq fun K52 hK52 => c_reg <| s_move H rfl rfl (lt_ rfl) fun a H => s_un H rfl rfl r_com (lt_ rfl) fun a H => s_assign H rfl rfl (lt_ rfl) fun a H => c_nil <| hK52 _ _ <| c_ret ?_
  exact e_ret1 H rfl rfl h

set_option maxRecDepth 100000 in
set_option maxHeartbeats 4000000 in
theorem sim_slices_Concat (slice1 : Slc) (w : World) (Q : Ending → World → Prop) (h : vc_slices_Concat slice1 w Q) : Calls PP F_slices_Concat #[(Slc.v slice1)] w Q := by
 unfold vc_slices_Concat at h
 refine enter (n := 36) (l := [(Slc.v slice1)]) Tryd.func44 rfl rfl (Nat.le_of_ble_eq_true rfl) fun a H => ?_
 replace H : Has 36 [] a [(0, (Slc.v slice1))] := H
 refine c_seq fun K2 hK2 => c_reg <| s_assign H rfl rfl (lt_ rfl) fun a H => c_nil <| hK2 _ _ <| c_seq fun K3 hK3 => c_reg <| s_assign H rfl rfl (lt_ rfl) fun a H => c_nil <| hK3 _ _ <| c_seq fun K4 hK4 => c_seq fun K5 hK5 => c_reg <| s_move H rfl rfl (lt_ rfl) fun a H => s_blt H rfl (H.args (vs := [(Slc.v slice1)]) rfl) (lt_ rfl) (fun cs => b_lenS (z := slice1) sl_37) fun a H => s_move H rfl rfl (lt_ rfl) fun a H => c_nil <| hK5 _ _ <| c_block ?_
 obtain ⟨I9, mu10, h061, hl62⟩ := h
 refine c_loop (σ := Int × Int) (fun z w => I9 z.1 z.2 w) (fun z w => mu10 z.1 z.2 w) (fun z => [(0, (Slc.v slice1)), (3, (.int .i64 z.1)), (9, (Slc.v slice1)), (10, (.int .i64 (slice1.l : Int))), (11, (.int .i64 z.2))]) (0, 0) h061 (H.weaken ⟨rfl, rfl, rfl, rfl, rfl, trivial⟩) ?_
 clear H h061
 rintro ⟨size6, s7⟩ a w8 h H
 replace h := hl62 size6 s7 w8 h
 clear hl62
 replace H : Has 36 [] a [(0, (Slc.v slice1)), (3, (.int .i64 size6)), (9, (Slc.v slice1)), (10, (.int .i64 (slice1.l : Int))), (11, (.int .i64 s7))] := H
 refine c_seq fun K11 hK11 => c_reg <| s_bin H rfl rfl rfl r_lss (lt_ rfl) fun a H => c_nil <| hK11 _ _ <| c_seq fun K12 hK12 => c_cond H rfl (fun hb13 => ?_) (fun hb13 => ?_)
 ·replace h := h.1 hb13
  refine c_skip <| hK12 _ _ <| c_seq fun K14 hK14 => ?_
  obtain ⟨R16, h, hx29⟩ := h
  have hJ18 : ∀ (a : Act) (size15 : Int) (w17 : World), R16 size15 w17 → Has 36 [] a [(0, (Slc.v slice1)), (3, (.int .i64 size15)), (9, (Slc.v slice1)), (10, (.int .i64 (slice1.l : Int))), (11, (.int .i64 s7))] → K14 a w17 := by
   clear h
   intro a size15 w17 h H
   replace h := hx29 size15 w17 h
   refine hK14 _ _ <| c_reg <| s_bin H rfl rfl rfl r_add (lt_ rfl) fun a H => s_move H rfl rfl (lt_ rfl) fun a H => c_nil <| Exists.intro (size15, wr .i64 (s7 + 1)) ⟨h.1, h.2, H.weaken ⟨rfl, rfl, rfl, rfl, rfl, trivial⟩⟩
  clear hx29
  refine c_block <| c_seq fun K19 hK19 => c_reg ?_
  obtain ⟨a20, hi21, hi22, hi23, h⟩ := h
  refine s_idxS (s := slice1) H rfl rfl rfl slc_37 hi21 hi22 hi23 (lt_ rfl) fun a H => ?_
  obtain ⟨l24, hc25, h⟩ := h
  refine s_load (v := (Slc.v l24)) H rfl rfl one_28 hc25 (lt_ rfl) fun a H => s_assign H rfl rfl (lt_ rfl) fun a H => c_nil <| hK19 _ _ <| c_seq fun K26 hK26 => c_reg <| s_move H rfl rfl (lt_ rfl) fun a H => s_move H rfl rfl (lt_ rfl) fun a H => s_blt H rfl (H.args (vs := [(Slc.v l24)]) rfl) (lt_ rfl) (fun cs => b_lenS (z := l24) sl_28) fun a H => s_bin H rfl rfl rfl r_add (lt_ rfl) fun a H => s_assign H rfl rfl (lt_ rfl) fun a H => c_nil <| hK26 _ _ <| c_seq fun K27 hK27 => c_reg ?_
  refine s_move H rfl rfl (lt_ rfl) fun a H => s_bin H rfl rfl rfl r_lss (lt_ rfl) fun a H => c_nil <| hK27 _ _ <| c_cond H rfl (fun hb28 => ?_) (fun hb28 => ?_)
  ·replace h := h.1 hb28
   refine c_reg <| s_iface H rfl rfl ni_9 (lt_ rfl) fun a H => ?_
   exact s_panic H rfl rfl (fun H => e_panic (P := PP) (fn := Tryd.f44) H h)
  ·replace h := h.2 hb28
   refine c_skip ?_
   exact hJ18 _ _ _ h (H.weaken ⟨rfl, rfl, rfl, rfl, rfl, trivial⟩)
 ·replace h := h.2 hb13
  refine c_exit ?_
  first | (simp only [Exit.then, Exit.inBlock, ↓reduceIte]; fail_if_success simp only [Nat.reduceEqDiff]) | simp only [Exit.then, Exit.inBlock, ↓reduceIte, Nat.reduceEqDiff]
  refine hK4 _ _ <| c_seq fun K30 hK30 => c_reg <| s_move H rfl rfl (lt_ rfl) fun a H => s_call H rfl body_71 (H.args (vs := [(Slc.v Slc.nil), (.int .i64 size6)]) rfl) (lt_ rfl) h ?_ (fun c w' h H => e_panic (P := PP) (fn := Tryd.f44) H h)
  clear H h a
  rintro _ w31 a ⟨Grow32, rfl, h⟩ H
  refine s_assign H rfl rfl (lt_ rfl) fun a H => c_nil <| hK30 _ _ <| c_seq fun K33 hK33 => c_seq fun K34 hK34 => c_reg <| s_move H rfl rfl (lt_ rfl) fun a H => s_blt H rfl (H.args (vs := [(Slc.v slice1)]) rfl) (lt_ rfl) (fun cs => b_lenS (z := slice1) sl_37) fun a H => s_move H rfl rfl (lt_ rfl) fun a H => c_nil <| hK34 _ _ <| c_block ?_
  obtain ⟨I38, mu39, h055, hl56⟩ := h
  refine c_loop (σ := Slc × Int) (fun z w => I38 z.1 z.2 w) (fun z w => mu39 z.1 z.2 w) (fun z => [(6, (Slc.v z.1)), (25, (Slc.v slice1)), (26, (.int .i64 (slice1.l : Int))), (27, (.int .i64 z.2))]) (Grow32, 0) h055 (H.weaken ⟨rfl, rfl, rfl, rfl, trivial⟩) ?_
  clear H h055
  rintro ⟨newsl35, s36⟩ a w37 h H
  replace h := hl56 newsl35 s36 w37 h
  clear hl56
  replace H : Has 36 [] a [(6, (Slc.v newsl35)), (25, (Slc.v slice1)), (26, (.int .i64 (slice1.l : Int))), (27, (.int .i64 s36))] := H
  refine c_seq fun K40 hK40 => c_reg <| s_bin H rfl rfl rfl r_lss (lt_ rfl) fun a H => c_nil <| hK40 _ _ <| c_seq fun K41 hK41 => c_cond H rfl (fun hb42 => ?_) (fun hb42 => ?_)
  ·replace h := h.1 hb42
   refine c_skip <| hK41 _ _ <| c_seq fun K43 hK43 => c_block <| c_seq fun K44 hK44 => c_reg ?_
   obtain ⟨a45, hi46, hi47, hi48, h⟩ := h
   refine s_idxS (s := slice1) H rfl rfl rfl slc_37 hi46 hi47 hi48 (lt_ rfl) fun a H => ?_
   obtain ⟨l49, hc50, h⟩ := h
   refine s_load (v := (Slc.v l49)) H rfl rfl one_28 hc50 (lt_ rfl) fun a H => s_assign H rfl rfl (lt_ rfl) fun a H => c_nil <| hK44 _ _ <| c_reg <| s_move H rfl rfl (lt_ rfl) fun a H => s_move H rfl rfl (lt_ rfl) fun a H => ?_
   obtain ⟨s51, w52, hq53, h⟩ := h
   refine s_blt H rfl (H.args (vs := [(Slc.v newsl35), (Slc.v l49)]) rfl) (lt_ rfl) (fun cs => b_app (z := s51) hq53) ?_
   clear H a hq53
   intro a H
   refine s_assign H rfl rfl (lt_ rfl) fun a H => c_nil <| hK43 _ _ <| c_reg <| s_bin H rfl rfl rfl r_add (lt_ rfl) fun a H => s_move H rfl rfl (lt_ rfl) fun a H => c_nil <| Exists.intro (s51, wr .i64 (s36 + 1)) ⟨h.1, h.2, H.weaken ⟨rfl, rfl, rfl, rfl, trivial⟩⟩
  ·replace h := h.2 hb42
   refine c_exit ?_
   first | (simp only [Exit.then, Exit.inBlock, ↓reduceIte]; fail_if_success simp only [Nat.reduceEqDiff]) | simp only [Exit.then, Exit.inBlock, ↓reduceIte, Nat.reduceEqDiff]
   refine hK33 _ _ <| c_seq fun K54 hK54 => c_reg <| s_move H rfl rfl (lt_ rfl) fun a H => s_assign H rfl rfl (lt_ rfl) fun a H => c_nil <| hK54 _ _ <| c_ret ?_
   exact e_ret1 H rfl rfl h

set_option maxRecDepth 100000 in
set_option maxHeartbeats 4000000 in
theorem sim_sherdref09_Check (N1 : Int) (K2 : Int) (Delta3 : Int) (w : World) (Q : Ending → World → Prop) (h : vc_sherdref09_Check N1 K2 Delta3 w Q) : Calls PP F_sherdref09_Check #[(.agg #[(.int .i64 N1), (.int .i64 K2), (.int .i64 Delta3)])] w Q := by
 unfold vc_sherdref09_Check at h
 refine enter (n := 28) (l := [(.agg #[(.int .i64 N1), (.int .i64 K2), (.int .i64 Delta3)])]) Tryd.func45 rfl rfl (Nat.le_of_ble_eq_true rfl) fun a H => ?_
 replace H : Has 28 [] a [(0, (.agg #[(.int .i64 N1), (.int .i64 K2), (.int .i64 Delta3)]))] := H
 refine c_seq fun K4 hK4 => c_reg ?_
 replace h := h.get
 obtain ⟨b5, w6, nb7, h⟩ := h
 refine s_box H rfl rfl (lt_ rfl) ?_
 rw [← nb7.at_]
 clear H a
 intro a H
 refine nb7.go <| s_assign H rfl rfl (lt_ rfl) fun a H => c_nil <| hK4 _ _ <| c_seq fun K8 hK8 => c_seq fun K9 hK9 => c_reg <| s_fld H rfl rfl fld_23_1 (lt_ rfl) fun a H => s_load (v := (.int .i64 K2)) H rfl rfl one_3 (nb7.cell (i := 1) rfl) (lt_ rfl) fun a H => s_bin H rfl rfl rfl r_lss (lt_ rfl) fun a H => s_move H rfl rfl (lt_ rfl) fun a H => ?_
 refine g_join (n := 28) [(12, (.bool ((decide (K2 < 1)) || (decide (N1 < K2))))), (1, (.pointer (some (blk b5))))] (.succ (.succ (.succ (.succ (.succ (.succ (.zero _))))))) ?_ ?_
 ·intro hr11
  try clear h
  rcases Bool.eq_false_or_eq_true (decide (K2 < 1)) with hg10 | hg10
  ·replace H := H.ch (t := 6) (b := true) rfl hg10
   iterate 5 refine s_skip H (wantN H rfl rfl rfl) rfl (lt_ rfl) fun a H => ?_
   refine s_pickT H rfl rfl rfl (lt_ rfl) fun a H => ?_
   exact hr11 _ (H.weaken ⟨by rw [hg10]; rfl, rfl, trivial⟩)
  ·replace H := H.ch (t := 6) (b := false) rfl hg10
   refine s_fld H (wantG H rfl rfl) rfl fld_23_1 (lt_ rfl) fun a H => s_load (v := (.int .i64 K2)) H (wantG H rfl rfl) rfl one_3 (nb7.cell (i := 1) rfl) (lt_ rfl) fun a H => s_fld H (wantG H rfl rfl) rfl fld_23_0 (lt_ rfl) fun a H => s_load (v := (.int .i64 N1)) H (wantG H rfl rfl) rfl one_3 (nb7.cell (i := 0) rfl) (lt_ rfl) fun a H => s_bin H (wantG H rfl rfl) rfl rfl r_gtr (lt_ rfl) fun a H => s_pickF H rfl rfl rfl (lt_ rfl) fun a H => ?_
   exact hr11 _ (H.weaken ⟨by rw [hg10]; rfl, rfl, trivial⟩)
 ·clear H a
  intro a H
  refine s_move H rfl rfl (lt_ rfl) fun a H => g_join (n := 28) [(17, (.bool (((decide (K2 < 1)) || (decide (N1 < K2))) || (decide (255 < N1))))), (1, (.pointer (some (blk b5))))] (.succ (.succ (.succ (.succ (.zero _))))) ?_ ?_
  ·intro hr13
   try clear h
   rcases Bool.eq_false_or_eq_true ((decide (K2 < 1)) || (decide (N1 < K2))) with hg12 | hg12
   ·replace H := H.ch (t := 13) (b := true) rfl hg12
    iterate 3 refine s_skip H (wantN H rfl rfl rfl) rfl (lt_ rfl) fun a H => ?_
    refine s_pickT H rfl rfl rfl (lt_ rfl) fun a H => ?_
    exact hr13 _ (H.weaken ⟨by rw [hg12]; rfl, rfl, trivial⟩)
   ·replace H := H.ch (t := 13) (b := false) rfl hg12
    refine s_fld H (wantG H rfl rfl) rfl fld_23_0 (lt_ rfl) fun a H => s_load (v := (.int .i64 N1)) H (wantG H rfl rfl) rfl one_3 (nb7.cell (i := 0) rfl) (lt_ rfl) fun a H => s_bin H (wantG H rfl rfl) rfl rfl r_gtr (lt_ rfl) fun a H => s_pickF H rfl rfl rfl (lt_ rfl) fun a H => ?_
    exact hr13 _ (H.weaken ⟨by rw [hg12]; rfl, rfl, trivial⟩)
  ·clear H a
   intro a H
   refine s_move H rfl rfl (lt_ rfl) fun a H => g_join (n := 28) [(22, (.bool ((((decide (K2 < 1)) || (decide (N1 < K2))) || (decide (255 < N1))) || (decide (Delta3 < 0))))), (1, (.pointer (some (blk b5))))] (.succ (.succ (.succ (.succ (.zero _))))) ?_ ?_
   ·intro hr15
    try clear h
    rcases Bool.eq_false_or_eq_true (((decide (K2 < 1)) || (decide (N1 < K2))) || (decide (255 < N1))) with hg14 | hg14
    ·replace H := H.ch (t := 18) (b := true) rfl hg14
     iterate 3 refine s_skip H (wantN H rfl rfl rfl) rfl (lt_ rfl) fun a H => ?_
     refine s_pickT H rfl rfl rfl (lt_ rfl) fun a H => ?_
     exact hr15 _ (H.weaken ⟨by rw [hg14]; rfl, rfl, trivial⟩)
    ·replace H := H.ch (t := 18) (b := false) rfl hg14
     refine s_fld H (wantG H rfl rfl) rfl fld_23_2 (lt_ rfl) fun a H => s_load (v := (.int .i64 Delta3)) H (wantG H rfl rfl) rfl one_3 (nb7.cell (i := 2) rfl) (lt_ rfl) fun a H => s_bin H (wantG H rfl rfl) rfl rfl r_lss (lt_ rfl) fun a H => s_pickF H rfl rfl rfl (lt_ rfl) fun a H => ?_
     exact hr15 _ (H.weaken ⟨by rw [hg14]; rfl, rfl, trivial⟩)
   ·clear H a
    intro a H
    refine s_move H rfl rfl (lt_ rfl) fun a H => g_join (n := 28) [(27, (.bool (((((decide (K2 < 1)) || (decide (N1 < K2))) || (decide (255 < N1))) || (decide (Delta3 < 0))) || (decide (4611686018427387903 < Delta3)))))] (.succ (.succ (.succ (.succ (.zero _))))) ?_ ?_
    ·intro hr17
     try clear h
     rcases Bool.eq_false_or_eq_true ((((decide (K2 < 1)) || (decide (N1 < K2))) || (decide (255 < N1))) || (decide (Delta3 < 0))) with hg16 | hg16
     ·replace H := H.ch (t := 23) (b := true) rfl hg16
      iterate 3 refine s_skip H (wantN H rfl rfl rfl) rfl (lt_ rfl) fun a H => ?_
      refine s_pickT H rfl rfl rfl (lt_ rfl) fun a H => ?_
      exact hr17 _ (H.weaken ⟨by rw [hg16]; rfl, trivial⟩)
     ·replace H := H.ch (t := 23) (b := false) rfl hg16
      refine s_fld H (wantG H rfl rfl) rfl fld_23_2 (lt_ rfl) fun a H => s_load (v := (.int .i64 Delta3)) H (wantG H rfl rfl) rfl one_3 (nb7.cell (i := 2) rfl) (lt_ rfl) fun a H => s_bin H (wantG H rfl rfl) rfl rfl r_gtr (lt_ rfl) fun a H => s_pickF H rfl rfl rfl (lt_ rfl) fun a H => ?_
      exact hr17 _ (H.weaken ⟨by rw [hg16]; rfl, trivial⟩)
    ·clear H a
     intro a H
     refine c_nil <| hK9 _ _ <| c_cond H rfl (fun hb18 => ?_) (fun hb18 => ?_)
     ·replace h := h.1 hb18
      refine c_seq fun K19 hK19 => c_reg <| s_assign H rfl rfl (lt_ rfl) fun a H => c_nil <| hK19 _ _ <| c_ret ?_
      exact e_ret1 H rfl rfl h
     ·replace h := h.2 hb18
      refine c_skip <| hK8 _ _ <| c_seq fun K20 hK20 => c_reg <| s_assign H rfl rfl (lt_ rfl) fun a H => c_nil <| hK20 _ _ <| c_ret ?_
      exact e_ret1 H rfl rfl h

set_option maxRecDepth 100000 in
set_option maxHeartbeats 4000000 in
theorem sim_sherdref07_NewWriter (w : World) (Q : Ending → World → Prop) (h : vc_sherdref07_NewWriter w Q) : Calls PP F_sherdref07_NewWriter #[] w Q := by
 unfold vc_sherdref07_NewWriter at h
 refine enter (n := 3) (l := []) Tryd.func46 rfl rfl (Nat.le_of_ble_eq_true rfl) fun a H => ?_
 replace H : Has 3 [] a [] := H
 refine c_seq fun K1 hK1 => c_reg <| s_assign H rfl rfl (lt_ rfl) fun a H => c_nil <| hK1 _ _ <| c_seq fun K2 hK2 => c_reg <| s_build H rfl (by rw [H.parts (vs := []) rfl]; exact bd_117 w) (lt_ rfl) fun a H => ?_
 replace h := h.get
 obtain ⟨b3, w4, nb5, h⟩ := h
 refine s_box H rfl rfl (lt_ rfl) ?_
 rw [← nb5.at_]
 clear H a
 intro a H
 refine nb5.go <| s_assign H rfl rfl (lt_ rfl) fun a H => c_nil <| hK2 _ _ <| c_ret ?_
 exact e_ret1 H rfl rfl h

set_option maxRecDepth 100000 in
set_option maxHeartbeats 4000000 in
theorem sim_sherdref07_Writer_Byte (w1 : Option Addr) (b2 : Int) (w : World) (Q : Ending → World → Prop) (h : vc_sherdref07_Writer_Byte w1 b2 w Q) : Calls PP F_sherdref07_Writer_Byte #[(.pointer w1), (.int .u8 b2)] w Q := by
 unfold vc_sherdref07_Writer_Byte at h
 refine enter (n := 8) (l := [(.pointer w1), (.int .u8 b2)]) Tryd.func47 rfl rfl (Nat.le_of_ble_eq_true rfl) fun a H => ?_
 replace H : Has 8 [] a [(0, (.pointer w1)), (1, (.int .u8 b2))] := H
 refine c_reg <| s_move H rfl rfl (lt_ rfl) fun a H => s_move H rfl rfl (lt_ rfl) fun a H => ?_
 replace h := h.get
 obtain ⟨b3, w4, nb5, h⟩ := h
 refine s_bslc H rfl (by rw [H.parts (vs := [(0, (.int .u8 b2))]) rfl]; exact bs_28_1_iu80 w b2) (lt_ rfl) ?_
 rw [← nb5.at_]
 clear H a
 intro a H
 refine nb5.go <| s_call H rfl body_72 (H.args (vs := [(.pointer w1), (Slc.v (Slc.mk (some (blk b3)) 1 1))]) rfl) (lt_ rfl) h ?_ (fun c w' h H => e_panic (P := PP) (fn := Tryd.f47) H h)
 clear H h a
 rintro _ w6 a ⟨rfl, h⟩ H
 refine c_nil ?_
 exact e_ret0 H rfl h

set_option maxRecDepth 100000 in
set_option maxHeartbeats 4000000 in
theorem sim_sherdref07_Writer_Uint (w1 : Option Addr) (n2 : Int) (w : World) (Q : Ending → World → Prop) (h : vc_sherdref07_Writer_Uint w1 n2 w Q) : Calls PP F_sherdref07_Writer_Uint #[(.pointer w1), (.int .i64 n2)] w Q := by
 unfold vc_sherdref07_Writer_Uint at h
 refine enter (n := 22) (l := [(.pointer w1), (.int .i64 n2)]) Tryd.func48 rfl rfl (Nat.le_of_ble_eq_true rfl) fun a H => ?_
 replace H : Has 22 [] a [(0, (.pointer w1)), (1, (.int .i64 n2))] := H
 refine c_seq fun K3 hK3 => ?_
 obtain ⟨R4, h, hx31⟩ := h
 have hJ19 : ∀ (a : Act) (w5 : World), R4 w5 → Has 22 [] a [(0, (.pointer w1)), (1, (.int .i64 n2))] → K3 a w5 := by
  clear h
  intro a w5 h H
  replace h := hx31 w5 h
  refine hK3 _ _ <| c_seq fun K6 hK6 => c_reg <| s_move H rfl rfl (lt_ rfl) fun a H => s_bin H rfl rfl rfl r_geq (lt_ rfl) fun a H => c_nil <| hK6 _ _ <| c_cond H rfl (fun hb7 => ?_) (fun hb7 => ?_)
  ·replace h := h.1 hb7
   refine c_reg <| s_move H rfl rfl (lt_ rfl) fun a H => s_move H rfl rfl (lt_ rfl) fun a H => s_call H rfl body_73 (H.args (vs := [(.int .i64 n2)]) rfl) (lt_ rfl) h ?_ (fun c w' h H => e_panic (P := PP) (fn := Tryd.f48) H h)
   clear H h a
   rintro _ w8 a ⟨Form9, rfl, h⟩ H
   refine s_call H rfl body_72 (H.args (vs := [(.pointer w1), (Slc.v Form9)]) rfl) (lt_ rfl) h ?_ (fun c w' h H => e_panic (P := PP) (fn := Tryd.f48) H h)
   clear H h a
   rintro _ w10 a ⟨rfl, h⟩ H
   refine c_nil ?_
   exact e_ret0 H rfl h
  ·replace h := h.2 hb7
   refine c_skip ?_
   exact e_ret0 H rfl h
 clear hx31
 refine c_seq fun K20 hK20 => c_reg <| s_move H rfl rfl (lt_ rfl) fun a H => ?_
 obtain ⟨a21, hq30, h⟩ := h
 subst hq30
 refine s_nil H rfl rfl (lt_ rfl) fun a H => s_fld H rfl rfl fld_117_1 (lt_ rfl) fun a H => ?_
 obtain ⟨l22, hc23, h⟩ := h
 refine s_load (v := (.int .i64 l22)) H rfl rfl one_29 hc23 (lt_ rfl) fun a H => s_bin H rfl rfl rfl r_eql (lt_ rfl) fun a H => s_move H rfl rfl (lt_ rfl) fun a H => g_join (n := 22) [(12, (.bool ((decide (l22 = 0)) && (decide (n2 < 0))))), (0, (.pointer (some a21))), (1, (.int .i64 n2))] (.succ (.succ (.succ (.zero _)))) ?_ ?_
 ·intro hr25
  try clear h
  rcases Bool.eq_false_or_eq_true (decide (l22 = 0)) with hg24 | hg24
  ·replace H := H.ch (t := 9) (b := true) rfl hg24
   refine s_move H (wantG H rfl rfl) rfl (lt_ rfl) fun a H => s_bin H (wantG H rfl rfl) rfl rfl r_lss (lt_ rfl) fun a H => s_pickT H rfl rfl rfl (lt_ rfl) fun a H => ?_
   exact hr25 _ (H.weaken ⟨by rw [hg24]; rfl, rfl, rfl, trivial⟩)
  ·replace H := H.ch (t := 9) (b := false) rfl hg24
   refine s_skip H (wantN H rfl rfl rfl) rfl (lt_ rfl) fun a H => s_skip H (wantN H rfl rfl rfl) rfl (lt_ rfl) fun a H => s_pickF H rfl rfl rfl (lt_ rfl) fun a H => ?_
   exact hr25 _ (H.weaken ⟨by rw [hg24]; rfl, rfl, rfl, trivial⟩)
 ·clear H a
  intro a H
  refine c_nil <| hK20 _ _ <| c_cond H rfl (fun hb26 => ?_) (fun hb26 => ?_)
  ·replace h := h.1 hb26
   refine c_reg <| s_move H rfl rfl (lt_ rfl) fun a H => s_nil H rfl rfl (lt_ rfl) fun a H => s_fld H rfl rfl fld_117_1 (lt_ rfl) fun a H => ?_
   obtain ⟨hs28, hf29, h⟩ := h
   refine s_sto (p := a21.add 1) (v := (.int .i64 33)) H rfl rfl rfl rfl one_29 rfl hs28 hf29 ?_
   clear H
   intro H
   generalize hww27 : World.setCell w (a21.add 1) (.int .i64 33) = w27 at h ⊢
   have w27S : SetAt w (a21.add 1) (.int .i64 33) w27 := ⟨hww27.symm⟩
   clear hww27 hs28 hf29
   refine c_nil ?_
   exact hJ19 _ _ h (H.weaken ⟨rfl, rfl, trivial⟩)
  ·replace h := h.2 hb26
   refine c_skip ?_
   exact hJ19 _ _ h (H.weaken ⟨rfl, rfl, trivial⟩)

set_option maxRecDepth 100000 in
set_option maxHeartbeats 4000000 in
theorem sim_sherdref07_Writer_Data (w1 : Option Addr) (w : World) (Q : Ending → World → Prop) (h : vc_sherdref07_Writer_Data w1 w Q) : Calls PP F_sherdref07_Writer_Data #[(.pointer w1)] w Q := by
 unfold vc_sherdref07_Writer_Data at h
 refine enter (n := 14) (l := [(.pointer w1)]) Tryd.func49 rfl rfl (Nat.le_of_ble_eq_true rfl) fun a H => ?_
 replace H : Has 14 [] a [(0, (.pointer w1))] := H
 refine c_seq fun K2 hK2 => c_reg <| s_assign H rfl rfl (lt_ rfl) fun a H => c_nil <| hK2 _ _ <| c_seq fun K3 hK3 => c_seq fun K4 hK4 => c_reg <| s_move H rfl rfl (lt_ rfl) fun a H => ?_
 obtain ⟨a5, hq19, h⟩ := h
 subst hq19
 refine s_nil H rfl rfl (lt_ rfl) fun a H => s_fld H rfl rfl fld_117_1 (lt_ rfl) fun a H => ?_
 obtain ⟨l6, hc7, h⟩ := h
 refine s_load (v := (.int .i64 l6)) H rfl rfl one_29 hc7 (lt_ rfl) fun a H => s_bin H rfl rfl rfl r_neq (lt_ rfl) fun a H => c_nil <| hK4 _ _ <| c_cond H rfl (fun hb8 => ?_) (fun hb8 => ?_)
 ·replace h := h.1 hb8
  refine c_seq fun K9 hK9 => c_reg <| s_assign H rfl rfl (lt_ rfl) fun a H => c_nil <| hK9 _ _ <| c_ret ?_
  exact e_ret1 H rfl rfl h
 ·replace h := h.2 hb8
  refine c_skip <| hK3 _ _ <| c_seq fun K10 hK10 => c_reg ?_
  replace h := h.get
  obtain ⟨b11, w12, nb13, h⟩ := h
  refine s_bslc H rfl (by rw [H.parts (vs := []) rfl]; exact bs_28_0 w) (lt_ rfl) ?_
  rw [← nb13.at_]
  clear H a
  intro a H
  refine nb13.go <| s_move H rfl rfl (lt_ rfl) fun a H => s_nil H rfl rfl (lt_ rfl) fun a H => s_fld H rfl rfl fld_117_0 (lt_ rfl) fun a H => ?_
  obtain ⟨l14, hc15, h⟩ := h
  refine s_load (v := (Slc.v l14)) H rfl rfl one_28 hc15 (lt_ rfl) fun a H => ?_
  obtain ⟨s16, w17, hq18, h⟩ := h
  refine s_blt H rfl (H.args (vs := [(Slc.v (Slc.mk (some (blk b11)) 0 0)), (Slc.v l14)]) rfl) (lt_ rfl) (fun cs => b_app (z := s16) hq18) ?_
  clear H a hq18
  intro a H
  refine s_assign H rfl rfl (lt_ rfl) fun a H => c_nil <| hK10 _ _ <| c_ret ?_
  exact e_ret1 H rfl rfl h

set_option maxRecDepth 100000 in
set_option maxHeartbeats 4000000 in
theorem sim_sherdref11_Summed (a1 : Slc) (b2 : Slc) (w : World) (Q : Ending → World → Prop) (h : vc_sherdref11_Summed a1 b2 w Q) : Calls PP F_sherdref11_Summed #[(Slc.v a1), (Slc.v b2)] w Q := by
 unfold vc_sherdref11_Summed at h
 refine enter (n := 15) (l := [(Slc.v a1), (Slc.v b2)]) Tryd.func50 rfl rfl (Nat.le_of_ble_eq_true rfl) fun a H => ?_
 replace H : Has 15 [] a [(0, (Slc.v a1)), (1, (Slc.v b2))] := H
 refine c_seq fun K3 hK3 => c_reg <| s_assign H rfl rfl (lt_ rfl) fun a H => c_nil <| hK3 _ _ <| c_seq fun K4 hK4 => c_reg ?_
 replace h := h.get
 obtain ⟨b5, w6, nb7, h⟩ := h
 refine s_bslc H rfl (by rw [H.parts (vs := []) rfl]; exact bs_28_0 w) (lt_ rfl) ?_
 rw [← nb7.at_]
 clear H a
 intro a H
 refine nb7.go <| s_move H rfl rfl (lt_ rfl) fun a H => ?_
 obtain ⟨s8, w9, hq10, h⟩ := h
 refine s_blt H rfl (H.args (vs := [(Slc.v (Slc.mk (some (blk b5)) 0 0)), (Slc.v a1)]) rfl) (lt_ rfl) (fun cs => b_app (z := s8) hq10) ?_
 clear H a hq10
 intro a H
 refine s_move H rfl rfl (lt_ rfl) fun a H => ?_
 obtain ⟨s11, w12, hq13, h⟩ := h
 refine s_blt H rfl (H.args (vs := [(Slc.v s8), (Slc.v b2)]) rfl) (lt_ rfl) (fun cs => b_app (z := s11) hq13) ?_
 clear H a hq13
 intro a H
 refine s_assign H rfl rfl (lt_ rfl) fun a H => c_nil <| hK4 _ _ <| c_seq fun K14 hK14 => c_reg <| s_move H rfl rfl (lt_ rfl) fun a H => ?_
 replace h := h.get
 obtain ⟨b15, w16, nb17, h⟩ := h
 refine s_bslc H rfl (by rw [H.parts (vs := [(0, (Slc.v s11))]) rfl]; exact bs_37_1_s0 w12 s11) (lt_ rfl) ?_
 rw [← nb17.at_]
 clear H a
 intro a H
 refine nb17.go <| s_call H rfl body_75 (H.args (vs := [(Slc.v (Slc.mk (some (blk b15)) 1 1))]) rfl) (lt_ rfl) h ?_ (fun c w' h H => e_panic (P := PP) (fn := Tryd.f50) H h)
 clear H h a
 rintro _ w18 a ⟨Of19, rfl, h⟩ H
 refine s_call H rfl body_74 (H.args (vs := [(.int .u32 Of19)]) rfl) (lt_ rfl) h ?_ (fun c w' h H => e_panic (P := PP) (fn := Tryd.f50) H h)
 clear H h a
 rintro _ w20 a ⟨four21, rfl, h⟩ H
 refine s_assign H rfl rfl (lt_ rfl) fun a H => c_nil <| hK14 _ _ <| c_ret ?_
 exact e_ret1 H rfl rfl h

set_option maxRecDepth 100000 in
set_option maxHeartbeats 4000000 in
theorem sim_quorum_Check (N1 : Int) (K2 : Int) (Delta3 : Int) (w : World) (Q : Ending → World → Prop) (h : vc_quorum_Check N1 K2 Delta3 w Q) : Calls PP F_quorum_Check #[(.agg #[(.int .i64 N1), (.int .i64 K2), (.int .i64 Delta3)])] w Q := by
 unfold vc_quorum_Check at h
 refine enter (n := 28) (l := [(.agg #[(.int .i64 N1), (.int .i64 K2), (.int .i64 Delta3)])]) Tryd.func51 rfl rfl (Nat.le_of_ble_eq_true rfl) fun a H => ?_
 replace H : Has 28 [] a [(0, (.agg #[(.int .i64 N1), (.int .i64 K2), (.int .i64 Delta3)]))] := H
 refine c_seq fun K4 hK4 => c_reg ?_
 replace h := h.get
 obtain ⟨b5, w6, nb7, h⟩ := h
 refine s_box H rfl rfl (lt_ rfl) ?_
 rw [← nb7.at_]
 clear H a
 intro a H
 refine nb7.go <| s_assign H rfl rfl (lt_ rfl) fun a H => c_nil <| hK4 _ _ <| c_seq fun K8 hK8 => c_seq fun K9 hK9 => c_reg <| s_fld H rfl rfl fld_23_1 (lt_ rfl) fun a H => s_load (v := (.int .i64 K2)) H rfl rfl one_3 (nb7.cell (i := 1) rfl) (lt_ rfl) fun a H => s_bin H rfl rfl rfl r_lss (lt_ rfl) fun a H => s_move H rfl rfl (lt_ rfl) fun a H => ?_
 refine g_join (n := 28) [(12, (.bool ((decide (K2 < 1)) || (decide (N1 < K2))))), (1, (.pointer (some (blk b5))))] (.succ (.succ (.succ (.succ (.succ (.succ (.zero _))))))) ?_ ?_
 ·intro hr11
  try clear h
  rcases Bool.eq_false_or_eq_true (decide (K2 < 1)) with hg10 | hg10
  ·replace H := H.ch (t := 6) (b := true) rfl hg10
   iterate 5 refine s_skip H (wantN H rfl rfl rfl) rfl (lt_ rfl) fun a H => ?_
   refine s_pickT H rfl rfl rfl (lt_ rfl) fun a H => ?_
   exact hr11 _ (H.weaken ⟨by rw [hg10]; rfl, rfl, trivial⟩)
  ·replace H := H.ch (t := 6) (b := false) rfl hg10
   refine s_fld H (wantG H rfl rfl) rfl fld_23_1 (lt_ rfl) fun a H => s_load (v := (.int .i64 K2)) H (wantG H rfl rfl) rfl one_3 (nb7.cell (i := 1) rfl) (lt_ rfl) fun a H => s_fld H (wantG H rfl rfl) rfl fld_23_0 (lt_ rfl) fun a H => s_load (v := (.int .i64 N1)) H (wantG H rfl rfl) rfl one_3 (nb7.cell (i := 0) rfl) (lt_ rfl) fun a H => s_bin H (wantG H rfl rfl) rfl rfl r_gtr (lt_ rfl) fun a H => s_pickF H rfl rfl rfl (lt_ rfl) fun a H => ?_
   exact hr11 _ (H.weaken ⟨by rw [hg10]; rfl, rfl, trivial⟩)
 ·clear H a
  intro a H
  refine s_move H rfl rfl (lt_ rfl) fun a H => g_join (n := 28) [(17, (.bool (((decide (K2 < 1)) || (decide (N1 < K2))) || (decide (255 < N1))))), (1, (.pointer (some (blk b5))))] (.succ (.succ (.succ (.succ (.zero _))))) ?_ ?_
  ·intro hr13
   try clear h
   rcases Bool.eq_false_or_eq_true ((decide (K2 < 1)) || (decide (N1 < K2))) with hg12 | hg12
   ·replace H := H.ch (t := 13) (b := true) rfl hg12
    iterate 3 refine s_skip H (wantN H rfl rfl rfl) rfl (lt_ rfl) fun a H => ?_
    refine s_pickT H rfl rfl rfl (lt_ rfl) fun a H => ?_
    exact hr13 _ (H.weaken ⟨by rw [hg12]; rfl, rfl, trivial⟩)
   ·replace H := H.ch (t := 13) (b := false) rfl hg12
    refine s_fld H (wantG H rfl rfl) rfl fld_23_0 (lt_ rfl) fun a H => s_load (v := (.int .i64 N1)) H (wantG H rfl rfl) rfl one_3 (nb7.cell (i := 0) rfl) (lt_ rfl) fun a H => s_bin H (wantG H rfl rfl) rfl rfl r_gtr (lt_ rfl) fun a H => s_pickF H rfl rfl rfl (lt_ rfl) fun a H => ?_
    exact hr13 _ (H.weaken ⟨by rw [hg12]; rfl, rfl, trivial⟩)
  ·clear H a
   intro a H
   refine s_move H rfl rfl (lt_ rfl) fun a H => g_join (n := 28) [(22, (.bool ((((decide (K2 < 1)) || (decide (N1 < K2))) || (decide (255 < N1))) || (decide (Delta3 < 0))))), (1, (.pointer (some (blk b5))))] (.succ (.succ (.succ (.succ (.zero _))))) ?_ ?_
   ·intro hr15
    try clear h
    rcases Bool.eq_false_or_eq_true (((decide (K2 < 1)) || (decide (N1 < K2))) || (decide (255 < N1))) with hg14 | hg14
    ·replace H := H.ch (t := 18) (b := true) rfl hg14
     iterate 3 refine s_skip H (wantN H rfl rfl rfl) rfl (lt_ rfl) fun a H => ?_
     refine s_pickT H rfl rfl rfl (lt_ rfl) fun a H => ?_
     exact hr15 _ (H.weaken ⟨by rw [hg14]; rfl, rfl, trivial⟩)
    ·replace H := H.ch (t := 18) (b := false) rfl hg14
     refine s_fld H (wantG H rfl rfl) rfl fld_23_2 (lt_ rfl) fun a H => s_load (v := (.int .i64 Delta3)) H (wantG H rfl rfl) rfl one_3 (nb7.cell (i := 2) rfl) (lt_ rfl) fun a H => s_bin H (wantG H rfl rfl) rfl rfl r_lss (lt_ rfl) fun a H => s_pickF H rfl rfl rfl (lt_ rfl) fun a H => ?_
     exact hr15 _ (H.weaken ⟨by rw [hg14]; rfl, rfl, trivial⟩)
   ·clear H a
    intro a H
    refine s_move H rfl rfl (lt_ rfl) fun a H => g_join (n := 28) [(27, (.bool (((((decide (K2 < 1)) || (decide (N1 < K2))) || (decide (255 < N1))) || (decide (Delta3 < 0))) || (decide (4611686018427387903 < Delta3)))))] (.succ (.succ (.succ (.succ (.zero _))))) ?_ ?_
    ·intro hr17
     try clear h
     rcases Bool.eq_false_or_eq_true ((((decide (K2 < 1)) || (decide (N1 < K2))) || (decide (255 < N1))) || (decide (Delta3 < 0))) with hg16 | hg16
     ·replace H := H.ch (t := 23) (b := true) rfl hg16
      iterate 3 refine s_skip H (wantN H rfl rfl rfl) rfl (lt_ rfl) fun a H => ?_
      refine s_pickT H rfl rfl rfl (lt_ rfl) fun a H => ?_
      exact hr17 _ (H.weaken ⟨by rw [hg16]; rfl, trivial⟩)
     ·replace H := H.ch (t := 23) (b := false) rfl hg16
      refine s_fld H (wantG H rfl rfl) rfl fld_23_2 (lt_ rfl) fun a H => s_load (v := (.int .i64 Delta3)) H (wantG H rfl rfl) rfl one_3 (nb7.cell (i := 2) rfl) (lt_ rfl) fun a H => s_bin H (wantG H rfl rfl) rfl rfl r_gtr (lt_ rfl) fun a H => s_pickF H rfl rfl rfl (lt_ rfl) fun a H => ?_
      exact hr17 _ (H.weaken ⟨by rw [hg16]; rfl, trivial⟩)
    ·clear H a
     intro a H
     refine c_nil <| hK9 _ _ <| c_cond H rfl (fun hb18 => ?_) (fun hb18 => ?_)
     ·replace h := h.1 hb18
      refine c_seq fun K19 hK19 => c_reg <| s_assign H rfl rfl (lt_ rfl) fun a H => c_nil <| hK19 _ _ <| c_ret ?_
      exact e_ret1 H rfl rfl h
     ·replace h := h.2 hb18
      refine c_skip <| hK8 _ _ <| c_seq fun K20 hK20 => c_reg <| s_assign H rfl rfl (lt_ rfl) fun a H => c_nil <| hK20 _ _ <| c_ret ?_
      exact e_ret1 H rfl rfl h

set_option maxRecDepth 100000 in
set_option maxHeartbeats 4000000 in
theorem sim_pack_Writer_Uint (w1 : Option Addr) (n2 : Int) (w : World) (Q : Ending → World → Prop) (h : vc_pack_Writer_Uint w1 n2 w Q) : Calls PP F_pack_Writer_Uint #[(.pointer w1), (.int .i64 n2)] w Q := by
 unfold vc_pack_Writer_Uint at h
 refine enter (n := 16) (l := [(.pointer w1), (.int .i64 n2)]) Tryd.func52 rfl rfl (Nat.le_of_ble_eq_true rfl) fun a H => ?_
 replace H : Has 16 [] a [(0, (.pointer w1)), (1, (.int .i64 n2))] := H
 refine c_seq fun K3 hK3 => c_seq fun K4 hK4 => c_reg <| s_move H rfl rfl (lt_ rfl) fun a H => s_bin H rfl rfl rfl r_lss (lt_ rfl) fun a H => c_nil <| hK4 _ _ <| c_cond H rfl (fun hb5 => ?_) (fun hb5 => ?_)
 ·replace h := h.1 hb5
  refine c_seq fun K6 hK6 => ?_
  obtain ⟨R7, h, hx19⟩ := h
  have hJ9 : ∀ (a : Act) (w8 : World), R7 w8 → Has 16 [] a [] → K6 a w8 := by
   clear h
   intro a w8 h H
   replace h := hx19 w8 h
   refine hK6 _ _ <| c_ret ?_
   exact e_ret0 H rfl h
  clear hx19
  refine c_seq fun K10 hK10 => c_reg <| s_move H rfl rfl (lt_ rfl) fun a H => s_bin H rfl rfl rfl (r_neP0 ptr_81) (lt_ rfl) fun a H => c_nil <| hK10 _ _ <| c_cond H rfl (fun hb11 => ?_) (fun hb11 => ?_)
  ·replace h := h.1 hb11
   refine c_reg <| s_move H rfl rfl (lt_ rfl) fun a H => ?_
   obtain ⟨a12, hq18, h⟩ := h
   subst hq18
   refine s_nil H rfl rfl (lt_ rfl) fun a H => s_fld H rfl rfl fld_109_0 (lt_ rfl) fun a H => s_call H rfl body_76 (H.args (vs := [(.pointer (some (a12.add 0))), (.int .i64 33)]) rfl) (lt_ rfl) h ?_ (fun c w' h H => e_panic (P := PP) (fn := Tryd.f52) H h)
   clear H h a
   rintro _ w13 a ⟨rfl, h⟩ H
   refine c_nil ?_
   exact hJ9 _ _ h (H.weaken trivial)
  ·replace h := h.2 hb11
   refine c_skip ?_
   exact hJ9 _ _ h (H.weaken trivial)
 ·replace h := h.2 hb5
  refine c_skip <| hK3 _ _ <| c_reg <| s_move H rfl rfl (lt_ rfl) fun a H => s_move H rfl rfl (lt_ rfl) fun a H => s_call H rfl body_77 (H.args (vs := [(.int .i64 n2)]) rfl) (lt_ rfl) h ?_ (fun c w' h H => e_panic (P := PP) (fn := Tryd.f52) H h)
  clear H h a
  rintro _ w20 a ⟨form21, rfl, h⟩ H
  refine s_call H rfl body_67 (H.args (vs := [(.pointer w1), (Slc.v form21)]) rfl) (lt_ rfl) h ?_ (fun c w' h H => e_panic (P := PP) (fn := Tryd.f52) H h)
  clear H h a
  rintro _ w22 a ⟨rfl, h⟩ H
  refine c_nil ?_
  exact e_ret0 H rfl h

set_option maxRecDepth 100000 in
set_option maxHeartbeats 4000000 in
theorem sim_sherdref11_CheckUpdate (Kind1 : Int) (Key2 : ByteArray) (Count3 : Int) (Clien4 : Int) (Fin5 : Bool) (Has6 : Bool) (Data7 : Slc) (w : World) (Q : Ending → World → Prop) (h : vc_sherdref11_CheckUpdate Kind1 Key2 Count3 Clien4 Fin5 Has6 Data7 w Q) : Calls PP F_sherdref11_CheckUpdate #[(.agg #[(.int .i64 Kind1), (.string Key2), (.int .i64 Count3), (.int .i64 Clien4), (.bool Fin5), (.bool Has6), (Slc.v Data7)])] w Q := by
 unfold vc_sherdref11_CheckUpdate at h
 refine enter (n := 70) (l := [(.agg #[(.int .i64 Kind1), (.string Key2), (.int .i64 Count3), (.int .i64 Clien4), (.bool Fin5), (.bool Has6), (Slc.v Data7)])]) Tryd.func53 rfl rfl (Nat.le_of_ble_eq_true rfl) fun a H => ?_
 replace H : Has 70 [] a [(0, (.agg #[(.int .i64 Kind1), (.string Key2), (.int .i64 Count3), (.int .i64 Clien4), (.bool Fin5), (.bool Has6), (Slc.v Data7)]))] := H
 refine c_seq fun K8 hK8 => c_reg ?_
 replace h := h.get
 obtain ⟨b9, w10, nb11, h⟩ := h
 refine s_box H rfl rfl (lt_ rfl) ?_
 rw [← nb11.at_]
 clear H a
 intro a H
 refine nb11.go <| s_assign H rfl rfl (lt_ rfl) fun a H => c_nil <| hK8 _ _ <| c_seq fun K12 hK12 => c_reg <| s_fld H rfl rfl fld_45_2 (lt_ rfl) fun a H => s_loadN (l := [(.int .i64 Count3), (.int .i64 Clien4), (.bool Fin5), (.bool Has6), (Slc.v Data7)]) H rfl rfl agg_43 rfl ⟨(nb11.cell (i := 2) rfl), (nb11.cell (i := 3) rfl), (nb11.cell (i := 4) rfl), (nb11.cell (i := 5) rfl), (nb11.cell (i := 6) rfl), trivial⟩ (lt_ rfl) fun a H => ?_
 replace h := h.get
 obtain ⟨b13, w14, nb15, h⟩ := h
 refine s_alloc H rfl zero_43 (lt_ rfl) ?_
 rw [← nb15.at_]
 clear H a
 intro a H
 refine nb15.go <| s_stoN (l := [(.int .i64 Count3), (.int .i64 Clien4), (.bool Fin5), (.bool Has6), (Slc.v Data7)]) H rfl rfl rfl rfl agg_43 rfl rfl h ?_
 clear h H
 intro w16 h H
 refine c_nil <| hK12 _ _ <| c_seq fun K17 hK17 => c_seq fun K18 hK18 => c_reg <| s_fld H rfl rfl fld_45_0 (lt_ rfl) fun a H => ?_
 obtain ⟨l19, hc20, h⟩ := h
 refine s_load (v := (.int .i64 l19)) H rfl rfl one_3 hc20 (lt_ rfl) fun a H => s_bin H rfl rfl rfl r_neq (lt_ rfl) fun a H => s_move H rfl rfl (lt_ rfl) fun a H => ?_
 obtain ⟨x25, hy26, hn27, h⟩ := h
 refine g_join (n := 70) [(13, (.bool x25)), (1, (.pointer (some (blk b9)))), (3, (.pointer (some (blk b13))))] (.succ (.succ (.succ (.succ (.zero _))))) ?_ ?_
 ·intro hr22
  try clear h
  rcases Bool.eq_false_or_eq_true (decide (l19 ≠ 1)) with hg21 | hg21
  ·replace H := H.ch (t := 9) (b := true) rfl hg21
   replace h := hy26 hg21
   refine s_fld H (wantG H rfl rfl) rfl fld_45_0 (lt_ rfl) fun a H => ?_
   obtain ⟨l23, hc24, h⟩ := h
   refine s_load (v := (.int .i64 l23)) H (wantG H rfl rfl) rfl one_3 hc24 (lt_ rfl) fun a H => s_bin H (wantG H rfl rfl) rfl rfl r_neq (lt_ rfl) fun a H => s_pickT H rfl rfl rfl (lt_ rfl) fun a H => ?_
   subst h
   exact hr22 _ (H.weaken ⟨rfl, rfl, rfl, trivial⟩)
  ·replace H := H.ch (t := 9) (b := false) rfl hg21
   iterate 3 refine s_skip H (wantN H rfl rfl rfl) rfl (lt_ rfl) fun a H => ?_
   refine s_pickF H rfl rfl rfl (lt_ rfl) fun a H => ?_
   replace h := hn27 hg21
   subst h
   exact hr22 _ (H.weaken ⟨rfl, rfl, rfl, trivial⟩)
 ·clear H a
  clear hy26 hn27
  intro a H
  refine s_move H rfl rfl (lt_ rfl) fun a H => ?_
  obtain ⟨x32, hy33, hn34, h⟩ := h
  refine g_join (n := 70) [(18, (.bool x32)), (1, (.pointer (some (blk b9)))), (3, (.pointer (some (blk b13))))] (.succ (.succ (.succ (.succ (.zero _))))) ?_ ?_
  ·intro hr29
   try clear h
   rcases Bool.eq_false_or_eq_true x25 with hg28 | hg28
   ·replace H := H.ch (t := 14) (b := true) rfl hg28
    replace h := hy33 hg28
    refine s_fld H (wantG H rfl rfl) rfl fld_45_0 (lt_ rfl) fun a H => ?_
    obtain ⟨l30, hc31, h⟩ := h
    refine s_load (v := (.int .i64 l30)) H (wantG H rfl rfl) rfl one_3 hc31 (lt_ rfl) fun a H => s_bin H (wantG H rfl rfl) rfl rfl r_neq (lt_ rfl) fun a H => s_pickT H rfl rfl rfl (lt_ rfl) fun a H => ?_
    subst h
    exact hr29 _ (H.weaken ⟨rfl, rfl, rfl, trivial⟩)
   ·replace H := H.ch (t := 14) (b := false) rfl hg28
    iterate 3 refine s_skip H (wantN H rfl rfl rfl) rfl (lt_ rfl) fun a H => ?_
    refine s_pickF H rfl rfl rfl (lt_ rfl) fun a H => ?_
    replace h := hn34 hg28
    subst h
    exact hr29 _ (H.weaken ⟨rfl, rfl, rfl, trivial⟩)
  ·clear H a
   clear hy33 hn34
   intro a H
   refine c_nil <| hK18 _ _ <| c_cond H rfl (fun hb35 => ?_) (fun hb35 => ?_)
   ·replace h := h.1 hb35
    refine c_seq fun K36 hK36 => c_reg <| s_assign H rfl rfl (lt_ rfl) fun a H => c_nil <| hK36 _ _ <| c_ret ?_
    exact e_ret1 H rfl rfl h
   ·replace h := h.2 hb35
    refine c_skip <| hK17 _ _ <| c_seq fun K37 hK37 => c_seq fun K38 hK38 => c_reg <| s_fld H rfl rfl fld_45_1 (lt_ rfl) fun a H => ?_
    obtain ⟨l39, hc40, h⟩ := h
    refine s_load (v := (.string l39)) H rfl rfl one_9 hc40 (lt_ rfl) fun a H => s_blt H rfl (H.args (vs := [(.string l39)]) rfl) (lt_ rfl) (fun cs => b_lenT str_9) fun a H => s_bin H rfl rfl rfl r_lss (lt_ rfl) fun a H => s_move H rfl rfl (lt_ rfl) fun a H => ?_
    obtain ⟨x45, hy46, hn47, h⟩ := h
    refine g_join (n := 70) [(28, (.bool x45)), (1, (.pointer (some (blk b9)))), (3, (.pointer (some (blk b13))))] (.succ (.succ (.succ (.succ (.succ (.zero _)))))) ?_ ?_
    ·intro hr42
     try clear h
     rcases Bool.eq_false_or_eq_true (decide ((l39.size : Int) < 1)) with hg41 | hg41
     ·replace H := H.ch (t := 23) (b := true) rfl hg41
      iterate 4 refine s_skip H (wantN H rfl rfl rfl) rfl (lt_ rfl) fun a H => ?_
      refine s_pickT H rfl rfl rfl (lt_ rfl) fun a H => ?_
      replace h := hn47 hg41
      subst h
      exact hr42 _ (H.weaken ⟨rfl, rfl, rfl, trivial⟩)
     ·replace H := H.ch (t := 23) (b := false) rfl hg41
      replace h := hy46 hg41
      refine s_fld H (wantG H rfl rfl) rfl fld_45_1 (lt_ rfl) fun a H => ?_
      obtain ⟨l43, hc44, h⟩ := h
      refine s_load (v := (.string l43)) H (wantG H rfl rfl) rfl one_9 hc44 (lt_ rfl) fun a H => s_blt H (wantG H rfl rfl) (H.args (vs := [(.string l43)]) rfl) (lt_ rfl) (fun cs => b_lenT str_9) fun a H => s_bin H (wantG H rfl rfl) rfl rfl r_gtr (lt_ rfl) fun a H => s_pickF H rfl rfl rfl (lt_ rfl) fun a H => ?_
      subst h
      exact hr42 _ (H.weaken ⟨rfl, rfl, rfl, trivial⟩)
    ·clear H a
     clear hy46 hn47
     intro a H
     refine c_nil <| hK38 _ _ <| c_cond H rfl (fun hb48 => ?_) (fun hb48 => ?_)
     ·replace h := h.1 hb48
      refine c_seq fun K49 hK49 => c_reg <| s_assign H rfl rfl (lt_ rfl) fun a H => c_nil <| hK49 _ _ <| c_ret ?_
      exact e_ret1 H rfl rfl h
     ·replace h := h.2 hb48
      refine c_skip <| hK37 _ _ <| c_seq fun K50 hK50 => c_seq fun K51 hK51 => c_reg <| s_fld H rfl rfl fld_43_0 (lt_ rfl) fun a H => ?_
      obtain ⟨Count52, hc53, h⟩ := h
      obtain ⟨Clien54, hc55, h⟩ := h
      refine s_loadN (l := [(.int .i64 Count52), (.int .i64 Clien54)]) H rfl rfl agg_41 rfl ⟨hc53, hc55, trivial⟩ (lt_ rfl) fun a H => s_call H rfl body_78 (H.args (vs := [(.agg #[(.int .i64 Count52), (.int .i64 Clien54)])]) rfl) (lt_ rfl) h ?_ (fun c w' h H => e_panic (P := PP) (fn := Tryd.f53) H h)
      clear H h a
      rintro _ w56 a ⟨Valid57, rfl, h⟩ H
      refine s_un H rfl rfl r_not (lt_ rfl) fun a H => s_move H rfl rfl (lt_ rfl) fun a H => ?_
      obtain ⟨x64, hy65, hn66, h⟩ := h
      refine g_join (n := 70) [(38, (.bool x64)), (1, (.pointer (some (blk b9)))), (3, (.pointer (some (blk b13))))] (.succ (.succ (.succ (.succ (.succ (.zero _)))))) ?_ ?_
      ·intro hr59
       try clear h
       rcases Bool.eq_false_or_eq_true (!Valid57) with hg58 | hg58
       ·replace H := H.ch (t := 33) (b := true) rfl hg58
        iterate 4 refine s_skip H (wantN H rfl rfl rfl) rfl (lt_ rfl) fun a H => ?_
        refine s_pickT H rfl rfl rfl (lt_ rfl) fun a H => ?_
        replace h := hn66 hg58
        subst h
        exact hr59 _ (H.weaken ⟨rfl, rfl, rfl, trivial⟩)
       ·replace H := H.ch (t := 33) (b := false) rfl hg58
        replace h := hy65 hg58
        refine s_fld H (wantG H rfl rfl) rfl fld_43_0 (lt_ rfl) fun a H => ?_
        obtain ⟨Count60, hc61, h⟩ := h
        obtain ⟨Clien62, hc63, h⟩ := h
        refine s_loadN (l := [(.int .i64 Count60), (.int .i64 Clien62)]) H (wantG H rfl rfl) rfl agg_41 rfl ⟨hc61, hc63, trivial⟩ (lt_ rfl) fun a H => s_build H (wantG H rfl rfl) (by rw [H.parts (vs := []) rfl]; exact bd_41 w56) (lt_ rfl) fun a H => s_bin H (wantG H rfl rfl) rfl rfl (r_eqst eqg_41 (eqst_41 0) rfl) (lt_ rfl) fun a H => s_pickF H rfl rfl rfl (lt_ rfl) fun a H => ?_
        subst h
        exact hr59 _ (H.weaken ⟨rfl, rfl, rfl, trivial⟩)
      ·clear H a
       clear hy65 hn66
       intro a H
       refine c_nil <| hK51 _ _ <| c_cond H rfl (fun hb67 => ?_) (fun hb67 => ?_)
       ·replace h := h.1 hb67
        refine c_seq fun K68 hK68 => c_reg <| s_assign H rfl rfl (lt_ rfl) fun a H => c_nil <| hK68 _ _ <| c_ret ?_
        exact e_ret1 H rfl rfl h
       ·replace h := h.2 hb67
        refine c_skip <| hK50 _ _ <| c_seq fun K69 hK69 => c_seq fun K70 hK70 => c_reg <| s_fld H rfl rfl fld_45_0 (lt_ rfl) fun a H => ?_
        obtain ⟨l71, hc72, h⟩ := h
        refine s_load (v := (.int .i64 l71)) H rfl rfl one_3 hc72 (lt_ rfl) fun a H => s_bin H rfl rfl rfl r_eql (lt_ rfl) fun a H => s_move H rfl rfl (lt_ rfl) fun a H => ?_
        obtain ⟨x77, hy78, hn79, h⟩ := h
        refine g_join (n := 70) [(46, (.bool x77)), (1, (.pointer (some (blk b9)))), (3, (.pointer (some (blk b13))))] (.succ (.succ (.succ (.succ (.zero _))))) ?_ ?_
        ·intro hr74
         try clear h
         rcases Bool.eq_false_or_eq_true (decide (l71 = 3)) with hg73 | hg73
         ·replace H := H.ch (t := 42) (b := true) rfl hg73
          replace h := hy78 hg73
          refine s_fld H (wantG H rfl rfl) rfl fld_43_1 (lt_ rfl) fun a H => ?_
          obtain ⟨l75, hc76, h⟩ := h
          refine s_load (v := (.bool l75)) H (wantG H rfl rfl) rfl one_4 hc76 (lt_ rfl) fun a H => s_un H (wantG H rfl rfl) rfl r_not (lt_ rfl) fun a H => s_pickT H rfl rfl rfl (lt_ rfl) fun a H => ?_
          subst h
          exact hr74 _ (H.weaken ⟨rfl, rfl, rfl, trivial⟩)
         ·replace H := H.ch (t := 42) (b := false) rfl hg73
          iterate 3 refine s_skip H (wantN H rfl rfl rfl) rfl (lt_ rfl) fun a H => ?_
          refine s_pickF H rfl rfl rfl (lt_ rfl) fun a H => ?_
          replace h := hn79 hg73
          subst h
          exact hr74 _ (H.weaken ⟨rfl, rfl, rfl, trivial⟩)
        ·clear H a
         clear hy78 hn79
         intro a H
         refine s_move H rfl rfl (lt_ rfl) fun a H => ?_
         obtain ⟨x84, hy85, hn86, h⟩ := h
         refine g_join (n := 70) [(51, (.bool x84)), (1, (.pointer (some (blk b9)))), (3, (.pointer (some (blk b13))))] (.succ (.succ (.succ (.succ (.zero _))))) ?_ ?_
         ·intro hr81
          try clear h
          rcases Bool.eq_false_or_eq_true x77 with hg80 | hg80
          ·replace H := H.ch (t := 47) (b := true) rfl hg80
           replace h := hy85 hg80
           refine s_fld H (wantG H rfl rfl) rfl fld_43_2 (lt_ rfl) fun a H => ?_
           obtain ⟨l82, hc83, h⟩ := h
           refine s_load (v := (.bool l82)) H (wantG H rfl rfl) rfl one_4 hc83 (lt_ rfl) fun a H => s_un H (wantG H rfl rfl) rfl r_not (lt_ rfl) fun a H => s_pickT H rfl rfl rfl (lt_ rfl) fun a H => ?_
           subst h
           exact hr81 _ (H.weaken ⟨rfl, rfl, rfl, trivial⟩)
          ·replace H := H.ch (t := 47) (b := false) rfl hg80
           iterate 3 refine s_skip H (wantN H rfl rfl rfl) rfl (lt_ rfl) fun a H => ?_
           refine s_pickF H rfl rfl rfl (lt_ rfl) fun a H => ?_
           replace h := hn86 hg80
           subst h
           exact hr81 _ (H.weaken ⟨rfl, rfl, rfl, trivial⟩)
         ·clear H a
          clear hy85 hn86
          intro a H
          refine c_nil <| hK70 _ _ <| c_cond H rfl (fun hb87 => ?_) (fun hb87 => ?_)
          ·replace h := h.1 hb87
           refine c_seq fun K88 hK88 => c_reg <| s_assign H rfl rfl (lt_ rfl) fun a H => c_nil <| hK88 _ _ <| c_ret ?_
           exact e_ret1 H rfl rfl h
          ·replace h := h.2 hb87
           refine c_skip <| hK69 _ _ <| c_seq fun K89 hK89 => c_seq fun K90 hK90 => c_reg <| s_fld H rfl rfl fld_45_0 (lt_ rfl) fun a H => ?_
           obtain ⟨l91, hc92, h⟩ := h
           refine s_load (v := (.int .i64 l91)) H rfl rfl one_3 hc92 (lt_ rfl) fun a H => s_bin H rfl rfl rfl r_eql (lt_ rfl) fun a H => s_move H rfl rfl (lt_ rfl) fun a H => ?_
           obtain ⟨x104, hy105, hn106, h⟩ := h
           refine g_join (n := 70) [(63, (.bool x104)), (3, (.pointer (some (blk b13))))] (.succ (.succ (.succ (.succ (.succ (.succ (.succ (.succ (.zero _))))))))) ?_ ?_
           ·intro hr94
            try clear h
            rcases Bool.eq_false_or_eq_true (decide (l91 = 1)) with hg93 | hg93
            ·replace H := H.ch (t := 55) (b := true) rfl hg93
             iterate 4 refine s_skip H (wantN H rfl rfl rfl) rfl (lt_ rfl) fun a H => ?_
             refine s_skip H (wantU H rfl rfl) rfl (lt_ rfl) fun a H => s_skip H (wantU H rfl rfl) rfl (lt_ rfl) fun a H => s_skip H (wantN H rfl rfl rfl) rfl (lt_ rfl) fun a H => s_pickT H rfl rfl rfl (lt_ rfl) fun a H => ?_
             replace h := hn106 hg93
             subst h
             exact hr94 _ (H.weaken ⟨rfl, rfl, trivial⟩)
            ·replace H := H.ch (t := 55) (b := false) rfl hg93
             replace h := hy105 hg93
             refine s_fld H (wantG H rfl rfl) rfl fld_45_0 (lt_ rfl) fun a H => ?_
             obtain ⟨l95, hc96, h⟩ := h
             refine s_load (v := (.int .i64 l95)) H (wantG H rfl rfl) rfl one_3 hc96 (lt_ rfl) fun a H => s_bin H (wantG H rfl rfl) rfl rfl r_eql (lt_ rfl) fun a H => s_move H (wantG H rfl rfl) rfl (lt_ rfl) fun a H => ?_
             obtain ⟨x101, hy102, hn103, h⟩ := h
             refine g_join (n := 70) [(62, (.bool x101)), (3, (.pointer (some (blk b13)))), (55, (.bool false))] (.succ (.succ (.succ (.zero _)))) ?_ ?_
             ·intro hr98
              try clear h
              rcases Bool.eq_false_or_eq_true (decide (l95 = 3)) with hg97 | hg97
              ·replace H := H.ch (t := 59) (b := true) rfl hg97
               replace h := hy102 hg97
               refine s_fld H (wantG H rfl rfl) rfl fld_43_2 (lt_ rfl) fun a H => ?_
               obtain ⟨l99, hc100, h⟩ := h
               refine s_load (v := (.bool l99)) H (wantG H rfl rfl) rfl one_4 hc100 (lt_ rfl) fun a H => s_pickT H (wantG H rfl rfl) rfl rfl (lt_ rfl) fun a H => ?_
               subst h
               exact hr98 _ (H.weaken ⟨rfl, rfl, rfl, trivial⟩)
              ·replace H := H.ch (t := 59) (b := false) rfl hg97
               refine s_skip H (wantN H rfl rfl rfl) rfl (lt_ rfl) fun a H => s_skip H (wantN H rfl rfl rfl) rfl (lt_ rfl) fun a H => s_pickF H (wantG H rfl rfl) rfl rfl (lt_ rfl) fun a H => ?_
               replace h := hn103 hg97
               subst h
               exact hr98 _ (H.weaken ⟨rfl, rfl, rfl, trivial⟩)
             ·clear H a
              clear hy102 hn103
              intro a H
              refine s_pickF H rfl rfl rfl (lt_ rfl) fun a H => ?_
              subst h
              exact hr94 _ (H.weaken ⟨rfl, rfl, trivial⟩)
           ·clear H a
            clear hy105 hn106
            intro a H
            refine s_move H rfl rfl (lt_ rfl) fun a H => ?_
            obtain ⟨x111, hy112, hn113, h⟩ := h
            refine g_join (n := 70) [(69, (.bool x111))] (.succ (.succ (.succ (.succ (.succ (.zero _)))))) ?_ ?_
            ·intro hr108
             try clear h
             rcases Bool.eq_false_or_eq_true x104 with hg107 | hg107
             ·replace H := H.ch (t := 64) (b := true) rfl hg107
              replace h := hy112 hg107
              refine s_fld H (wantG H rfl rfl) rfl fld_43_3 (lt_ rfl) fun a H => ?_
              obtain ⟨l109, hc110, h⟩ := h
              refine s_load (v := (Slc.v l109)) H (wantG H rfl rfl) rfl one_28 hc110 (lt_ rfl) fun a H => s_blt H (wantG H rfl rfl) (H.args (vs := [(Slc.v l109)]) rfl) (lt_ rfl) (fun cs => b_lenS (z := l109) sl_28) fun a H => s_bin H (wantG H rfl rfl) rfl rfl r_gtr (lt_ rfl) fun a H => s_pickT H rfl rfl rfl (lt_ rfl) fun a H => ?_
              subst h
              exact hr108 _ (H.weaken ⟨rfl, trivial⟩)
             ·replace H := H.ch (t := 64) (b := false) rfl hg107
              iterate 4 refine s_skip H (wantN H rfl rfl rfl) rfl (lt_ rfl) fun a H => ?_
              refine s_pickF H rfl rfl rfl (lt_ rfl) fun a H => ?_
              replace h := hn113 hg107
              subst h
              exact hr108 _ (H.weaken ⟨rfl, trivial⟩)
            ·clear H a
             clear hy112 hn113
             intro a H
             refine c_nil <| hK90 _ _ <| c_cond H rfl (fun hb114 => ?_) (fun hb114 => ?_)
             ·replace h := h.1 hb114
              refine c_seq fun K115 hK115 => c_reg <| s_assign H rfl rfl (lt_ rfl) fun a H => c_nil <| hK115 _ _ <| c_ret ?_
              exact e_ret1 H rfl rfl h
             ·replace h := h.2 hb114
              refine c_skip <| hK89 _ _ <| c_seq fun K116 hK116 => c_reg <| s_assign H rfl rfl (lt_ rfl) fun a H => c_nil <| hK116 _ _ <| c_ret ?_
              exact e_ret1 H rfl rfl h

set_option maxRecDepth 100000 in
set_option maxHeartbeats 4000000 in
theorem sim_sherdref07_Writer_Bytes (w1 : Option Addr) (b2 : Slc) (w : World) (Q : Ending → World → Prop) (h : vc_sherdref07_Writer_Bytes w1 b2 w Q) : Calls PP F_sherdref07_Writer_Bytes #[(.pointer w1), (Slc.v b2)] w Q := by
 unfold vc_sherdref07_Writer_Bytes at h
 refine enter (n := 11) (l := [(.pointer w1), (Slc.v b2)]) Tryd.func54 rfl rfl (Nat.le_of_ble_eq_true rfl) fun a H => ?_
 replace H : Has 11 [] a [(0, (.pointer w1)), (1, (Slc.v b2))] := H
 refine c_seq fun K3 hK3 => c_reg <| s_move H rfl rfl (lt_ rfl) fun a H => s_move H rfl rfl (lt_ rfl) fun a H => s_blt H rfl (H.args (vs := [(Slc.v b2)]) rfl) (lt_ rfl) (fun cs => b_lenS (z := b2) sl_28) fun a H => s_call H rfl body_48 (H.args (vs := [(.pointer w1), (.int .i64 (b2.l : Int))]) rfl) (lt_ rfl) h ?_ (fun c w' h H => e_panic (P := PP) (fn := Tryd.f54) H h)
 clear H h a
 rintro _ w4 a ⟨rfl, h⟩ H
 refine c_nil <| hK3 _ _ <| c_reg <| s_move H rfl rfl (lt_ rfl) fun a H => s_move H rfl rfl (lt_ rfl) fun a H => s_call H rfl body_72 (H.args (vs := [(.pointer w1), (Slc.v b2)]) rfl) (lt_ rfl) h ?_ (fun c w' h H => e_panic (P := PP) (fn := Tryd.f54) H h)
 clear H h a
 rintro _ w5 a ⟨rfl, h⟩ H
 refine c_nil ?_
 exact e_ret0 H rfl h

set_option maxRecDepth 100000 in
set_option maxHeartbeats 4000000 in
theorem sim_sherdref11_body (Kind1 : Int) (Key2 : ByteArray) (Count3 : Int) (Clien4 : Int) (Fin5 : Bool) (Has6 : Bool) (Data7 : Slc) (w : World) (Q : Ending → World → Prop) (h : vc_sherdref11_body Kind1 Key2 Count3 Clien4 Fin5 Has6 Data7 w Q) : Calls PP F_sherdref11_body #[(.agg #[(.int .i64 Kind1), (.string Key2), (.int .i64 Count3), (.int .i64 Clien4), (.bool Fin5), (.bool Has6), (Slc.v Data7)])] w Q := by
 unfold vc_sherdref11_body at h
 refine enter (n := 56) (l := [(.agg #[(.int .i64 Kind1), (.string Key2), (.int .i64 Count3), (.int .i64 Clien4), (.bool Fin5), (.bool Has6), (Slc.v Data7)])]) Tryd.func55 rfl rfl (Nat.le_of_ble_eq_true rfl) fun a H => ?_
 replace H : Has 56 [] a [(0, (.agg #[(.int .i64 Kind1), (.string Key2), (.int .i64 Count3), (.int .i64 Clien4), (.bool Fin5), (.bool Has6), (Slc.v Data7)]))] := H
 refine c_seq fun K8 hK8 => c_reg ?_
 replace h := h.get
 obtain ⟨b9, w10, nb11, h⟩ := h
 refine s_box H rfl rfl (lt_ rfl) ?_
 rw [← nb11.at_]
 clear H a
 intro a H
 refine nb11.go <| s_assign H rfl rfl (lt_ rfl) fun a H => c_nil <| hK8 _ _ <| c_seq fun K12 hK12 => c_reg <| s_fld H rfl rfl fld_45_2 (lt_ rfl) fun a H => s_loadN (l := [(.int .i64 Count3), (.int .i64 Clien4), (.bool Fin5), (.bool Has6), (Slc.v Data7)]) H rfl rfl agg_43 rfl ⟨(nb11.cell (i := 2) rfl), (nb11.cell (i := 3) rfl), (nb11.cell (i := 4) rfl), (nb11.cell (i := 5) rfl), (nb11.cell (i := 6) rfl), trivial⟩ (lt_ rfl) fun a H => ?_
 replace h := h.get
 obtain ⟨b13, w14, nb15, h⟩ := h
 refine s_alloc H rfl zero_43 (lt_ rfl) ?_
 rw [← nb15.at_]
 clear H a
 intro a H
 refine nb15.go <| s_stoN (l := [(.int .i64 Count3), (.int .i64 Clien4), (.bool Fin5), (.bool Has6), (Slc.v Data7)]) H rfl rfl rfl rfl agg_43 rfl rfl h ?_
 clear h H
 intro w16 h H
 refine c_nil <| hK12 _ _ <| c_seq fun K17 hK17 => c_reg <| s_call H rfl body_46 (H.args (vs := []) rfl) (lt_ rfl) h ?_ (fun c w' h H => e_panic (P := PP) (fn := Tryd.f55) H h)
 clear H h a
 rintro _ w18 a ⟨NewWr19, rfl, h⟩ H
 refine s_assign H rfl rfl (lt_ rfl) fun a H => c_nil <| hK17 _ _ <| c_seq fun K20 hK20 => c_reg <| s_move H rfl rfl (lt_ rfl) fun a H => s_fld H rfl rfl fld_45_0 (lt_ rfl) fun a H => ?_
 obtain ⟨l21, hc22, h⟩ := h
 refine s_load (v := (.int .i64 l21)) H rfl rfl one_3 hc22 (lt_ rfl) fun a H => s_cv H rfl rfl (r_cvI some_3 int_5) (lt_ rfl) fun a H => s_call H rfl body_47 (H.args (vs := [(.pointer NewWr19), (.int .u8 (wr .u8 l21))]) rfl) (lt_ rfl) h ?_ (fun c w' h H => e_panic (P := PP) (fn := Tryd.f55) H h)
 clear H h a
 rintro _ w23 a ⟨rfl, h⟩ H
 refine c_nil <| hK20 _ _ <| c_seq fun K24 hK24 => c_reg <| s_move H rfl rfl (lt_ rfl) fun a H => s_fld H rfl rfl fld_45_1 (lt_ rfl) fun a H => ?_
 obtain ⟨l25, hc26, h⟩ := h
 refine s_load (v := (.string l25)) H rfl rfl one_9 hc26 (lt_ rfl) fun a H => s_call H rfl body_79 (H.args (vs := [(.pointer NewWr19), (.string l25)]) rfl) (lt_ rfl) h ?_ (fun c w' h H => e_panic (P := PP) (fn := Tryd.f55) H h)
 clear H h a
 rintro _ w27 a ⟨rfl, h⟩ H
 refine c_nil <| hK24 _ _ <| c_seq fun K28 hK28 => c_reg <| s_move H rfl rfl (lt_ rfl) fun a H => s_fld H rfl rfl fld_43_0 (lt_ rfl) fun a H => s_fld H rfl rfl fld_41_0 (lt_ rfl) fun a H => ?_
 obtain ⟨l29, hc30, h⟩ := h
 refine s_load (v := (.int .i64 l29)) H rfl rfl one_2 hc30 (lt_ rfl) fun a H => s_call H rfl body_48 (H.args (vs := [(.pointer NewWr19), (.int .i64 l29)]) rfl) (lt_ rfl) h ?_ (fun c w' h H => e_panic (P := PP) (fn := Tryd.f55) H h)
 clear H h a
 rintro _ w31 a ⟨rfl, h⟩ H
 refine c_nil <| hK28 _ _ <| c_seq fun K32 hK32 => c_reg <| s_move H rfl rfl (lt_ rfl) fun a H => s_fld H rfl rfl fld_43_0 (lt_ rfl) fun a H => s_fld H rfl rfl fld_41_1 (lt_ rfl) fun a H => ?_
 obtain ⟨l33, hc34, h⟩ := h
 refine s_load (v := (.int .i64 l33)) H rfl rfl one_3 hc34 (lt_ rfl) fun a H => s_call H rfl body_48 (H.args (vs := [(.pointer NewWr19), (.int .i64 l33)]) rfl) (lt_ rfl) h ?_ (fun c w' h H => e_panic (P := PP) (fn := Tryd.f55) H h)
 clear H h a
 rintro _ w35 a ⟨rfl, h⟩ H
 refine c_nil <| hK32 _ _ <| c_seq fun K36 hK36 => ?_
 obtain ⟨R37, h, hx96⟩ := h
 have hJ76 : ∀ (a : Act) (w38 : World), R37 w38 → Has 56 [] a [(1, (.pointer (some (blk b9)))), (3, (.pointer (some (blk b13)))), (4, (.pointer NewWr19))] → K36 a w38 := by
  clear h
  intro a w38 h H
  replace h := hx96 w38 h
  refine hK36 _ _ <| c_seq fun K39 hK39 => ?_
  obtain ⟨R40, h, hx75⟩ := h
  have hJ49 : ∀ (a : Act) (w41 : World), R40 w41 → Has 56 [] a [(4, (.pointer NewWr19))] → K39 a w41 := by
   clear h
   intro a w41 h H
   replace h := hx75 w41 h
   refine hK39 _ _ <| c_seq fun K42 hK42 => c_reg <| s_move H rfl rfl (lt_ rfl) fun a H => s_call H rfl body_49 (H.args (vs := [(.pointer NewWr19)]) rfl) (lt_ rfl) h ?_ (fun c w' h H => e_panic (P := PP) (fn := Tryd.f55) H h)
   clear H h a
   rintro _ w43 a ⟨Data44, rfl, h⟩ H
   refine s_assign H rfl rfl (lt_ rfl) fun a H => c_nil <| hK42 _ _ <| c_ret ?_
   exact e_ret1 H rfl rfl h
  clear hx75
  refine c_seq fun K50 hK50 => c_reg <| s_fld H rfl rfl fld_45_0 (lt_ rfl) fun a H => ?_
  obtain ⟨l51, hc52, h⟩ := h
  refine s_load (v := (.int .i64 l51)) H rfl rfl one_3 hc52 (lt_ rfl) fun a H => s_bin H rfl rfl rfl r_eql (lt_ rfl) fun a H => s_move H rfl rfl (lt_ rfl) fun a H => ?_
  obtain ⟨x64, hy65, hn66, h⟩ := h
  refine g_join (n := 56) [(49, (.bool x64)), (3, (.pointer (some (blk b13)))), (4, (.pointer NewWr19))] (.succ (.succ (.succ (.succ (.succ (.succ (.succ (.succ (.zero _))))))))) ?_ ?_
  ·intro hr54
   try clear h
   rcases Bool.eq_false_or_eq_true (decide (l51 = 1)) with hg53 | hg53
   ·replace H := H.ch (t := 41) (b := true) rfl hg53
    iterate 4 refine s_skip H (wantN H rfl rfl rfl) rfl (lt_ rfl) fun a H => ?_
    refine s_skip H (wantU H rfl rfl) rfl (lt_ rfl) fun a H => s_skip H (wantU H rfl rfl) rfl (lt_ rfl) fun a H => s_skip H (wantN H rfl rfl rfl) rfl (lt_ rfl) fun a H => s_pickT H rfl rfl rfl (lt_ rfl) fun a H => ?_
    replace h := hn66 hg53
    subst h
    exact hr54 _ (H.weaken ⟨rfl, rfl, rfl, trivial⟩)
   ·replace H := H.ch (t := 41) (b := false) rfl hg53
    replace h := hy65 hg53
    refine s_fld H (wantG H rfl rfl) rfl fld_45_0 (lt_ rfl) fun a H => ?_
    obtain ⟨l55, hc56, h⟩ := h
    refine s_load (v := (.int .i64 l55)) H (wantG H rfl rfl) rfl one_3 hc56 (lt_ rfl) fun a H => s_bin H (wantG H rfl rfl) rfl rfl r_eql (lt_ rfl) fun a H => s_move H (wantG H rfl rfl) rfl (lt_ rfl) fun a H => ?_
    obtain ⟨x61, hy62, hn63, h⟩ := h
    refine g_join (n := 56) [(48, (.bool x61)), (3, (.pointer (some (blk b13)))), (4, (.pointer NewWr19)), (41, (.bool false))] (.succ (.succ (.succ (.zero _)))) ?_ ?_
    ·intro hr58
     try clear h
     rcases Bool.eq_false_or_eq_true (decide (l55 = 3)) with hg57 | hg57
     ·replace H := H.ch (t := 45) (b := true) rfl hg57
      replace h := hy62 hg57
      refine s_fld H (wantG H rfl rfl) rfl fld_43_2 (lt_ rfl) fun a H => ?_
      obtain ⟨l59, hc60, h⟩ := h
      refine s_load (v := (.bool l59)) H (wantG H rfl rfl) rfl one_4 hc60 (lt_ rfl) fun a H => s_pickT H (wantG H rfl rfl) rfl rfl (lt_ rfl) fun a H => ?_
      subst h
      exact hr58 _ (H.weaken ⟨rfl, rfl, rfl, rfl, trivial⟩)
     ·replace H := H.ch (t := 45) (b := false) rfl hg57
      refine s_skip H (wantN H rfl rfl rfl) rfl (lt_ rfl) fun a H => s_skip H (wantN H rfl rfl rfl) rfl (lt_ rfl) fun a H => s_pickF H (wantG H rfl rfl) rfl rfl (lt_ rfl) fun a H => ?_
      replace h := hn63 hg57
      subst h
      exact hr58 _ (H.weaken ⟨rfl, rfl, rfl, rfl, trivial⟩)
    ·clear H a
     clear hy62 hn63
     intro a H
     refine s_pickF H rfl rfl rfl (lt_ rfl) fun a H => ?_
     subst h
     exact hr54 _ (H.weaken ⟨rfl, rfl, rfl, trivial⟩)
  ·clear H a
   clear hy65 hn66
   intro a H
   refine c_nil <| hK50 _ _ <| c_cond H rfl (fun hb67 => ?_) (fun hb67 => ?_)
   ·replace h := h.1 hb67
    refine c_reg <| s_move H rfl rfl (lt_ rfl) fun a H => s_fld H rfl rfl fld_43_3 (lt_ rfl) fun a H => ?_
    obtain ⟨l68, hc69, h⟩ := h
    refine s_load (v := (Slc.v l68)) H rfl rfl one_28 hc69 (lt_ rfl) fun a H => s_call H rfl body_54 (H.args (vs := [(.pointer NewWr19), (Slc.v l68)]) rfl) (lt_ rfl) h ?_ (fun c w' h H => e_panic (P := PP) (fn := Tryd.f55) H h)
    clear H h a
    rintro _ w70 a ⟨rfl, h⟩ H
    refine c_nil ?_
    exact hJ49 _ _ h (H.weaken ⟨rfl, trivial⟩)
   ·replace h := h.2 hb67
    refine c_skip ?_
    exact hJ49 _ _ h (H.weaken ⟨rfl, trivial⟩)
 clear hx96
 refine c_seq fun K77 hK77 => c_reg <| s_fld H rfl rfl fld_45_0 (lt_ rfl) fun a H => ?_
 obtain ⟨l78, hc79, h⟩ := h
 refine s_load (v := (.int .i64 l78)) H rfl rfl one_3 hc79 (lt_ rfl) fun a H => s_bin H rfl rfl rfl r_eql (lt_ rfl) fun a H => c_nil <| hK77 _ _ <| c_cond H rfl (fun hb80 => ?_) (fun hb80 => ?_)
 ·replace h := h.1 hb80
  refine c_seq fun K81 hK81 => c_reg <| s_move H rfl rfl (lt_ rfl) fun a H => s_fld H rfl rfl fld_43_1 (lt_ rfl) fun a H => ?_
  obtain ⟨l82, hc83, h⟩ := h
  refine s_load (v := (.bool l82)) H rfl rfl one_4 hc83 (lt_ rfl) fun a H => s_call H rfl body_80 (H.args (vs := [(.pointer NewWr19), (.bool l82)]) rfl) (lt_ rfl) h ?_ (fun c w' h H => e_panic (P := PP) (fn := Tryd.f55) H h)
  clear H h a
  rintro _ w84 a ⟨rfl, h⟩ H
  refine c_nil <| hK81 _ _ <| c_reg <| s_move H rfl rfl (lt_ rfl) fun a H => s_fld H rfl rfl fld_43_2 (lt_ rfl) fun a H => ?_
  obtain ⟨l85, hc86, h⟩ := h
  refine s_load (v := (.bool l85)) H rfl rfl one_4 hc86 (lt_ rfl) fun a H => s_call H rfl body_80 (H.args (vs := [(.pointer NewWr19), (.bool l85)]) rfl) (lt_ rfl) h ?_ (fun c w' h H => e_panic (P := PP) (fn := Tryd.f55) H h)
  clear H h a
  rintro _ w87 a ⟨rfl, h⟩ H
  refine c_nil ?_
  exact hJ76 _ _ h (H.weaken ⟨rfl, rfl, rfl, trivial⟩)
 ·replace h := h.2 hb80
  refine c_skip ?_
  exact hJ76 _ _ h (H.weaken ⟨rfl, rfl, rfl, trivial⟩)

set_option maxRecDepth 100000 in
set_option maxHeartbeats 4000000 in
theorem sim_pack_NewReader (data1 : Slc) (w : World) (Q : Ending → World → Prop) (h : vc_pack_NewReader data1 w Q) : Calls PP F_pack_NewReader #[(Slc.v data1)] w Q := by
 unfold vc_pack_NewReader at h
 refine enter (n := 7) (l := [(Slc.v data1)]) Tryd.func57 rfl rfl (Nat.le_of_ble_eq_true rfl) fun a H => ?_
 replace H : Has 7 [] a [(0, (Slc.v data1))] := H
 refine c_seq fun K2 hK2 => c_reg <| s_assign H rfl rfl (lt_ rfl) fun a H => c_nil <| hK2 _ _ <| c_seq fun K3 hK3 => c_reg <| s_move H rfl rfl (lt_ rfl) fun a H => s_call H rfl body_25 (H.args (vs := [(Slc.v data1)]) rfl) (lt_ rfl) h ?_ (fun c w' h H => e_panic (P := PP) (fn := Tryd.f57) H h)
 clear H h a
 rintro _ w4 a ⟨Clone5, rfl, h⟩ H
 refine s_build H rfl (by rw [H.parts (vs := [(1, (Slc.v Clone5))]) rfl]; exact bd_121_s1 w4 Clone5) (lt_ rfl) fun a H => ?_
 replace h := h.get
 obtain ⟨b6, w7, nb8, h⟩ := h
 refine s_box H rfl rfl (lt_ rfl) ?_
 rw [← nb8.at_]
 clear H a
 intro a H
 refine nb8.go <| s_assign H rfl rfl (lt_ rfl) fun a H => c_nil <| hK3 _ _ <| c_ret ?_
 exact e_ret1 H rfl rfl h

set_option maxRecDepth 100000 in
set_option maxHeartbeats 4000000 in
theorem sim_pack_Reader_Byte (r1 : Option Addr) (w : World) (Q : Ending → World → Prop) (h : vc_pack_Reader_Byte r1 w Q) : Calls PP F_pack_Reader_Byte #[(.pointer r1)] w Q := by
 unfold vc_pack_Reader_Byte at h
 refine enter (n := 37) (l := [(.pointer r1)]) Tryd.func58 rfl rfl (Nat.le_of_ble_eq_true rfl) fun a H => ?_
 replace H : Has 37 [] a [(0, (.pointer r1))] := H
 refine c_seq fun K2 hK2 => c_reg <| s_assign H rfl rfl (lt_ rfl) fun a H => c_nil <| hK2 _ _ <| c_seq fun K3 hK3 => c_seq fun K4 hK4 => c_reg <| s_move H rfl rfl (lt_ rfl) fun a H => s_call H rfl body_81 (H.args (vs := [(.pointer r1)]) rfl) (lt_ rfl) h ?_ (fun c w' h H => e_panic (P := PP) (fn := Tryd.f58) H h)
 clear H h a
 rintro _ w5 a ⟨stopp6, rfl, h⟩ H
 refine c_nil <| hK4 _ _ <| c_cond H rfl (fun hb7 => ?_) (fun hb7 => ?_)
 ·replace h := h.1 hb7
  refine c_seq fun K8 hK8 => c_reg <| s_assign H rfl rfl (lt_ rfl) fun a H => c_nil <| hK8 _ _ <| c_ret ?_
  exact e_ret1 H rfl rfl h
 ·replace h := h.2 hb7
  refine c_skip <| hK3 _ _ <| c_seq fun K9 hK9 => c_seq fun K10 hK10 => c_regD mixed (by kernel_rfl) <| z_move H rfl rfl (lt_ rfl) fun a H => ?_
  obtain ⟨a12, hq43, h⟩ := h
  subst hq43
  refine z_nil H rfl rfl (lt_ rfl) fun a H => z_fld H rfl rfl fld_121_2 (lt_ rfl) fun a H => ?_
  obtain ⟨l13, hc14, h⟩ := h
  refine z_load (v := (.int .i64 l13)) H rfl rfl one_3 hc14 (lt_ rfl) fun a H => z_move H rfl rfl (lt_ rfl) fun a H => z_nil H rfl rfl (lt_ rfl) fun a H => z_fld H rfl rfl fld_121_1 (lt_ rfl) fun a H => ?_
  obtain ⟨l15, hc16, h⟩ := h
  refine z_load (v := (Slc.v l15)) H rfl rfl one_28 hc16 (lt_ rfl) fun a H => z_blt H rfl (H.args (vs := [(Slc.v l15)]) rfl) (lt_ rfl) (fun cs w => b_lenS (z := l15) sl_28) fun a H => z_bin H rfl rfl rfl r_geq (lt_ rfl) fun a H => wpQuiet_nil ?_
  rintro _ ⟨k11, rfl⟩
  replace h := h k11
  refine hK10 _ _ <| c_cond H rfl (fun hb17 => ?_) (fun hb17 => ?_)
  ·replace h := h.1 hb17
   refine c_seq fun K18 hK18 => c_reg <| s_move H rfl rfl (lt_ rfl) fun a H => s_nil H rfl rfl (lt_ rfl) fun a H => s_fld H rfl rfl fld_121_0 (lt_ rfl) fun a H => s_call H rfl body_76 (H.args (vs := [(.pointer (some (a12.add 0))), (.int .i64 30)]) rfl) (lt_ rfl) h ?_ (fun c w' h H => e_panic (P := PP) (fn := Tryd.f58) H h)
   clear H h a
   rintro _ w19 a ⟨rfl, h⟩ H
   refine c_nil <| hK18 _ _ <| c_seq fun K20 hK20 => c_reg <| s_assign H rfl rfl (lt_ rfl) fun a H => c_nil <| hK20 _ _ <| c_ret ?_
   exact e_ret1 H rfl rfl h
  ·replace h := h.2 hb17
   refine c_skip <| hK9 _ _ <| c_seq fun K25 hK25 => c_reg <| s_move H rfl rfl (lt_ rfl) fun a H => s_nil H rfl rfl (lt_ rfl) fun a H => s_fld H rfl rfl fld_121_2 (lt_ rfl) fun a H => ?_
   obtain ⟨l26, hc27, h⟩ := h
   refine s_load (v := (.int .i64 l26)) H rfl rfl one_3 hc27 (lt_ rfl) fun a H => s_bin H rfl rfl rfl r_add (lt_ rfl) fun a H => s_nil H rfl rfl (lt_ rfl) fun a H => s_fld H rfl rfl fld_121_2 (lt_ rfl) fun a H => ?_
   obtain ⟨hs29, hf30, h⟩ := h
   refine s_sto (p := a12.add 2) (v := (.int .i64 (wr .i64 (l26 + 1)))) H rfl rfl rfl rfl one_3 rfl hs29 hf30 ?_
   clear H
   intro H
   generalize hww28 : World.setCell (w5.drewN k11) (a12.add 2) (.int .i64 (wr .i64 (l26 + 1))) = w28 at h ⊢
   have w28S : SetAt (w5.drewN k11) (a12.add 2) (.int .i64 (wr .i64 (l26 + 1))) w28 := ⟨hww28.symm⟩
   clear hww28 hs29 hf30
   refine c_nil <| hK25 _ _ <| c_seq fun K31 hK31 => c_regD mixed (by kernel_rfl) <| z_move H rfl rfl (lt_ rfl) fun a H => z_nil H rfl rfl (lt_ rfl) fun a H => z_fld H rfl rfl fld_121_1 (lt_ rfl) fun a H => ?_
   obtain ⟨l33, hc34, h⟩ := h
   refine z_load (v := (Slc.v l33)) H rfl rfl one_28 hc34 (lt_ rfl) fun a H => z_move H rfl rfl (lt_ rfl) fun a H => z_nil H rfl rfl (lt_ rfl) fun a H => z_fld H rfl rfl fld_121_2 (lt_ rfl) fun a H => ?_
   obtain ⟨l35, hc36, h⟩ := h
   refine z_load (v := (.int .i64 l35)) H rfl rfl one_3 hc36 (lt_ rfl) fun a H => z_bin H rfl rfl rfl r_sub (lt_ rfl) fun a H => ?_
   obtain ⟨a37, hi38, hi39, hi40, h⟩ := h
   refine z_idxS (s := l33) H rfl rfl rfl slc_28 hi38 hi39 hi40 (lt_ rfl) fun a H => ?_
   obtain ⟨l41, hc42, h⟩ := h
   refine z_load (v := (.int .u8 l41)) H rfl rfl one_5 hc42 (lt_ rfl) fun a H => z_assign H rfl rfl (lt_ rfl) fun a H => wpQuiet_nil ?_
   rintro _ ⟨k32, rfl⟩
   replace h := h k32
   refine hK31 _ _ <| c_ret ?_
   exact e_ret1 H rfl rfl h

set_option maxRecDepth 100000 in
set_option maxHeartbeats 4000000 in
theorem sim_pack_Reader_Uint (r1 : Option Addr) (max2 : Int) (w : World) (Q : Ending → World → Prop) (h : vc_pack_Reader_Uint r1 max2 w Q) : Calls PP F_pack_Reader_Uint #[(.pointer r1), (.int .i64 max2)] w Q := by
 unfold vc_pack_Reader_Uint at h
 refine enter (n := 31) (l := [(.pointer r1), (.int .i64 max2)]) Tryd.func59 rfl rfl (Nat.le_of_ble_eq_true rfl) fun a H => ?_
 replace H : Has 31 [] a [(0, (.pointer r1)), (1, (.int .i64 max2))] := H
 refine c_seq fun K3 hK3 => c_reg <| s_assign H rfl rfl (lt_ rfl) fun a H => c_nil <| hK3 _ _ <| c_seq fun K4 hK4 => c_seq fun K5 hK5 => c_reg <| s_move H rfl rfl (lt_ rfl) fun a H => s_call H rfl body_81 (H.args (vs := [(.pointer r1)]) rfl) (lt_ rfl) h ?_ (fun c w' h H => e_panic (P := PP) (fn := Tryd.f59) H h)
 clear H h a
 rintro _ w6 a ⟨stopp7, rfl, h⟩ H
 refine c_nil <| hK5 _ _ <| c_cond H rfl (fun hb8 => ?_) (fun hb8 => ?_)
 ·replace h := h.1 hb8
  refine c_seq fun K9 hK9 => c_reg <| s_assign H rfl rfl (lt_ rfl) fun a H => c_nil <| hK9 _ _ <| c_ret ?_
  exact e_ret1 H rfl rfl h
 ·replace h := h.2 hb8
  refine c_skip <| hK4 _ _ <| c_seq fun K10 hK10 => c_reg <| s_move H rfl rfl (lt_ rfl) fun a H => s_move H rfl rfl (lt_ rfl) fun a H => s_call H rfl body_82 (H.args (vs := [(.pointer r1), (.int .i64 max2)]) rfl) (lt_ rfl) h ?_ (fun c w' h H => e_panic (P := PP) (fn := Tryd.f59) H h)
  clear H h a
  rintro _ w11 a ⟨numbe12, numbe13, numbe14, rfl, h⟩ H
  refine s_move H rfl rfl (lt_ rfl) fun a H => ?_
  iterate 3 refine s_ext H rfl rfl rfl (lt_ rfl) fun a H => ?_
  iterate 3 refine s_assign H rfl rfl (lt_ rfl) fun a H => ?_
  refine c_nil <| hK10 _ _ <| c_seq fun K15 hK15 => c_reg <| s_move H rfl rfl (lt_ rfl) fun a H => ?_
  obtain ⟨a16, hq29, h⟩ := h
  subst hq29
  refine s_nil H rfl rfl (lt_ rfl) fun a H => s_fld H rfl rfl fld_121_0 (lt_ rfl) fun a H => s_move H rfl rfl (lt_ rfl) fun a H => s_call H rfl body_76 (H.args (vs := [(.pointer (some (a16.add 0))), (.int .i64 numbe14)]) rfl) (lt_ rfl) h ?_ (fun c w' h H => e_panic (P := PP) (fn := Tryd.f59) H h)
  clear H h a
  rintro _ w17 a ⟨rfl, h⟩ H
  refine c_nil <| hK15 _ _ <| c_seq fun K18 hK18 => c_reg <| s_move H rfl rfl (lt_ rfl) fun a H => s_nil H rfl rfl (lt_ rfl) fun a H => s_fld H rfl rfl fld_121_2 (lt_ rfl) fun a H => ?_
  obtain ⟨l19, hc20, h⟩ := h
  refine s_load (v := (.int .i64 l19)) H rfl rfl one_3 hc20 (lt_ rfl) fun a H => s_move H rfl rfl (lt_ rfl) fun a H => s_bin H rfl rfl rfl r_add (lt_ rfl) fun a H => s_nil H rfl rfl (lt_ rfl) fun a H => s_fld H rfl rfl fld_121_2 (lt_ rfl) fun a H => ?_
  obtain ⟨hs22, hf23, h⟩ := h
  refine s_sto (p := a16.add 2) (v := (.int .i64 (wr .i64 (l19 + numbe13)))) H rfl rfl rfl rfl one_3 rfl hs22 hf23 ?_
  clear H
  intro H
  generalize hww21 : World.setCell w17 (a16.add 2) (.int .i64 (wr .i64 (l19 + numbe13))) = w21 at h ⊢
  have w21S : SetAt w17 (a16.add 2) (.int .i64 (wr .i64 (l19 + numbe13))) w21 := ⟨hww21.symm⟩
  clear hww21 hs22 hf23
  refine c_nil <| hK18 _ _ <| c_seq fun K24 hK24 => c_reg <| s_move H rfl rfl (lt_ rfl) fun a H => s_assign H rfl rfl (lt_ rfl) fun a H => c_nil <| hK24 _ _ <| c_ret ?_
  exact e_ret1 H rfl rfl h

set_option maxRecDepth 100000 in
set_option maxHeartbeats 4000000 in
theorem sim_record_must (ok1 : Bool) (reaso2 : Int) (w : World) (Q : Ending → World → Prop) (h : vc_record_must ok1 reaso2 w Q) : Calls PP F_record_must #[(.bool ok1), (.int .i64 reaso2)] w Q := by
 unfold vc_record_must at h
 refine enter (n := 8) (l := [(.bool ok1), (.int .i64 reaso2)]) Tryd.func60 rfl rfl (Nat.le_of_ble_eq_true rfl) fun a H => ?_
 replace H : Has 8 [] a [(0, (.bool ok1)), (1, (.int .i64 reaso2))] := H
 refine c_seq fun K3 hK3 => c_reg <| s_move H rfl rfl (lt_ rfl) fun a H => s_un H rfl rfl r_not (lt_ rfl) fun a H => c_nil <| hK3 _ _ <| c_cond H rfl (fun hb4 => ?_) (fun hb4 => ?_)
 ·replace h := h.1 hb4
  refine c_reg <| s_move H rfl rfl (lt_ rfl) fun a H => s_iface H rfl rfl ni_29 (lt_ rfl) fun a H => ?_
  exact s_panic H rfl rfl (fun H => e_panic (P := PP) (fn := Tryd.f60) H h)
 ·replace h := h.2 hb4
  refine c_skip ?_
  exact e_ret0 H rfl h

set_option maxRecDepth 100000 in
set_option maxHeartbeats 4000000 in
theorem sim_pack_Reader_Err (r1 : Option Addr) (w : World) (Q : Ending → World → Prop) (h : vc_pack_Reader_Err r1 w Q) : Calls PP F_pack_Reader_Err #[(.pointer r1)] w Q := by
 unfold vc_pack_Reader_Err at h
 refine enter (n := 9) (l := [(.pointer r1)]) Tryd.func61 rfl rfl (Nat.le_of_ble_eq_true rfl) fun a H => ?_
 replace H : Has 9 [] a [(0, (.pointer r1))] := H
 refine c_seq fun K2 hK2 => c_reg <| s_assign H rfl rfl (lt_ rfl) fun a H => c_nil <| hK2 _ _ <| c_seq fun K3 hK3 => c_seq fun K4 hK4 => c_reg <| s_move H rfl rfl (lt_ rfl) fun a H => s_bin H rfl rfl rfl (r_eqP0 ptr_97) (lt_ rfl) fun a H => c_nil <| hK4 _ _ <| c_cond H rfl (fun hb5 => ?_) (fun hb5 => ?_)
 ·replace h := h.1 hb5
  refine c_seq fun K6 hK6 => c_reg <| s_assign H rfl rfl (lt_ rfl) fun a H => c_nil <| hK6 _ _ <| c_ret ?_
  exact e_ret1 H rfl rfl h
 ·replace h := h.2 hb5
  refine c_skip <| hK3 _ _ <| c_seq fun K7 hK7 => c_reg <| s_move H rfl rfl (lt_ rfl) fun a H => ?_
  obtain ⟨a8, hq15, h⟩ := h
  subst hq15
  refine s_nil H rfl rfl (lt_ rfl) fun a H => s_fld H rfl rfl fld_121_0 (lt_ rfl) fun a H => s_call H rfl body_83 (H.args (vs := [(.pointer (some (a8.add 0)))]) rfl) (lt_ rfl) h ?_ (fun c w' h H => e_panic (P := PP) (fn := Tryd.f61) H h)
  clear H h a
  rintro _ w9 a ⟨Err10, rfl, h⟩ H
  refine s_assign H rfl rfl (lt_ rfl) fun a H => c_nil <| hK7 _ _ <| c_ret ?_
  exact e_ret1 H rfl rfl h

set_option maxRecDepth 100000 in
set_option maxHeartbeats 4000000 in
theorem sim_slices_Equal (s11 : Slc) (s22 : Slc) (w : World) (Q : Ending → World → Prop) (h : vc_slices_Equal s11 s22 w Q) : Calls PP F_slices_Equal #[(Slc.v s11), (Slc.v s22)] w Q := by
 unfold vc_slices_Equal at h
 refine enter (n := 26) (l := [(Slc.v s11), (Slc.v s22)]) Tryd.func62 rfl rfl (Nat.le_of_ble_eq_true rfl) fun a H => ?_
 replace H : Has 26 [] a [(0, (Slc.v s11)), (1, (Slc.v s22))] := H
 refine c_seq fun K3 hK3 => c_reg <| s_assign H rfl rfl (lt_ rfl) fun a H => c_nil <| hK3 _ _ <| c_seq fun K4 hK4 => c_seq fun K5 hK5 => c_reg <| s_move H rfl rfl (lt_ rfl) fun a H => s_blt H rfl (H.args (vs := [(Slc.v s11)]) rfl) (lt_ rfl) (fun cs => b_lenS (z := s11) sl_28) fun a H => s_move H rfl rfl (lt_ rfl) fun a H => s_blt H rfl (H.args (vs := [(Slc.v s22)]) rfl) (lt_ rfl) (fun cs => b_lenS (z := s22) sl_28) fun a H => s_bin H rfl rfl rfl r_neq (lt_ rfl) fun a H => c_nil ?_
 refine hK5 _ _ <| c_cond H rfl (fun hb6 => ?_) (fun hb6 => ?_)
 ·replace h := h.1 hb6
  refine c_seq fun K7 hK7 => c_reg <| s_assign H rfl rfl (lt_ rfl) fun a H => c_nil <| hK7 _ _ <| c_ret ?_
  exact e_ret1 H rfl rfl h
 ·replace h := h.2 hb6
  refine c_skip <| hK4 _ _ <| c_seq fun K8 hK8 => c_seq fun K9 hK9 => c_reg <| s_move H rfl rfl (lt_ rfl) fun a H => s_blt H rfl (H.args (vs := [(Slc.v s11)]) rfl) (lt_ rfl) (fun cs => b_lenS (z := s11) sl_28) fun a H => s_move H rfl rfl (lt_ rfl) fun a H => c_nil <| hK9 _ _ <| c_block ?_
  obtain ⟨I12, mu13, h036, hl37⟩ := h
  refine c_loop (σ := Int) (fun z w => I12 z w) (fun z w => mu13 z w) (fun z => [(0, (Slc.v s11)), (1, (Slc.v s22)), (12, (.int .i64 (s11.l : Int))), (13, (.int .i64 z))]) 0 h036 (H.weaken ⟨rfl, rfl, rfl, rfl, trivial⟩) ?_
  clear H h036
  rintro s10 a w11 h H
  replace h := hl37 s10 w11 h
  clear hl37
  replace H : Has 26 [] a [(0, (Slc.v s11)), (1, (Slc.v s22)), (12, (.int .i64 (s11.l : Int))), (13, (.int .i64 s10))] := H
  refine c_seq fun K14 hK14 => c_reg <| s_bin H rfl rfl rfl r_lss (lt_ rfl) fun a H => c_nil <| hK14 _ _ <| c_seq fun K15 hK15 => c_cond H rfl (fun hb16 => ?_) (fun hb16 => ?_)
  ·replace h := h.1 hb16
   refine c_skip <| hK15 _ _ <| c_seq fun K17 hK17 => c_block <| c_seq fun K18 hK18 => c_reg <| s_move H rfl rfl (lt_ rfl) fun a H => s_assign H rfl rfl (lt_ rfl) fun a H => c_nil <| hK18 _ _ <| c_seq fun K19 hK19 => c_regD mixed (by kernel_rfl) <| z_move H rfl rfl (lt_ rfl) fun a H => z_move H rfl rfl (lt_ rfl) fun a H => ?_
   obtain ⟨a21, hi22, hi23, hi24, h⟩ := h
   refine z_idxS (s := s11) H rfl rfl rfl slc_28 hi22 hi23 hi24 (lt_ rfl) fun a H => ?_
   obtain ⟨l25, hc26, h⟩ := h
   refine z_load (v := (.int .u8 l25)) H rfl rfl one_5 hc26 (lt_ rfl) fun a H => z_move H rfl rfl (lt_ rfl) fun a H => z_move H rfl rfl (lt_ rfl) fun a H => ?_
   obtain ⟨a27, hi28, hi29, hi30, h⟩ := h
   refine z_idxS (s := s22) H rfl rfl rfl slc_28 hi28 hi29 hi30 (lt_ rfl) fun a H => ?_
   obtain ⟨l31, hc32, h⟩ := h
   refine z_load (v := (.int .u8 l31)) H rfl rfl one_5 hc32 (lt_ rfl) fun a H => z_bin H rfl rfl rfl r_neq (lt_ rfl) fun a H => wpQuiet_nil ?_
   rintro _ ⟨k20, rfl⟩
   replace h := h k20
   refine hK19 _ _ <| c_cond H rfl (fun hb33 => ?_) (fun hb33 => ?_)
   ·replace h := h.1 hb33
    refine c_seq fun K34 hK34 => c_reg <| s_assign H rfl rfl (lt_ rfl) fun a H => c_nil <| hK34 _ _ <| c_ret ?_
    exact e_ret1 H rfl rfl h
   ·replace h := h.2 hb33
    refine c_skip <| hK17 _ _ <| c_reg <| s_bin H rfl rfl rfl r_add (lt_ rfl) fun a H => s_move H rfl rfl (lt_ rfl) fun a H => c_nil <| Exists.intro (wr .i64 (s10 + 1)) ⟨h.1, h.2, H.weaken ⟨rfl, rfl, rfl, rfl, trivial⟩⟩
  ·replace h := h.2 hb16
   refine c_exit ?_
   first | (simp only [Exit.then, Exit.inBlock, ↓reduceIte]; fail_if_success simp only [Nat.reduceEqDiff]) | simp only [Exit.then, Exit.inBlock, ↓reduceIte, Nat.reduceEqDiff]
   refine hK8 _ _ <| c_seq fun K35 hK35 => c_reg <| s_assign H rfl rfl (lt_ rfl) fun a H => c_nil <| hK35 _ _ <| c_ret ?_
   exact e_ret1 H rfl rfl h

set_option maxRecDepth 100000 in
set_option maxHeartbeats 4000000 in
theorem sim_pack_Reader_At (r1 : Option Addr) (w : World) (Q : Ending → World → Prop) (h : vc_pack_Reader_At r1 w Q) : Calls PP F_pack_Reader_At #[(.pointer r1)] w Q := by
 unfold vc_pack_Reader_At at h
 refine enter (n := 9) (l := [(.pointer r1)]) Tryd.func63 rfl rfl (Nat.le_of_ble_eq_true rfl) fun a H => ?_
 replace H : Has 9 [] a [(0, (.pointer r1))] := H
 refine c_seq fun K2 hK2 => c_reg <| s_assign H rfl rfl (lt_ rfl) fun a H => c_nil <| hK2 _ _ <| c_seq fun K3 hK3 => c_seq fun K4 hK4 => c_reg <| s_move H rfl rfl (lt_ rfl) fun a H => s_bin H rfl rfl rfl (r_eqP0 ptr_97) (lt_ rfl) fun a H => c_nil <| hK4 _ _ <| c_cond H rfl (fun hb5 => ?_) (fun hb5 => ?_)
 ·replace h := h.1 hb5
  refine c_seq fun K6 hK6 => c_reg <| s_assign H rfl rfl (lt_ rfl) fun a H => c_nil <| hK6 _ _ <| c_ret ?_
  exact e_ret1 H rfl rfl h
 ·replace h := h.2 hb5
  refine c_skip <| hK3 _ _ <| c_seq fun K7 hK7 => c_reg <| s_move H rfl rfl (lt_ rfl) fun a H => ?_
  obtain ⟨a8, hq11, h⟩ := h
  subst hq11
  refine s_nil H rfl rfl (lt_ rfl) fun a H => s_fld H rfl rfl fld_121_2 (lt_ rfl) fun a H => ?_
  obtain ⟨l9, hc10, h⟩ := h
  refine s_load (v := (.int .i64 l9)) H rfl rfl one_3 hc10 (lt_ rfl) fun a H => s_assign H rfl rfl (lt_ rfl) fun a H => c_nil <| hK7 _ _ <| c_ret ?_
  exact e_ret1 H rfl rfl h

set_option maxRecDepth 100000 in
set_option maxHeartbeats 4000000 in
theorem sim_record_readBody (b1 : Slc) (w : World) (Q : Ending → World → Prop) (h : vc_record_readBody b1 w Q) : Calls PP F_record_readBody #[(Slc.v b1)] w Q := by
 unfold vc_record_readBody at h
 refine enter (n := 58) (l := [(Slc.v b1)]) Tryd.func64 rfl rfl (Nat.le_of_ble_eq_true rfl) fun a H => ?_
 replace H : Has 58 [] a [(0, (Slc.v b1))] := H
 refine c_seq fun K2 hK2 => c_reg ?_
 replace h := h.get
 obtain ⟨b3, w4, nb5, h⟩ := h
 refine s_alloc H rfl zero_45 (lt_ rfl) ?_
 rw [← nb5.at_]
 clear H a
 intro a H
 refine nb5.go <| c_nil <| hK2 _ _ <| c_seq fun K6 hK6 => c_reg <| s_move H rfl rfl (lt_ rfl) fun a H => s_call H rfl body_57 (H.args (vs := [(Slc.v b1)]) rfl) (lt_ rfl) h ?_ (fun c w' h H => e_panic (P := PP) (fn := Tryd.f64) H h)
 clear H h a
 rintro _ w7 a ⟨NewRe8, rfl, h⟩ H
 refine s_assign H rfl rfl (lt_ rfl) fun a H => c_nil <| hK6 _ _ <| c_seq fun K9 hK9 => c_reg <| s_move H rfl rfl (lt_ rfl) fun a H => s_call H rfl body_58 (H.args (vs := [(.pointer NewRe8)]) rfl) (lt_ rfl) h ?_ (fun c w' h H => e_panic (P := PP) (fn := Tryd.f64) H h)
 clear H h a
 rintro _ w10 a ⟨Byte11, rfl, h⟩ H
 refine s_cv H rfl rfl (r_cvI some_5 int_3) (lt_ rfl) fun a H => s_move H rfl rfl (lt_ rfl) fun a H => s_call H rfl body_84 (H.args (vs := [(.pointer NewRe8), (.int .i64 64)]) rfl) (lt_ rfl) h ?_ (fun c w' h H => e_panic (P := PP) (fn := Tryd.f64) H h)
 clear H h a
 rintro _ w12 a ⟨Text13, rfl, h⟩ H
 refine s_build H rfl (by rw [H.parts (vs := [(0, (.int .i64 (wr .i64 Byte11))), (1, (.string Text13))]) rfl]; exact bd_45_ii640_s1 w12 (wr .i64 Byte11) Text13) (lt_ rfl) fun a H => ?_
 replace h := h.get
 obtain ⟨b14, w15, nb16, h⟩ := h
 refine s_alloc H rfl zero_45 (lt_ rfl) ?_
 rw [← nb16.at_]
 clear H a
 intro a H
 refine nb16.go <| s_stoN (l := [(.int .i64 (wr .i64 Byte11)), (.string Text13), (.int .i64 0), (.int .i64 0), (.bool false), (.bool false), (Slc.v Slc.nil)]) H rfl rfl rfl rfl agg_45 rfl rfl h ?_
 clear h H
 intro w17 h H
 refine c_nil <| hK9 _ _ <| c_seq fun K18 hK18 => c_reg <| s_move H rfl rfl (lt_ rfl) fun a H => s_call H rfl body_59 (H.args (vs := [(.pointer NewRe8), (.int .i64 4611686018427387903)]) rfl) (lt_ rfl) h ?_ (fun c w' h H => e_panic (P := PP) (fn := Tryd.f64) H h)
 clear H h a
 rintro _ w19 a ⟨Uint20, rfl, h⟩ H
 refine s_fld H rfl rfl fld_45_2 (lt_ rfl) fun a H => s_fld H rfl rfl fld_43_0 (lt_ rfl) fun a H => s_fld H rfl rfl fld_41_0 (lt_ rfl) fun a H => ?_
 obtain ⟨hs22, hf23, h⟩ := h
 refine s_sto (p := (((blk b14).add 2).add 0).add 0) (v := (.int .i64 Uint20)) H rfl rfl rfl rfl one_2 rfl hs22 hf23 ?_
 clear H
 intro H
 generalize hww21 : World.setCell w19 ((((blk b14).add 2).add 0).add 0) (.int .i64 Uint20) = w21 at h ⊢
 have w21S : SetAt w19 ((((blk b14).add 2).add 0).add 0) (.int .i64 Uint20) w21 := ⟨hww21.symm⟩
 clear hww21 hs22 hf23
 refine c_nil <| hK18 _ _ <| c_seq fun K24 hK24 => c_reg <| s_move H rfl rfl (lt_ rfl) fun a H => s_call H rfl body_59 (H.args (vs := [(.pointer NewRe8), (.int .i64 65535)]) rfl) (lt_ rfl) h ?_ (fun c w' h H => e_panic (P := PP) (fn := Tryd.f64) H h)
 clear H h a
 rintro _ w25 a ⟨Uint26, rfl, h⟩ H
 refine s_fld H rfl rfl fld_45_2 (lt_ rfl) fun a H => s_fld H rfl rfl fld_43_0 (lt_ rfl) fun a H => s_fld H rfl rfl fld_41_1 (lt_ rfl) fun a H => ?_
 obtain ⟨hs28, hf29, h⟩ := h
 refine s_sto (p := (((blk b14).add 2).add 0).add 1) (v := (.int .i64 Uint26)) H rfl rfl rfl rfl one_3 rfl hs28 hf29 ?_
 clear H
 intro H
 generalize hww27 : World.setCell w25 ((((blk b14).add 2).add 0).add 1) (.int .i64 Uint26) = w27 at h ⊢
 have w27S : SetAt w25 ((((blk b14).add 2).add 0).add 1) (.int .i64 Uint26) w27 := ⟨hww27.symm⟩
 clear hww27 hs28 hf29
 refine c_nil <| hK24 _ _ <| c_seq fun K30 hK30 => c_reg <| s_fld H rfl rfl fld_45_0 (lt_ rfl) fun a H => ?_
 obtain ⟨l31, hc32, h⟩ := h
 refine s_load (v := (.int .i64 l31)) H rfl rfl one_3 hc32 (lt_ rfl) fun a H => s_bin H rfl rfl rfl r_eql (lt_ rfl) fun a H => s_assign H rfl rfl (lt_ rfl) fun a H => c_nil <| hK30 _ _ <| c_seq fun K33 hK33 => ?_
 obtain ⟨R35, h, hx154⟩ := h
 have hJ127 : ∀ (a : Act) (has34 : Bool) (w36 : World), R35 has34 w36 → Has 58 [] a [(2, (.pointer (some (blk b3)))), (3, (.pointer NewRe8)), (4, (.pointer (some (blk b14)))), (5, (.bool has34))] → K33 a w36 := by
  clear h
  intro a has34 w36 h H
  replace h := hx154 has34 w36 h
  refine hK33 _ _ <| c_seq fun K37 hK37 => ?_
  obtain ⟨R38, h, hx126⟩ := h
  have hJ114 : ∀ (a : Act) (w39 : World), R38 w39 → Has 58 [] a [(2, (.pointer (some (blk b3)))), (3, (.pointer NewRe8)), (4, (.pointer (some (blk b14))))] → K37 a w39 := by
   clear h
   intro a w39 h H
   replace h := hx126 w39 h
   refine hK37 _ _ <| c_seq fun K40 hK40 => c_reg <| s_move H rfl rfl (lt_ rfl) fun a H => s_call H rfl body_87 (H.args (vs := [(.pointer NewRe8)]) rfl) (lt_ rfl) h ?_ (fun c w' h H => e_panic (P := PP) (fn := Tryd.f64) H h)
   clear H h a
   rintro _ w41 a ⟨rfl, h⟩ H
   refine c_nil <| hK40 _ _ <| c_seq fun K42 hK42 => c_reg <| s_move H rfl rfl (lt_ rfl) fun a H => s_call H rfl body_61 (H.args (vs := [(.pointer NewRe8)]) rfl) (lt_ rfl) h ?_ (fun c w' h H => e_panic (P := PP) (fn := Tryd.f64) H h)
   clear H h a
   rintro _ w43 a ⟨Err44, rfl, h⟩ H
   refine s_bin H rfl rfl rfl r_eql (lt_ rfl) fun a H => s_move H rfl rfl (lt_ rfl) fun a H => ?_
   obtain ⟨R47, h, hx105⟩ := h
   refine g_joinW (n := 58) R47 (fun x48 => [(55, (.bool x48)), (2, (.pointer (some (blk b3)))), (4, (.pointer (some (blk b14))))]) (.succ (.succ (.succ (.succ (.zero _))))) ?_ ?_
   ·intro hr46
    clear hx105
    rcases Bool.eq_false_or_eq_true (decide (Err44 = 0)) with hg45 | hg45
    ·replace H := H.ch (t := 51) (b := true) rfl hg45
     replace h := h.1 hg45
     obtain ⟨Kind50, hc51, h⟩ := h
     obtain ⟨Key52, hc53, h⟩ := h
     obtain ⟨Count54, hc55, h⟩ := h
     obtain ⟨Clien56, hc57, h⟩ := h
     obtain ⟨Fin58, hc59, h⟩ := h
     obtain ⟨Has60, hc61, h⟩ := h
     obtain ⟨Data62, hc63, h⟩ := h
     refine s_loadN (l := [(.int .i64 Kind50), (.string Key52), (.int .i64 Count54), (.int .i64 Clien56), (.bool Fin58), (.bool Has60), (Slc.v Data62)]) H (wantG H rfl rfl) rfl agg_45 rfl ⟨hc51, hc53, hc55, hc57, hc59, hc61, hc63, trivial⟩ (lt_ rfl) fun a H => ?_
     refine s_call H (wantG H rfl rfl) body_36 (H.args (vs := [(.agg #[(.int .i64 Kind50), (.string Key52), (.int .i64 Count54), (.int .i64 Clien56), (.bool Fin58), (.bool Has60), (Slc.v Data62)])]) rfl) (lt_ rfl) h ?_ (fun c w' h H => e_panic (P := PP) (fn := Tryd.f64) H h)
     clear H h a
     rintro _ w64 a ⟨may65, rfl, h⟩ H
     refine s_bin H (wantG H rfl rfl) rfl rfl r_eql (lt_ rfl) fun a H => s_pickT H rfl rfl rfl (lt_ rfl) fun a H => ?_
     exact hr46 _ _ _ h (H.weaken ⟨rfl, rfl, rfl, trivial⟩)
    ·replace H := H.ch (t := 51) (b := false) rfl hg45
     replace h := h.2 hg45
     iterate 3 refine s_skip H (wantN H rfl rfl rfl) rfl (lt_ rfl) fun a H => ?_
     refine s_pickF H rfl rfl rfl (lt_ rfl) fun a H => ?_
     exact hr46 _ _ _ h (H.weaken ⟨rfl, rfl, rfl, trivial⟩)
   ·clear H a h
    intro a x48 w49 h H
    replace h := hx105 x48 w49 h
    clear hx105
    refine s_call H rfl body_60 (H.args (vs := [(.bool x48), (.int .i64 31)]) rfl) (lt_ rfl) h ?_ (fun c w' h H => e_panic (P := PP) (fn := Tryd.f64) H h)
    clear H h a
    rintro _ w70 a ⟨rfl, h⟩ H
    refine c_nil <| hK42 _ _ <| c_seq fun K71 hK71 => c_reg ?_
    obtain ⟨Kind72, hc73, h⟩ := h
    obtain ⟨Key74, hc75, h⟩ := h
    obtain ⟨Count76, hc77, h⟩ := h
    obtain ⟨Clien78, hc79, h⟩ := h
    obtain ⟨Fin80, hc81, h⟩ := h
    obtain ⟨Has82, hc83, h⟩ := h
    obtain ⟨Data84, hc85, h⟩ := h
    refine s_loadN (l := [(.int .i64 Kind72), (.string Key74), (.int .i64 Count76), (.int .i64 Clien78), (.bool Fin80), (.bool Has82), (Slc.v Data84)]) H rfl rfl agg_45 rfl ⟨hc73, hc75, hc77, hc79, hc81, hc83, hc85, trivial⟩ (lt_ rfl) fun a H => s_stoN (l := [(.int .i64 Kind72), (.string Key74), (.int .i64 Count76), (.int .i64 Clien78), (.bool Fin80), (.bool Has82), (Slc.v Data84)]) H rfl rfl rfl rfl agg_45 rfl rfl h ?_
    clear h H
    intro w86 h H
    refine c_nil <| hK71 _ _ <| c_ret ?_
    obtain ⟨Kind87, hc88, h⟩ := h
    obtain ⟨Key89, hc90, h⟩ := h
    obtain ⟨Count91, hc92, h⟩ := h
    obtain ⟨Clien93, hc94, h⟩ := h
    obtain ⟨Fin95, hc96, h⟩ := h
    obtain ⟨Has97, hc98, h⟩ := h
    obtain ⟨Data99, hc100, h⟩ := h
    exact e_ret1 H rfl ⟨_, rfl, run_loadN (l := [(.int .i64 Kind87), (.string Key89), (.int .i64 Count91), (.int .i64 Clien93), (.bool Fin95), (.bool Has97), (Slc.v Data99)]) agg_45 rfl ⟨hc88, hc90, hc92, hc94, hc96, hc98, hc100, trivial⟩⟩ h
  clear hx126
  refine c_seq fun K115 hK115 => c_reg <| s_move H rfl rfl (lt_ rfl) fun a H => c_nil <| hK115 _ _ <| c_cond H rfl (fun hb116 => ?_) (fun hb116 => ?_)
  ·replace h := h.1 hb116
   refine c_reg <| s_move H rfl rfl (lt_ rfl) fun a H => s_call H rfl body_86 (H.args (vs := [(.pointer NewRe8), (.int .i64 65540)]) rfl) (lt_ rfl) h ?_ (fun c w' h H => e_panic (P := PP) (fn := Tryd.f64) H h)
   clear H h a
   rintro _ w117 a ⟨Bytes118, rfl, h⟩ H
   refine s_fld H rfl rfl fld_45_2 (lt_ rfl) fun a H => s_fld H rfl rfl fld_43_3 (lt_ rfl) fun a H => ?_
   obtain ⟨hs120, hf121, h⟩ := h
   refine s_sto (p := ((blk b14).add 2).add 4) (v := (Slc.v Bytes118)) H rfl rfl rfl rfl one_28 rfl hs120 hf121 ?_
   clear H
   intro H
   generalize hww119 : World.setCell w117 (((blk b14).add 2).add 4) (Slc.v Bytes118) = w119 at h ⊢
   have w119S : SetAt w117 (((blk b14).add 2).add 4) (Slc.v Bytes118) w119 := ⟨hww119.symm⟩
   clear hww119 hs120 hf121
   refine c_nil ?_
   exact hJ114 _ _ h (H.weaken ⟨rfl, rfl, rfl, trivial⟩)
  ·replace h := h.2 hb116
   refine c_skip ?_
   exact hJ114 _ _ h (H.weaken ⟨rfl, rfl, rfl, trivial⟩)
 clear hx154
 refine c_seq fun K128 hK128 => c_reg <| s_fld H rfl rfl fld_45_0 (lt_ rfl) fun a H => ?_
 obtain ⟨l129, hc130, h⟩ := h
 refine s_load (v := (.int .i64 l129)) H rfl rfl one_3 hc130 (lt_ rfl) fun a H => s_bin H rfl rfl rfl r_eql (lt_ rfl) fun a H => c_nil <| hK128 _ _ <| c_cond H rfl (fun hb131 => ?_) (fun hb131 => ?_)
 ·replace h := h.1 hb131
  refine c_seq fun K132 hK132 => c_reg <| s_move H rfl rfl (lt_ rfl) fun a H => s_call H rfl body_85 (H.args (vs := [(.pointer NewRe8)]) rfl) (lt_ rfl) h ?_ (fun c w' h H => e_panic (P := PP) (fn := Tryd.f64) H h)
  clear H h a
  rintro _ w133 a ⟨Bool134, rfl, h⟩ H
  refine s_fld H rfl rfl fld_45_2 (lt_ rfl) fun a H => s_fld H rfl rfl fld_43_1 (lt_ rfl) fun a H => ?_
  obtain ⟨hs136, hf137, h⟩ := h
  refine s_sto (p := ((blk b14).add 2).add 2) (v := (.bool Bool134)) H rfl rfl rfl rfl one_4 rfl hs136 hf137 ?_
  clear H
  intro H
  generalize hww135 : World.setCell w133 (((blk b14).add 2).add 2) (.bool Bool134) = w135 at h ⊢
  have w135S : SetAt w133 (((blk b14).add 2).add 2) (.bool Bool134) w135 := ⟨hww135.symm⟩
  clear hww135 hs136 hf137
  refine c_nil <| hK132 _ _ <| c_seq fun K138 hK138 => c_reg <| s_move H rfl rfl (lt_ rfl) fun a H => s_call H rfl body_85 (H.args (vs := [(.pointer NewRe8)]) rfl) (lt_ rfl) h ?_ (fun c w' h H => e_panic (P := PP) (fn := Tryd.f64) H h)
  clear H h a
  rintro _ w139 a ⟨Bool140, rfl, h⟩ H
  refine s_fld H rfl rfl fld_45_2 (lt_ rfl) fun a H => s_fld H rfl rfl fld_43_2 (lt_ rfl) fun a H => ?_
  obtain ⟨hs142, hf143, h⟩ := h
  refine s_sto (p := ((blk b14).add 2).add 3) (v := (.bool Bool140)) H rfl rfl rfl rfl one_4 rfl hs142 hf143 ?_
  clear H
  intro H
  generalize hww141 : World.setCell w139 (((blk b14).add 2).add 3) (.bool Bool140) = w141 at h ⊢
  have w141S : SetAt w139 (((blk b14).add 2).add 3) (.bool Bool140) w141 := ⟨hww141.symm⟩
  clear hww141 hs142 hf143
  refine c_nil <| hK138 _ _ <| c_reg <| s_fld H rfl rfl fld_45_2 (lt_ rfl) fun a H => s_fld H rfl rfl fld_43_2 (lt_ rfl) fun a H => ?_
  obtain ⟨l144, hc145, h⟩ := h
  refine s_load (v := (.bool l144)) H rfl rfl one_4 hc145 (lt_ rfl) fun a H => s_assign H rfl rfl (lt_ rfl) fun a H => c_nil ?_
  exact hJ127 _ _ _ h (H.weaken ⟨rfl, rfl, rfl, rfl, trivial⟩)
 ·replace h := h.2 hb131
  refine c_skip ?_
  exact hJ127 _ _ _ h (H.weaken ⟨rfl, rfl, rfl, rfl, trivial⟩)

set_option maxRecDepth 100000 in
set_option maxHeartbeats 4000000 in
theorem sim_tag_Zero (Count1 : Int) (Clien2 : Int) (w : World) (Q : Ending → World → Prop) (h : vc_tag_Zero Count1 Clien2 w Q) : Calls PP F_tag_Zero #[(.agg #[(.int .i64 Count1), (.int .i64 Clien2)])] w Q := by
 unfold vc_tag_Zero at h
 refine enter (n := 6) (l := [(.agg #[(.int .i64 Count1), (.int .i64 Clien2)])]) Tryd.func65 rfl rfl (Nat.le_of_ble_eq_true rfl) fun a H => ?_
 replace H : Has 6 [] a [(0, (.agg #[(.int .i64 Count1), (.int .i64 Clien2)]))] := H
 refine c_seq fun K3 hK3 => c_reg ?_
 replace h := h.get
 obtain ⟨b4, w5, nb6, h⟩ := h
 refine s_box H rfl rfl (lt_ rfl) ?_
 rw [← nb6.at_]
 clear H a
 intro a H
 refine nb6.go <| s_assign H rfl rfl (lt_ rfl) fun a H => c_nil <| hK3 _ _ <| c_seq fun K7 hK7 => c_reg <| s_loadN (l := [(.int .i64 Count1), (.int .i64 Clien2)]) H rfl rfl agg_41 rfl ⟨(nb6.cell (i := 0) rfl), (nb6.cell (i := 1) rfl), trivial⟩ (lt_ rfl) fun a H => s_build H rfl (by rw [H.parts (vs := []) rfl]; exact bd_41 w5) (lt_ rfl) fun a H => s_bin H rfl rfl rfl (r_eqst eqg_41 (eqst_41 0) rfl) (lt_ rfl) fun a H => s_assign H rfl rfl (lt_ rfl) fun a H => c_nil <| hK7 _ _ <| c_ret ?_
 exact e_ret1 H rfl rfl h

set_option maxRecDepth 100000 in
set_option maxHeartbeats 4000000 in
theorem sim_tag_Valid (Count1 : Int) (Clien2 : Int) (w : World) (Q : Ending → World → Prop) (h : vc_tag_Valid Count1 Clien2 w Q) : Calls PP F_tag_Valid #[(.agg #[(.int .i64 Count1), (.int .i64 Clien2)])] w Q := by
 unfold vc_tag_Valid at h
 refine enter (n := 9) (l := [(.agg #[(.int .i64 Count1), (.int .i64 Clien2)])]) Tryd.func66 rfl rfl (Nat.le_of_ble_eq_true rfl) fun a H => ?_
 replace H : Has 9 [] a [(0, (.agg #[(.int .i64 Count1), (.int .i64 Clien2)]))] := H
 refine c_seq fun K3 hK3 => c_reg ?_
 replace h := h.get
 obtain ⟨b4, w5, nb6, h⟩ := h
 refine s_box H rfl rfl (lt_ rfl) ?_
 rw [← nb6.at_]
 clear H a
 intro a H
 refine nb6.go <| s_assign H rfl rfl (lt_ rfl) fun a H => c_nil <| hK3 _ _ <| c_seq fun K7 hK7 => c_reg <| s_loadN (l := [(.int .i64 Count1), (.int .i64 Clien2)]) H rfl rfl agg_41 rfl ⟨(nb6.cell (i := 0) rfl), (nb6.cell (i := 1) rfl), trivial⟩ (lt_ rfl) fun a H => s_call H rfl body_65 (H.args (vs := [(.agg #[(.int .i64 Count1), (.int .i64 Clien2)])]) rfl) (lt_ rfl) h ?_ (fun c w' h H => e_panic (P := PP) (fn := Tryd.f66) H h)
 clear H h a
 rintro _ w8 a ⟨Zero9, rfl, h⟩ H
 refine s_move H rfl rfl (lt_ rfl) fun a H => ?_
 obtain ⟨R12, h, hx25⟩ := h
 refine g_joinW (n := 9) R12 (fun x13 => [(8, (.bool x13))]) (.succ (.succ (.succ (.zero _)))) ?_ ?_
 ·intro hr11
  clear hx25
  rcases Bool.eq_false_or_eq_true Zero9 with hg10 | hg10
  ·replace H := H.ch (t := 5) (b := true) rfl hg10
   replace h := h.2 hg10
   refine s_skip H (wantN H rfl rfl rfl) rfl (lt_ rfl) fun a H => s_skip H (wantN H rfl rfl rfl) rfl (lt_ rfl) fun a H => s_pickT H rfl rfl rfl (lt_ rfl) fun a H => ?_
   exact hr11 _ _ _ h (H.weaken ⟨rfl, trivial⟩)
  ·replace H := H.ch (t := 5) (b := false) rfl hg10
   replace h := h.1 hg10
   obtain ⟨Count15, hc16, h⟩ := h
   obtain ⟨Clien17, hc18, h⟩ := h
   refine s_loadN (l := [(.int .i64 Count15), (.int .i64 Clien17)]) H (wantG H rfl rfl) rfl agg_41 rfl ⟨hc16, hc18, trivial⟩ (lt_ rfl) fun a H => s_call H (wantG H rfl rfl) body_88 (H.args (vs := [(.agg #[(.int .i64 Count15), (.int .i64 Clien17)])]) rfl) (lt_ rfl) h ?_ (fun c w' h H => e_panic (P := PP) (fn := Tryd.f66) H h)
   clear H h a
   rintro _ w19 a ⟨prope20, rfl, h⟩ H
   refine s_pickF H rfl rfl rfl (lt_ rfl) fun a H => ?_
   exact hr11 _ _ _ h (H.weaken ⟨rfl, trivial⟩)
 ·clear H a h
  intro a x13 w14 h H
  replace h := hx25 x13 w14 h
  clear hx25
  refine s_assign H rfl rfl (lt_ rfl) fun a H => c_nil <| hK7 _ _ <| c_ret ?_
  exact e_ret1 H rfl rfl h

set_option maxRecDepth 100000 in
set_option maxHeartbeats 4000000 in
theorem sim_pack_Writer_put (w1 : Option Addr) (b2 : Slc) (w : World) (Q : Ending → World → Prop) (h : vc_pack_Writer_put w1 b2 w Q) : Calls PP F_pack_Writer_put #[(.pointer w1), (Slc.v b2)] w Q := by
 unfold vc_pack_Writer_put at h
 refine enter (n := 23) (l := [(.pointer w1), (Slc.v b2)]) Tryd.func67 rfl rfl (Nat.le_of_ble_eq_true rfl) fun a H => ?_
 replace H : Has 23 [] a [(0, (.pointer w1)), (1, (Slc.v b2))] := H
 refine c_seq fun K3 hK3 => c_reg <| s_move H rfl rfl (lt_ rfl) fun a H => s_bin H rfl rfl rfl (r_neP0 ptr_81) (lt_ rfl) fun a H => s_move H rfl rfl (lt_ rfl) fun a H => ?_
 obtain ⟨x10, hy11, hn12, h⟩ := h
 refine g_join (n := 23) [(13, (.bool x10)), (0, (.pointer w1)), (1, (Slc.v b2))] (.succ (.succ (.succ (.succ (.succ (.succ (.succ (.zero _)))))))) ?_ ?_
 ·intro hr5
  try clear h
  rcases Bool.eq_false_or_eq_true w1.isSome with hg4 | hg4
  ·replace H := H.ch (t := 6) (b := true) rfl hg4
   replace h := hy11 hg4
   refine s_move H (wantG H rfl rfl) rfl (lt_ rfl) fun a H => ?_
   obtain ⟨a6, hq9, h⟩ := h
   subst hq9
   refine s_nil H (wantG H rfl rfl) rfl (lt_ rfl) fun a H => s_fld H (wantG H rfl rfl) rfl fld_109_0 (lt_ rfl) fun a H => s_fld H (wantG H rfl rfl) rfl fld_107_0 (lt_ rfl) fun a H => ?_
   obtain ⟨l7, hc8, h⟩ := h
   refine s_load (v := (.int .i64 l7)) H (wantG H rfl rfl) rfl one_29 hc8 (lt_ rfl) fun a H => s_bin H (wantG H rfl rfl) rfl rfl r_eql (lt_ rfl) fun a H => s_pickT H rfl rfl rfl (lt_ rfl) fun a H => ?_
   subst h
   exact hr5 _ (H.weaken ⟨rfl, rfl, rfl, trivial⟩)
  ·replace H := H.ch (t := 6) (b := false) rfl hg4
   iterate 6 refine s_skip H (wantN H rfl rfl rfl) rfl (lt_ rfl) fun a H => ?_
   refine s_pickF H rfl rfl rfl (lt_ rfl) fun a H => ?_
   replace h := hn12 hg4
   subst h
   exact hr5 _ (H.weaken ⟨rfl, rfl, rfl, trivial⟩)
 ·clear H a
  clear hy11 hn12
  intro a H
  refine c_nil <| hK3 _ _ <| c_cond H rfl (fun hb13 => ?_) (fun hb13 => ?_)
  ·replace h := h.1 hb13
   refine c_reg <| s_move H rfl rfl (lt_ rfl) fun a H => s_move H rfl rfl (lt_ rfl) fun a H => ?_
   obtain ⟨a14, hq23, h⟩ := h
   subst hq23
   refine s_nil H rfl rfl (lt_ rfl) fun a H => s_fld H rfl rfl fld_109_1 (lt_ rfl) fun a H => ?_
   obtain ⟨l15, hc16, h⟩ := h
   refine s_load (v := (Slc.v l15)) H rfl rfl one_28 hc16 (lt_ rfl) fun a H => s_move H rfl rfl (lt_ rfl) fun a H => ?_
   obtain ⟨s17, w18, hq19, h⟩ := h
   refine s_blt H rfl (H.args (vs := [(Slc.v l15), (Slc.v b2)]) rfl) (lt_ rfl) (fun cs => b_app (z := s17) hq19) ?_
   clear H a hq19
   intro a H
   refine s_nil H rfl rfl (lt_ rfl) fun a H => s_fld H rfl rfl fld_109_1 (lt_ rfl) fun a H => ?_
   obtain ⟨hs21, hf22, h⟩ := h
   refine s_sto (p := a14.add 1) (v := (Slc.v s17)) H rfl rfl rfl rfl one_28 rfl hs21 hf22 ?_
   clear H
   intro H
   generalize hww20 : World.setCell w18 (a14.add 1) (Slc.v s17) = w20 at h ⊢
   have w20S : SetAt w18 (a14.add 1) (Slc.v s17) w20 := ⟨hww20.symm⟩
   clear hww20 hs21 hf22
   refine c_nil ?_
   exact e_ret0 H rfl h
  ·replace h := h.2 hb13
   refine c_skip ?_
   exact e_ret0 H rfl h

set_option maxRecDepth 100000 in
set_option maxHeartbeats 4000000 in
theorem sim_pack_Writer_Text (w1 : Option Addr) (s2 : ByteArray) (w : World) (Q : Ending → World → Prop) (h : vc_pack_Writer_Text w1 s2 w Q) : Calls PP F_pack_Writer_Text #[(.pointer w1), (.string s2)] w Q := by
 unfold vc_pack_Writer_Text at h
 refine enter (n := 8) (l := [(.pointer w1), (.string s2)]) Tryd.func68 rfl rfl (Nat.le_of_ble_eq_true rfl) fun a H => ?_
 replace H : Has 8 [] a [(0, (.pointer w1)), (1, (.string s2))] := H
 refine c_reg <| s_move H rfl rfl (lt_ rfl) fun a H => s_move H rfl rfl (lt_ rfl) fun a H => ?_
 obtain ⟨s3, w5, hq4, h⟩ := h
 refine s_cv H rfl rfl hq4 (lt_ rfl) ?_
 clear H a hq4
 intro a H
 refine s_call H rfl body_39 (H.args (vs := [(.pointer w1), (Slc.v s3)]) rfl) (lt_ rfl) h ?_ (fun c w' h H => e_panic (P := PP) (fn := Tryd.f68) H h)
 clear H h a
 rintro _ w6 a ⟨rfl, h⟩ H
 refine c_nil ?_
 exact e_ret0 H rfl h

set_option maxRecDepth 100000 in
set_option maxHeartbeats 4000000 in
theorem sim_pack_Writer_Bool (w1 : Option Addr) (b2 : Bool) (w : World) (Q : Ending → World → Prop) (h : vc_pack_Writer_Bool w1 b2 w Q) : Calls PP F_pack_Writer_Bool #[(.pointer w1), (.bool b2)] w Q := by
 unfold vc_pack_Writer_Bool at h
 refine enter (n := 11) (l := [(.pointer w1), (.bool b2)]) Tryd.func69 rfl rfl (Nat.le_of_ble_eq_true rfl) fun a H => ?_
 replace H : Has 11 [] a [(0, (.pointer w1)), (1, (.bool b2))] := H
 refine c_seq fun K3 hK3 => c_reg <| s_move H rfl rfl (lt_ rfl) fun a H => c_nil <| hK3 _ _ <| c_cond H rfl (fun hb4 => ?_) (fun hb4 => ?_)
 ·replace h := h.1 hb4
  refine c_reg <| s_move H rfl rfl (lt_ rfl) fun a H => ?_
  replace h := h.get
  obtain ⟨b5, w6, nb7, h⟩ := h
  refine s_bslc H rfl (by rw [H.parts (vs := [(0, (.int .u8 1))]) rfl]; exact bs_28_1_iu80 w 1) (lt_ rfl) ?_
  rw [← nb7.at_]
  clear H a
  intro a H
  refine nb7.go <| s_call H rfl body_67 (H.args (vs := [(.pointer w1), (Slc.v (Slc.mk (some (blk b5)) 1 1))]) rfl) (lt_ rfl) h ?_ (fun c w' h H => e_panic (P := PP) (fn := Tryd.f69) H h)
  clear H h a
  rintro _ w8 a ⟨rfl, h⟩ H
  refine c_nil ?_
  exact e_ret0 H rfl h
 ·replace h := h.2 hb4
  refine c_reg <| s_move H rfl rfl (lt_ rfl) fun a H => ?_
  replace h := h.get
  obtain ⟨b13, w14, nb15, h⟩ := h
  refine s_bslc H rfl (by rw [H.parts (vs := [(0, (.int .u8 0))]) rfl]; exact bs_28_1_iu80 w 0) (lt_ rfl) ?_
  rw [← nb15.at_]
  clear H a
  intro a H
  refine nb15.go <| s_call H rfl body_67 (H.args (vs := [(.pointer w1), (Slc.v (Slc.mk (some (blk b13)) 1 1))]) rfl) (lt_ rfl) h ?_ (fun c w' h H => e_panic (P := PP) (fn := Tryd.f69) H h)
  clear H h a
  rintro _ w16 a ⟨rfl, h⟩ H
  refine c_nil ?_
  exact e_ret0 H rfl h

set_option maxRecDepth 100000 in
set_option maxHeartbeats 4000000 in
theorem sim_sum_step (x1 : Int) (b2 : Int) (w : World) (Q : Ending → World → Prop) (h : vc_sum_step x1 b2 w Q) : Calls PP F_sum_step #[(.int .u32 x1), (.int .u8 b2)] w Q := by
 unfold vc_sum_step at h
 refine enter (n := 23) (l := [(.int .u32 x1), (.int .u8 b2)]) Tryd.func70 rfl rfl (Nat.le_of_ble_eq_true rfl) fun a H => ?_
 replace H : Has 23 [] a [(0, (.int .u32 x1)), (1, (.int .u8 b2))] := H
 refine c_seq fun K3 hK3 => c_reg <| s_assign H rfl rfl (lt_ rfl) fun a H => c_nil <| hK3 _ _ <| c_seq fun K4 hK4 => c_reg <| s_move H rfl rfl (lt_ rfl) fun a H => s_move H rfl rfl (lt_ rfl) fun a H => s_cv H rfl rfl (r_cvI some_5 int_88) (lt_ rfl) fun a H => s_bin H rfl rfl rfl r_xor (lt_ rfl) fun a H => s_assign H rfl rfl (lt_ rfl) fun a H => c_nil <| hK4 _ _ <| c_seq fun K5 hK5 => c_reg <| s_move H rfl rfl (lt_ rfl) fun a H => s_bin H rfl rfl rfl r_and (lt_ rfl) fun a H => ?_
 obtain ⟨hi6, hi7, h⟩ := h
 refine s_idxA H rfl rfl rfl arr_126 hi6 hi7 (lt_ rfl) fun a H => ?_
 obtain ⟨l8, hc9, h⟩ := h
 refine s_load (v := (.int .u32 l8)) H rfl rfl one_88 hc9 (lt_ rfl) fun a H => s_move H rfl rfl (lt_ rfl) fun a H => s_bin H rfl rfl rfl (r_shr (by decide)) (lt_ rfl) fun a H => s_bin H rfl rfl rfl r_xor (lt_ rfl) fun a H => s_assign H rfl rfl (lt_ rfl) fun a H => c_nil <| hK5 _ _ <| c_seq fun K10 hK10 => c_reg <| s_move H rfl rfl (lt_ rfl) fun a H => s_bin H rfl rfl rfl r_and (lt_ rfl) fun a H => ?_
 obtain ⟨hi11, hi12, h⟩ := h
 refine s_idxA H rfl rfl rfl arr_126 hi11 hi12 (lt_ rfl) fun a H => ?_
 obtain ⟨l13, hc14, h⟩ := h
 refine s_load (v := (.int .u32 l13)) H rfl rfl one_88 hc14 (lt_ rfl) fun a H => s_move H rfl rfl (lt_ rfl) fun a H => s_bin H rfl rfl rfl (r_shr (by decide)) (lt_ rfl) fun a H => s_bin H rfl rfl rfl r_xor (lt_ rfl) fun a H => s_assign H rfl rfl (lt_ rfl) fun a H => c_nil <| hK10 _ _ <| c_ret ?_
 exact e_ret1 H rfl rfl h
end Go.Proofs.YtnhgnfflihoaiaaDoor
