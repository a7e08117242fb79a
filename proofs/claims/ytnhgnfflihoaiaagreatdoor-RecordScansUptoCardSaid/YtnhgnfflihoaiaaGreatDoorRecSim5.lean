/-
  The conditions give the machine's calls; printed by vcgen.py.
-/
import Derived.Test.YtnhgnfflihoaiaaGreatDoorRecVc
namespace Go.Proofs.YtnhgnfflihoaiaaGreatDoor
open Go Go.Vc
set_option maxRecDepth 100000
set_option maxHeartbeats 4000000
theorem sim_pack_Reader_Uint (r1 : Option Addr) (m2 : Int) (w : World) (Q : Ending → World → Prop) (h : vc_pack_Reader_Uint r1 m2 w Q) : Calls PP F_pack_Reader_Uint #[(.pointer r1), (.i m2)] w Q := by
 unfold vc_pack_Reader_Uint at h
 refine enter (n := 31) Tryz.func77 rfl rfl (Nat.le_of_ble_eq_true rfl) fun a H => c_seq fun K3 hK3 => c_reg <| s_assign H rfl rfl (lt_ rfl) fun a H => c_nil <| hK3 _ _ <| c_seq fun K4 hK4 => c_seq fun K5 hK5 => c_reg <| s_move H rfl rfl (lt_ rfl) fun a H => s_call H rfl body_93 (H.args (vs := [(.pointer r1)]) rfl) (lt_ rfl) h ?_ (fun c w' h H => e_panic (P := PP) (fn := Tryz.f77) H h)
 clear H h a
 rintro _ w6 a ⟨s7, rfl, h⟩ H
 refine c_nil <| hK5 _ _ <| c_cond H rfl (fun h8 => ?_) (fun h8 => ?_)
 ·replace h := h.1 h8
  refine c_seq fun K9 hK9 => c_reg <| s_assign H rfl rfl (lt_ rfl) fun a H => c_nil <| hK9 _ _ <| c_ret ?_
  exact e_ret1 H rfl rfl h
 ·replace h := h.2 h8
  refine c_skip <| hK4 _ _ <| c_seq fun K10 hK10 => c_reg <| s_move H rfl rfl (lt_ rfl) fun a H => s_move H rfl rfl (lt_ rfl) fun a H => s_call H rfl body_94 (H.args (vs := [(.pointer r1), (.i m2)]) rfl) (lt_ rfl) h ?_ (fun c w' h H => e_panic (P := PP) (fn := Tryz.f77) H h)
  clear H h a
  rintro _ w11 a ⟨n12, n13, n14, rfl, h⟩ H
  refine s_move H rfl rfl (lt_ rfl) fun a H => ?_
  iterate 3 refine s_ext H rfl rfl rfl (lt_ rfl) fun a H => ?_
  iterate 3 refine s_assign H rfl rfl (lt_ rfl) fun a H => ?_
  refine c_nil <| hK10 _ _ <| c_seq fun K15 hK15 => c_reg <| s_move H rfl rfl (lt_ rfl) fun a H => ?_
  obtain ⟨a16, h29, h⟩ := h
  subst h29
  refine s_nil H rfl rfl (lt_ rfl) fun a H => s_fld H rfl rfl fld_135_0 (lt_ rfl) fun a H => s_move H rfl rfl (lt_ rfl) fun a H => s_call H rfl body_36 (H.args (vs := [(.pointer (some (a16.add 0))), (.i n14)]) rfl) (lt_ rfl) h ?_ (fun c w' h H => e_panic (P := PP) (fn := Tryz.f77) H h)
  clear H h a
  rintro _ w17 a ⟨rfl, h⟩ H
  refine c_nil <| hK15 _ _ <| c_seq fun K18 hK18 => c_reg <| s_move H rfl rfl (lt_ rfl) fun a H => s_nil H rfl rfl (lt_ rfl) fun a H => s_fld H rfl rfl fld_135_2 (lt_ rfl) fun a H => ?_
  obtain ⟨l19, hc20, h⟩ := h
  refine s_load (v := (.i l19)) H rfl rfl one_3 hc20 (lt_ rfl) fun a H => s_move H rfl rfl (lt_ rfl) fun a H => s_bin H rfl rfl rfl r_add (lt_ rfl) fun a H => s_nil H rfl rfl (lt_ rfl) fun a H => s_fld H rfl rfl fld_135_2 (lt_ rfl) fun a H => ?_
  obtain ⟨h22, h23, h⟩ := h
  refine s_sto (p := a16.add 2) (v := (.i (wr .i64 (l19 + n13)))) H rfl rfl rfl rfl one_3 rfl h22 h23 ?_
  clear H
  intro H
  generalize hww21 : World.setCell w17 (a16.add 2) (.i (wr .i64 (l19 + n13))) = w21 at h ⊢
  have w21S : SetAt w17 (a16.add 2) (.i (wr .i64 (l19 + n13))) w21 := ⟨hww21.symm⟩
  clear hww21 h22 h23
  refine c_nil <| hK18 _ _ <| c_seq fun K24 hK24 => c_reg <| s_move H rfl rfl (lt_ rfl) fun a H => s_assign H rfl rfl (lt_ rfl) fun a H => c_nil <| hK24 _ _ <| c_ret ?_
  exact e_ret1 H rfl rfl h

theorem sim_record_must (o1 : Bool) (r2 : Int) (w : World) (Q : Ending → World → Prop) (h : vc_record_must o1 r2 w Q) : Calls PP F_record_must #[(.bool o1), (.i r2)] w Q := by
 unfold vc_record_must at h
 refine enter (n := 8) Tryz.func78 rfl rfl (Nat.le_of_ble_eq_true rfl) fun a H => c_seq fun K3 hK3 => c_reg <| s_move H rfl rfl (lt_ rfl) fun a H => s_un H rfl rfl r_not (lt_ rfl) fun a H => c_nil <| hK3 _ _ <| c_cond H rfl (fun h4 => ?_) (fun h4 => ?_)
 ·replace h := h.1 h4
  refine c_reg <| s_move H rfl rfl (lt_ rfl) fun a H => s_iface H rfl rfl ni_30 (lt_ rfl) fun a H => ?_
  exact s_panic H rfl rfl (fun H => e_panic (P := PP) (fn := Tryz.f78) H h)
 ·replace h := h.2 h4
  refine c_skip ?_
  exact e_ret0 H rfl h

theorem sim_pack_Reader_Err (r1 : Option Addr) (w : World) (Q : Ending → World → Prop) (h : vc_pack_Reader_Err r1 w Q) : Calls PP F_pack_Reader_Err #[(.pointer r1)] w Q := by
 unfold vc_pack_Reader_Err at h
 refine enter (n := 9) Tryz.func79 rfl rfl (Nat.le_of_ble_eq_true rfl) fun a H => c_seq fun K2 hK2 => c_reg <| s_assign H rfl rfl (lt_ rfl) fun a H => c_nil <| hK2 _ _ <| c_seq fun K3 hK3 => c_seq fun K4 hK4 => c_reg <| s_move H rfl rfl (lt_ rfl) fun a H => s_bin H rfl rfl rfl (r_eqP0 ptr_123) (lt_ rfl) fun a H => c_nil <| hK4 _ _ <| c_cond H rfl (fun h5 => ?_) (fun h5 => ?_)
 ·replace h := h.1 h5
  refine c_seq fun K6 hK6 => c_reg <| s_assign H rfl rfl (lt_ rfl) fun a H => c_nil <| hK6 _ _ <| c_ret ?_
  exact e_ret1 H rfl rfl h
 ·replace h := h.2 h5
  refine c_skip <| hK3 _ _ <| c_seq fun K7 hK7 => c_reg <| s_move H rfl rfl (lt_ rfl) fun a H => ?_
  obtain ⟨a8, h15, h⟩ := h
  subst h15
  refine s_nil H rfl rfl (lt_ rfl) fun a H => s_fld H rfl rfl fld_135_0 (lt_ rfl) fun a H => s_call H rfl body_95 (H.args (vs := [(.pointer (some (a8.add 0)))]) rfl) (lt_ rfl) h ?_ (fun c w' h H => e_panic (P := PP) (fn := Tryz.f79) H h)
  clear H h a
  rintro _ w9 a ⟨E10, rfl, h⟩ H
  refine s_assign H rfl rfl (lt_ rfl) fun a H => c_nil <| hK7 _ _ <| c_ret ?_
  exact e_ret1 H rfl rfl h

theorem sim_slices_Equal (s1 s2 : Slc) (w : World) (Q : Ending → World → Prop) (h : vc_slices_Equal s1 s2 w Q) : Calls PP F_slices_Equal #[s1.v, s2.v] w Q := by
 unfold vc_slices_Equal at h
 refine enter (n := 26) Tryz.func80 rfl rfl (Nat.le_of_ble_eq_true rfl) fun a H => c_seq fun K3 hK3 => c_reg <| s_assign H rfl rfl (lt_ rfl) fun a H => c_nil <| hK3 _ _ <| c_seq fun K4 hK4 => c_seq fun K5 hK5 => c_reg <| s_move H rfl rfl (lt_ rfl) fun a H => s_blt H rfl (H.args (vs := [s1.v]) rfl) (lt_ rfl) (fun cs => b_lenS (z := s1) sl_22) fun a H => s_move H rfl rfl (lt_ rfl) fun a H => s_blt H rfl (H.args (vs := [s2.v]) rfl) (lt_ rfl) (fun cs => b_lenS (z := s2) sl_22) fun a H => ?_
 refine s_bin H rfl rfl rfl r_neq (lt_ rfl) fun a H => c_nil <| hK5 _ _ <| c_cond H rfl (fun h6 => ?_) (fun h6 => ?_)
 ·replace h := h.1 h6
  refine c_seq fun K7 hK7 => c_reg <| s_assign H rfl rfl (lt_ rfl) fun a H => c_nil <| hK7 _ _ <| c_ret ?_
  exact e_ret1 H rfl rfl h
 ·replace h := h.2 h6
  refine c_skip <| hK4 _ _ <| c_seq fun K8 hK8 => c_seq fun K9 hK9 => c_reg <| s_move H rfl rfl (lt_ rfl) fun a H => s_blt H rfl (H.args (vs := [s1.v]) rfl) (lt_ rfl) (fun cs => b_lenS (z := s1) sl_22) fun a H => s_move H rfl rfl (lt_ rfl) fun a H => c_nil <| hK9 _ _ <| c_block ?_
  obtain ⟨I12, m13, h36, h37⟩ := h
  refine c_loop (σ := Int) (fun z w => I12 z w) (fun z w => m13 z w) (fun z => [(0, s1.v), (1, s2.v), (12, (.i (s1.l : Int))), (13, (.i z))]) 0 h36 (H.weaken ⟨rfl, rfl, rfl, rfl, trivial⟩) ?_
  clear H h36
  rintro s10 a w11 h H
  replace h := h37 s10 w11 h
  clear h37
  replace H : Has 26 [] a [(0, s1.v), (1, s2.v), (12, (.i (s1.l : Int))), (13, (.i s10))] := H
  refine c_seq fun K14 hK14 => c_reg <| s_bin H rfl rfl rfl r_lss (lt_ rfl) fun a H => c_nil <| hK14 _ _ <| c_seq fun K15 hK15 => c_cond H rfl (fun h16 => ?_) (fun h16 => ?_)
  ·replace h := h.1 h16
   refine c_skip <| hK15 _ _ <| c_seq fun K17 hK17 => c_block <| c_seq fun K18 hK18 => c_reg <| s_move H rfl rfl (lt_ rfl) fun a H => s_assign H rfl rfl (lt_ rfl) fun a H => c_nil <| hK18 _ _ <| c_seq fun K19 hK19 => c_regD mixed (by kernel_rfl) <| z_move H rfl rfl (lt_ rfl) fun a H => z_move H rfl rfl (lt_ rfl) fun a H => ?_
   obtain ⟨a21, h22, h23, h24, h⟩ := h
   refine z_idxS (s := s1) H rfl rfl rfl slc_22 h22 h23 h24 (lt_ rfl) fun a H => ?_
   obtain ⟨l25, hc26, h⟩ := h
   refine z_load (v := (.int .u8 l25)) H rfl rfl one_5 hc26 (lt_ rfl) fun a H => z_move H rfl rfl (lt_ rfl) fun a H => z_move H rfl rfl (lt_ rfl) fun a H => ?_
   obtain ⟨a27, h28, h29, h30, h⟩ := h
   refine z_idxS (s := s2) H rfl rfl rfl slc_22 h28 h29 h30 (lt_ rfl) fun a H => ?_
   obtain ⟨l31, hc32, h⟩ := h
   refine z_load (v := (.int .u8 l31)) H rfl rfl one_5 hc32 (lt_ rfl) fun a H => z_bin H rfl rfl rfl r_neq (lt_ rfl) fun a H => wpQuiet_nil ?_
   rintro _ ⟨k20, rfl⟩
   replace h := h k20
   refine hK19 _ _ <| c_cond H rfl (fun h33 => ?_) (fun h33 => ?_)
   ·replace h := h.1 h33
    refine c_seq fun K34 hK34 => c_reg <| s_assign H rfl rfl (lt_ rfl) fun a H => c_nil <| hK34 _ _ <| c_ret ?_
    exact e_ret1 H rfl rfl h
   ·replace h := h.2 h33
    refine c_skip <| hK17 _ _ <| c_reg <| s_bin H rfl rfl rfl r_add (lt_ rfl) fun a H => s_move H rfl rfl (lt_ rfl) fun a H => c_nil <| Exists.intro (wr .i64 (s10 + 1)) ⟨h.1, h.2, H.weaken ⟨rfl, rfl, rfl, rfl, trivial⟩⟩
  ·replace h := h.2 h16
   refine c_exit ?_
   first | (simp only [Exit.then, Exit.inBlock, ↓reduceIte]; fail_if_success simp only [Nat.reduceEqDiff]) | simp only [Exit.then, Exit.inBlock, ↓reduceIte, Nat.reduceEqDiff]
   refine hK8 _ _ <| c_seq fun K35 hK35 => c_reg <| s_assign H rfl rfl (lt_ rfl) fun a H => c_nil <| hK35 _ _ <| c_ret ?_
   exact e_ret1 H rfl rfl h

theorem sim_pack_Reader_At (r1 : Option Addr) (w : World) (Q : Ending → World → Prop) (h : vc_pack_Reader_At r1 w Q) : Calls PP F_pack_Reader_At #[(.pointer r1)] w Q := by
 unfold vc_pack_Reader_At at h
 refine enter (n := 9) Tryz.func81 rfl rfl (Nat.le_of_ble_eq_true rfl) fun a H => c_seq fun K2 hK2 => c_reg <| s_assign H rfl rfl (lt_ rfl) fun a H => c_nil <| hK2 _ _ <| c_seq fun K3 hK3 => c_seq fun K4 hK4 => c_reg <| s_move H rfl rfl (lt_ rfl) fun a H => s_bin H rfl rfl rfl (r_eqP0 ptr_123) (lt_ rfl) fun a H => c_nil <| hK4 _ _ <| c_cond H rfl (fun h5 => ?_) (fun h5 => ?_)
 ·replace h := h.1 h5
  refine c_seq fun K6 hK6 => c_reg <| s_assign H rfl rfl (lt_ rfl) fun a H => c_nil <| hK6 _ _ <| c_ret ?_
  exact e_ret1 H rfl rfl h
 ·replace h := h.2 h5
  refine c_skip <| hK3 _ _ <| c_seq fun K7 hK7 => c_reg <| s_move H rfl rfl (lt_ rfl) fun a H => ?_
  obtain ⟨a8, h11, h⟩ := h
  subst h11
  refine s_nil H rfl rfl (lt_ rfl) fun a H => s_fld H rfl rfl fld_135_2 (lt_ rfl) fun a H => ?_
  obtain ⟨l9, hc10, h⟩ := h
  refine s_load (v := (.i l9)) H rfl rfl one_3 hc10 (lt_ rfl) fun a H => s_assign H rfl rfl (lt_ rfl) fun a H => c_nil <| hK7 _ _ <| c_ret ?_
  exact e_ret1 H rfl rfl h

theorem sim_record_readBody (b1 : Slc) (w : World) (Q : Ending → World → Prop) (h : vc_record_readBody b1 w Q) : Calls PP F_record_readBody #[b1.v] w Q := by
 unfold vc_record_readBody at h
 refine enter (n := 58) Tryz.func82 rfl rfl (Nat.le_of_ble_eq_true rfl) fun a H => c_seq fun K2 hK2 => c_reg ?_
 replace h := h.get
 obtain ⟨b3, w4, n5, h⟩ := h
 refine s_alloc H rfl zero_28 (lt_ rfl) ?_
 rw [← n5.at_]
 clear H a
 intro a H
 refine n5.go <| c_nil <| hK2 _ _ <| c_seq fun K6 hK6 => c_reg <| s_move H rfl rfl (lt_ rfl) fun a H => s_call H rfl body_75 (H.args (vs := [b1.v]) rfl) (lt_ rfl) h ?_ (fun c w' h H => e_panic (P := PP) (fn := Tryz.f82) H h)
 clear H h a
 rintro _ w7 a ⟨N8, rfl, h⟩ H
 refine s_assign H rfl rfl (lt_ rfl) fun a H => c_nil <| hK6 _ _ <| c_seq fun K9 hK9 => c_reg <| s_move H rfl rfl (lt_ rfl) fun a H => s_call H rfl body_76 (H.args (vs := [(.pointer N8)]) rfl) (lt_ rfl) h ?_ (fun c w' h H => e_panic (P := PP) (fn := Tryz.f82) H h)
 clear H h a
 rintro _ w10 a ⟨B11, rfl, h⟩ H
 refine s_cv H rfl rfl (r_cvI some_5 int_3) (lt_ rfl) fun a H => s_move H rfl rfl (lt_ rfl) fun a H => s_call H rfl body_96 (H.args (vs := [(.pointer N8), (.i 64)]) rfl) (lt_ rfl) h ?_ (fun c w' h H => e_panic (P := PP) (fn := Tryz.f82) H h)
 clear H h a
 rintro _ w12 a ⟨T13, rfl, h⟩ H
 refine s_build H rfl (by rw [H.parts (vs := [(0, (.i (wr .i64 B11))), (1, (.string T13))]) rfl]; exact bd_28_ii640_s1 w12 (wr .i64 B11) T13) (lt_ rfl) fun a H => ?_
 replace h := h.get
 obtain ⟨b14, w15, n16, h⟩ := h
 refine s_alloc H rfl zero_28 (lt_ rfl) ?_
 rw [← n16.at_]
 clear H a
 intro a H
 refine n16.go <| s_stoN (l := [(.i (wr .i64 B11)), (.string T13), (.i 0), (.i 0), (.bool false), (.bool false), Slc.nil.v]) H rfl rfl rfl rfl agg_28 rfl rfl h ?_
 clear h H
 intro w17 h H
 refine c_nil <| hK9 _ _ <| c_seq fun K18 hK18 => c_reg <| s_move H rfl rfl (lt_ rfl) fun a H => s_call H rfl body_77 (H.args (vs := [(.pointer N8), (.i 4611686018427387903)]) rfl) (lt_ rfl) h ?_ (fun c w' h H => e_panic (P := PP) (fn := Tryz.f82) H h)
 clear H h a
 rintro _ w19 a ⟨U20, rfl, h⟩ H
 refine s_fld H rfl rfl fld_28_2 (lt_ rfl) fun a H => s_fld H rfl rfl fld_26_0 (lt_ rfl) fun a H => s_fld H rfl rfl fld_24_0 (lt_ rfl) fun a H => ?_
 obtain ⟨h22, h23, h⟩ := h
 refine s_sto (p := (((blk b14).add 2).add 0).add 0) (v := (.i U20)) H rfl rfl rfl rfl one_2 rfl h22 h23 ?_
 clear H
 intro H
 generalize hww21 : World.setCell w19 ((((blk b14).add 2).add 0).add 0) (.i U20) = w21 at h ⊢
 have w21S : SetAt w19 ((((blk b14).add 2).add 0).add 0) (.i U20) w21 := ⟨hww21.symm⟩
 clear hww21 h22 h23
 refine c_nil <| hK18 _ _ <| c_seq fun K24 hK24 => c_reg <| s_move H rfl rfl (lt_ rfl) fun a H => s_call H rfl body_77 (H.args (vs := [(.pointer N8), (.i 65535)]) rfl) (lt_ rfl) h ?_ (fun c w' h H => e_panic (P := PP) (fn := Tryz.f82) H h)
 clear H h a
 rintro _ w25 a ⟨U26, rfl, h⟩ H
 refine s_fld H rfl rfl fld_28_2 (lt_ rfl) fun a H => s_fld H rfl rfl fld_26_0 (lt_ rfl) fun a H => s_fld H rfl rfl fld_24_1 (lt_ rfl) fun a H => ?_
 obtain ⟨h28, h29, h⟩ := h
 refine s_sto (p := (((blk b14).add 2).add 0).add 1) (v := (.i U26)) H rfl rfl rfl rfl one_3 rfl h28 h29 ?_
 clear H
 intro H
 generalize hww27 : World.setCell w25 ((((blk b14).add 2).add 0).add 1) (.i U26) = w27 at h ⊢
 have w27S : SetAt w25 ((((blk b14).add 2).add 0).add 1) (.i U26) w27 := ⟨hww27.symm⟩
 clear hww27 h28 h29
 refine c_nil <| hK24 _ _ <| c_seq fun K30 hK30 => c_reg <| s_fld H rfl rfl fld_28_0 (lt_ rfl) fun a H => ?_
 obtain ⟨l31, hc32, h⟩ := h
 refine s_load (v := (.i l31)) H rfl rfl one_3 hc32 (lt_ rfl) fun a H => s_bin H rfl rfl rfl r_eql (lt_ rfl) fun a H => s_assign H rfl rfl (lt_ rfl) fun a H => c_nil <| hK30 _ _ <| c_seq fun K33 hK33 => ?_
 obtain ⟨R35, h, h154⟩ := h
 have h127 : ∀ (a : Act) (h34 : Bool) (w36 : World), R35 h34 w36 → Has 58 [] a [(2, (.pointer (some (blk b3)))), (3, (.pointer N8)), (4, (.pointer (some (blk b14)))), (5, (.bool h34))] → K33 a w36 := by
  clear h
  intro a h34 w36 h H
  replace h := h154 h34 w36 h
  refine hK33 _ _ <| c_seq fun K37 hK37 => ?_
  obtain ⟨R38, h, h126⟩ := h
  have h114 : ∀ (a : Act) (w39 : World), R38 w39 → Has 58 [] a [(2, (.pointer (some (blk b3)))), (3, (.pointer N8)), (4, (.pointer (some (blk b14))))] → K37 a w39 := by
   clear h
   intro a w39 h H
   replace h := h126 w39 h
   refine hK37 _ _ <| c_seq fun K40 hK40 => c_reg <| s_move H rfl rfl (lt_ rfl) fun a H => s_call H rfl body_99 (H.args (vs := [(.pointer N8)]) rfl) (lt_ rfl) h ?_ (fun c w' h H => e_panic (P := PP) (fn := Tryz.f82) H h)
   clear H h a
   rintro _ w41 a ⟨rfl, h⟩ H
   refine c_nil <| hK40 _ _ <| c_seq fun K42 hK42 => c_reg <| s_move H rfl rfl (lt_ rfl) fun a H => s_call H rfl body_79 (H.args (vs := [(.pointer N8)]) rfl) (lt_ rfl) h ?_ (fun c w' h H => e_panic (P := PP) (fn := Tryz.f82) H h)
   clear H h a
   rintro _ w43 a ⟨E44, rfl, h⟩ H
   refine s_bin H rfl rfl rfl r_eql (lt_ rfl) fun a H => s_move H rfl rfl (lt_ rfl) fun a H => ?_
   obtain ⟨R47, h, h105⟩ := h
   refine g_joinW (n := 58) R47 (fun x48 => [(55, (.bool x48)), (2, (.pointer (some (blk b3)))), (4, (.pointer (some (blk b14))))]) (.succ (.succ (.succ (.succ (.zero _))))) ?_ ?_
   ·intro h46
    clear h105
    rcases Bool.eq_false_or_eq_true (decide (E44 = 0)) with h45 | h45
    ·replace H := H.ch (t := 51) (b := true) rfl h45
     replace h := h.1 h45
     obtain ⟨K50, hc51, K52, hc53, C54, hc55, C56, hc57, F58, hc59, H60, hc61, D62, hc63, h⟩ := h
     refine s_loadN (l := [(.i K50), (.string K52), (.i C54), (.i C56), (.bool F58), (.bool H60), D62.v]) H (wantG H rfl rfl) rfl agg_28 rfl ⟨hc51, hc53, hc55, hc57, hc59, hc61, hc63, trivial⟩ (lt_ rfl) fun a H => s_call H (wantG H rfl rfl) body_62 (H.args (vs := [(.agg #[(.i K50), (.string K52), (.i C54), (.i C56), (.bool F58), (.bool H60), D62.v])]) rfl) (lt_ rfl) h ?_ (fun c w' h H => e_panic (P := PP) (fn := Tryz.f82) H h)
     clear H h a
     rintro _ w64 a ⟨m65, rfl, h⟩ H
     refine s_bin H (wantG H rfl rfl) rfl rfl r_eql (lt_ rfl) fun a H => s_pickT H rfl rfl rfl (lt_ rfl) fun a H => ?_
     exact h46 _ _ _ h (H.weaken ⟨rfl, rfl, rfl, trivial⟩)
    ·replace H := H.ch (t := 51) (b := false) rfl h45
     replace h := h.2 h45
     iterate 3 refine s_skip H (wantN H rfl rfl rfl) rfl (lt_ rfl) fun a H => ?_
     refine s_pickF H rfl rfl rfl (lt_ rfl) fun a H => ?_
     exact h46 _ _ _ h (H.weaken ⟨rfl, rfl, rfl, trivial⟩)
   ·clear H a h
    intro a x48 w49 h H
    replace h := h105 x48 w49 h
    clear h105
    refine s_call H rfl body_78 (H.args (vs := [(.bool x48), (.i 31)]) rfl) (lt_ rfl) h ?_ (fun c w' h H => e_panic (P := PP) (fn := Tryz.f82) H h)
    clear H h a
    rintro _ w70 a ⟨rfl, h⟩ H
    refine c_nil <| hK42 _ _ <| c_seq fun K71 hK71 => c_reg ?_
    obtain ⟨K72, hc73, K74, hc75, C76, hc77, C78, hc79, F80, hc81, H82, hc83, D84, hc85, h⟩ := h
    refine s_loadN (l := [(.i K72), (.string K74), (.i C76), (.i C78), (.bool F80), (.bool H82), D84.v]) H rfl rfl agg_28 rfl ⟨hc73, hc75, hc77, hc79, hc81, hc83, hc85, trivial⟩ (lt_ rfl) fun a H => s_stoN (l := [(.i K72), (.string K74), (.i C76), (.i C78), (.bool F80), (.bool H82), D84.v]) H rfl rfl rfl rfl agg_28 rfl rfl h ?_
    clear h H
    intro w86 h H
    refine c_nil <| hK71 _ _ <| c_ret ?_
    obtain ⟨K87, hc88, K89, hc90, C91, hc92, C93, hc94, F95, hc96, H97, hc98, D99, hc100, h⟩ := h
    exact e_ret1 H rfl ⟨_, rfl, run_loadN (l := [(.i K87), (.string K89), (.i C91), (.i C93), (.bool F95), (.bool H97), D99.v]) agg_28 rfl ⟨hc88, hc90, hc92, hc94, hc96, hc98, hc100, trivial⟩⟩ h
  clear h126
  refine c_seq fun K115 hK115 => c_reg <| s_move H rfl rfl (lt_ rfl) fun a H => c_nil <| hK115 _ _ <| c_cond H rfl (fun h116 => ?_) (fun h116 => ?_)
  ·replace h := h.1 h116
   refine c_reg <| s_move H rfl rfl (lt_ rfl) fun a H => s_call H rfl body_98 (H.args (vs := [(.pointer N8), (.i 65540)]) rfl) (lt_ rfl) h ?_ (fun c w' h H => e_panic (P := PP) (fn := Tryz.f82) H h)
   clear H h a
   rintro _ w117 a ⟨B118, rfl, h⟩ H
   refine s_fld H rfl rfl fld_28_2 (lt_ rfl) fun a H => s_fld H rfl rfl fld_26_3 (lt_ rfl) fun a H => ?_
   obtain ⟨h120, h121, h⟩ := h
   refine s_sto (p := ((blk b14).add 2).add 4) (v := B118.v) H rfl rfl rfl rfl one_22 rfl h120 h121 ?_
   clear H
   intro H
   generalize hww119 : World.setCell w117 (((blk b14).add 2).add 4) B118.v = w119 at h ⊢
   have w119S : SetAt w117 (((blk b14).add 2).add 4) B118.v w119 := ⟨hww119.symm⟩
   clear hww119 h120 h121
   refine c_nil ?_
   exact h114 _ _ h (H.weaken ⟨rfl, rfl, rfl, trivial⟩)
  ·replace h := h.2 h116
   refine c_skip ?_
   exact h114 _ _ h (H.weaken ⟨rfl, rfl, rfl, trivial⟩)
 clear h154
 refine c_seq fun K128 hK128 => c_reg <| s_fld H rfl rfl fld_28_0 (lt_ rfl) fun a H => ?_
 obtain ⟨l129, hc130, h⟩ := h
 refine s_load (v := (.i l129)) H rfl rfl one_3 hc130 (lt_ rfl) fun a H => s_bin H rfl rfl rfl r_eql (lt_ rfl) fun a H => c_nil <| hK128 _ _ <| c_cond H rfl (fun h131 => ?_) (fun h131 => ?_)
 ·replace h := h.1 h131
  refine c_seq fun K132 hK132 => c_reg <| s_move H rfl rfl (lt_ rfl) fun a H => s_call H rfl body_97 (H.args (vs := [(.pointer N8)]) rfl) (lt_ rfl) h ?_ (fun c w' h H => e_panic (P := PP) (fn := Tryz.f82) H h)
  clear H h a
  rintro _ w133 a ⟨B134, rfl, h⟩ H
  refine s_fld H rfl rfl fld_28_2 (lt_ rfl) fun a H => s_fld H rfl rfl fld_26_1 (lt_ rfl) fun a H => ?_
  obtain ⟨h136, h137, h⟩ := h
  refine s_sto (p := ((blk b14).add 2).add 2) (v := (.bool B134)) H rfl rfl rfl rfl one_4 rfl h136 h137 ?_
  clear H
  intro H
  generalize hww135 : World.setCell w133 (((blk b14).add 2).add 2) (.bool B134) = w135 at h ⊢
  have w135S : SetAt w133 (((blk b14).add 2).add 2) (.bool B134) w135 := ⟨hww135.symm⟩
  clear hww135 h136 h137
  refine c_nil <| hK132 _ _ <| c_seq fun K138 hK138 => c_reg <| s_move H rfl rfl (lt_ rfl) fun a H => s_call H rfl body_97 (H.args (vs := [(.pointer N8)]) rfl) (lt_ rfl) h ?_ (fun c w' h H => e_panic (P := PP) (fn := Tryz.f82) H h)
  clear H h a
  rintro _ w139 a ⟨B140, rfl, h⟩ H
  refine s_fld H rfl rfl fld_28_2 (lt_ rfl) fun a H => s_fld H rfl rfl fld_26_2 (lt_ rfl) fun a H => ?_
  obtain ⟨h142, h143, h⟩ := h
  refine s_sto (p := ((blk b14).add 2).add 3) (v := (.bool B140)) H rfl rfl rfl rfl one_4 rfl h142 h143 ?_
  clear H
  intro H
  generalize hww141 : World.setCell w139 (((blk b14).add 2).add 3) (.bool B140) = w141 at h ⊢
  have w141S : SetAt w139 (((blk b14).add 2).add 3) (.bool B140) w141 := ⟨hww141.symm⟩
  clear hww141 h142 h143
  refine c_nil <| hK138 _ _ <| c_reg <| s_fld H rfl rfl fld_28_2 (lt_ rfl) fun a H => s_fld H rfl rfl fld_26_2 (lt_ rfl) fun a H => ?_
  obtain ⟨l144, hc145, h⟩ := h
  refine s_load (v := (.bool l144)) H rfl rfl one_4 hc145 (lt_ rfl) fun a H => s_assign H rfl rfl (lt_ rfl) fun a H => c_nil ?_
  exact h127 _ _ _ h (H.weaken ⟨rfl, rfl, rfl, rfl, trivial⟩)
 ·replace h := h.2 h131
  refine c_skip ?_
  exact h127 _ _ _ h (H.weaken ⟨rfl, rfl, rfl, rfl, trivial⟩)

theorem sim_sherdref08_Valid (C1 C2 : Int) (w : World) (Q : Ending → World → Prop) (h : vc_sherdref08_Valid C1 C2 w Q) : Calls PP F_sherdref08_Valid #[(.agg #[(.i C1), (.i C2)])] w Q := by
 unfold vc_sherdref08_Valid at h
 refine enter (n := 9) Tryz.func83 rfl rfl (Nat.le_of_ble_eq_true rfl) fun a H => c_seq fun K3 hK3 => c_reg ?_
 replace h := h.get
 obtain ⟨b4, w5, n6, h⟩ := h
 refine s_box H rfl rfl (lt_ rfl) ?_
 rw [← n6.at_]
 clear H a
 intro a H
 refine n6.go <| s_assign H rfl rfl (lt_ rfl) fun a H => c_nil <| hK3 _ _ <| c_seq fun K7 hK7 => c_reg <| s_loadN (l := [(.i C1), (.i C2)]) H rfl rfl agg_24 rfl ⟨(n6.cell (i := 0) rfl), (n6.cell (i := 1) rfl), trivial⟩ (lt_ rfl) fun a H => s_call H rfl body_100 (H.args (vs := [(.agg #[(.i C1), (.i C2)])]) rfl) (lt_ rfl) h ?_ (fun c w' h H => e_panic (P := PP) (fn := Tryz.f83) H h)
 clear H h a
 rintro _ w8 a ⟨Z9, rfl, h⟩ H
 refine s_move H rfl rfl (lt_ rfl) fun a H => ?_
 obtain ⟨R12, h, h25⟩ := h
 refine g_joinW (n := 9) R12 (fun x13 => [(8, (.bool x13))]) (.succ (.succ (.succ (.zero _)))) ?_ ?_
 ·intro h11
  clear h25
  rcases Bool.eq_false_or_eq_true Z9 with h10 | h10
  ·replace H := H.ch (t := 5) (b := true) rfl h10
   replace h := h.2 h10
   refine s_skip H (wantN H rfl rfl rfl) rfl (lt_ rfl) fun a H => s_skip H (wantN H rfl rfl rfl) rfl (lt_ rfl) fun a H => s_pickT H rfl rfl rfl (lt_ rfl) fun a H => ?_
   exact h11 _ _ _ h (H.weaken ⟨rfl, trivial⟩)
  ·replace H := H.ch (t := 5) (b := false) rfl h10
   replace h := h.1 h10
   obtain ⟨C15, hc16, C17, hc18, h⟩ := h
   refine s_loadN (l := [(.i C15), (.i C17)]) H (wantG H rfl rfl) rfl agg_24 rfl ⟨hc16, hc18, trivial⟩ (lt_ rfl) fun a H => s_call H (wantG H rfl rfl) body_101 (H.args (vs := [(.agg #[(.i C15), (.i C17)])]) rfl) (lt_ rfl) h ?_ (fun c w' h H => e_panic (P := PP) (fn := Tryz.f83) H h)
   clear H h a
   rintro _ w19 a ⟨p20, rfl, h⟩ H
   refine s_pickF H rfl rfl rfl (lt_ rfl) fun a H => ?_
   exact h11 _ _ _ h (H.weaken ⟨rfl, trivial⟩)
 ·clear H a h
  intro a x13 w14 h H
  replace h := h25 x13 w14 h
  clear h25
  refine s_assign H rfl rfl (lt_ rfl) fun a H => c_nil <| hK7 _ _ <| c_ret ?_
  exact e_ret1 H rfl rfl h

theorem sim_sherdref07_Writer_put (w1 : Option Addr) (b2 : Slc) (w : World) (Q : Ending → World → Prop) (h : vc_sherdref07_Writer_put w1 b2 w Q) : Calls PP F_sherdref07_Writer_put #[(.pointer w1), b2.v] w Q := by
 unfold vc_sherdref07_Writer_put at h
 refine enter (n := 18) Tryz.func84 rfl rfl (Nat.le_of_ble_eq_true rfl) fun a H => c_seq fun K3 hK3 => c_reg <| s_move H rfl rfl (lt_ rfl) fun a H => ?_
 obtain ⟨a4, h16, h⟩ := h
 subst h16
 refine s_nil H rfl rfl (lt_ rfl) fun a H => s_fld H rfl rfl fld_130_1 (lt_ rfl) fun a H => ?_
 obtain ⟨l5, hc6, h⟩ := h
 refine s_load (v := (.i l5)) H rfl rfl one_30 hc6 (lt_ rfl) fun a H => s_bin H rfl rfl rfl r_eql (lt_ rfl) fun a H => c_nil <| hK3 _ _ <| c_cond H rfl (fun h7 => ?_) (fun h7 => ?_)
 ·replace h := h.1 h7
  refine c_reg <| s_move H rfl rfl (lt_ rfl) fun a H => s_move H rfl rfl (lt_ rfl) fun a H => s_nil H rfl rfl (lt_ rfl) fun a H => s_fld H rfl rfl fld_130_0 (lt_ rfl) fun a H => ?_
  obtain ⟨l8, hc9, h⟩ := h
  refine s_load (v := l8.v) H rfl rfl one_22 hc9 (lt_ rfl) fun a H => s_move H rfl rfl (lt_ rfl) fun a H => ?_
  obtain ⟨s10, w11, h12, h⟩ := h
  refine s_blt H rfl (H.args (vs := [l8.v, b2.v]) rfl) (lt_ rfl) (fun cs => b_app (z := s10) h12) ?_
  clear H a h12
  intro a H
  refine s_nil H rfl rfl (lt_ rfl) fun a H => s_fld H rfl rfl fld_130_0 (lt_ rfl) fun a H => ?_
  obtain ⟨h14, h15, h⟩ := h
  refine s_sto (p := a4.add 0) (v := s10.v) H rfl rfl rfl rfl one_22 rfl h14 h15 ?_
  clear H
  intro H
  generalize hww13 : World.setCell w11 (a4.add 0) s10.v = w13 at h ⊢
  have w13S : SetAt w11 (a4.add 0) s10.v w13 := ⟨hww13.symm⟩
  clear hww13 h14 h15
  refine c_nil ?_
  exact e_ret0 H rfl h
 ·replace h := h.2 h7
  refine c_skip ?_
  exact e_ret0 H rfl h

theorem sim_sherdref07_Writer_Text (w1 : Option Addr) (s2 : ByteArray) (w : World) (Q : Ending → World → Prop) (h : vc_sherdref07_Writer_Text w1 s2 w Q) : Calls PP F_sherdref07_Writer_Text #[(.pointer w1), (.string s2)] w Q := by
 unfold vc_sherdref07_Writer_Text at h
 refine enter (n := 8) Tryz.func85 rfl rfl (Nat.le_of_ble_eq_true rfl) fun a H => c_reg <| s_move H rfl rfl (lt_ rfl) fun a H => s_move H rfl rfl (lt_ rfl) fun a H => ?_
 obtain ⟨s3, w5, h4, h⟩ := h
 refine s_cv H rfl rfl h4 (lt_ rfl) ?_
 clear H a h4
 intro a H
 refine s_call H rfl body_59 (H.args (vs := [(.pointer w1), s3.v]) rfl) (lt_ rfl) h ?_ (fun c w' h H => e_panic (P := PP) (fn := Tryz.f85) H h)
 clear H h a
 rintro _ w6 a ⟨rfl, h⟩ H
 refine c_nil ?_
 exact e_ret0 H rfl h

theorem sim_sherdref07_Writer_Bool (w1 : Option Addr) (b2 : Bool) (w : World) (Q : Ending → World → Prop) (h : vc_sherdref07_Writer_Bool w1 b2 w Q) : Calls PP F_sherdref07_Writer_Bool #[(.pointer w1), (.bool b2)] w Q := by
 unfold vc_sherdref07_Writer_Bool at h
 refine enter (n := 11) Tryz.func86 rfl rfl (Nat.le_of_ble_eq_true rfl) fun a H => c_seq fun K3 hK3 => c_reg <| s_move H rfl rfl (lt_ rfl) fun a H => c_nil <| hK3 _ _ <| c_cond H rfl (fun h4 => ?_) (fun h4 => ?_)
 ·replace h := h.1 h4
  refine c_reg <| s_move H rfl rfl (lt_ rfl) fun a H => ?_
  replace h := h.get
  obtain ⟨b5, w6, n7, h⟩ := h
  refine s_bslc H rfl (by rw [H.parts (vs := [(0, (.int .u8 1))]) rfl]; exact bs_22_1_iu80 w 1) (lt_ rfl) ?_
  rw [← n7.at_]
  clear H a
  intro a H
  refine n7.go <| s_call H rfl body_84 (H.args (vs := [(.pointer w1), (Slc.v (Slc.mk (some (blk b5)) 1 1))]) rfl) (lt_ rfl) h ?_ (fun c w' h H => e_panic (P := PP) (fn := Tryz.f86) H h)
  clear H h a
  rintro _ w8 a ⟨rfl, h⟩ H
  refine c_nil ?_
  exact e_ret0 H rfl h
 ·replace h := h.2 h4
  refine c_reg <| s_move H rfl rfl (lt_ rfl) fun a H => ?_
  replace h := h.get
  obtain ⟨b13, w14, n15, h⟩ := h
  refine s_bslc H rfl (by rw [H.parts (vs := [(0, (.int .u8 0))]) rfl]; exact bs_22_1_iu80 w 0) (lt_ rfl) ?_
  rw [← n15.at_]
  clear H a
  intro a H
  refine n15.go <| s_call H rfl body_84 (H.args (vs := [(.pointer w1), (Slc.v (Slc.mk (some (blk b13)) 1 1))]) rfl) (lt_ rfl) h ?_ (fun c w' h H => e_panic (P := PP) (fn := Tryz.f86) H h)
  clear H h a
  rintro _ w16 a ⟨rfl, h⟩ H
  refine c_nil ?_
  exact e_ret0 H rfl h

theorem sim_tag_Zero (C1 C2 : Int) (w : World) (Q : Ending → World → Prop) (h : vc_tag_Zero C1 C2 w Q) : Calls PP F_tag_Zero #[(.agg #[(.i C1), (.i C2)])] w Q := by
 unfold vc_tag_Zero at h
 refine enter (n := 6) Tryz.func87 rfl rfl (Nat.le_of_ble_eq_true rfl) fun a H => c_seq fun K3 hK3 => c_reg ?_
 replace h := h.get
 obtain ⟨b4, w5, n6, h⟩ := h
 refine s_box H rfl rfl (lt_ rfl) ?_
 rw [← n6.at_]
 clear H a
 intro a H
 refine n6.go <| s_assign H rfl rfl (lt_ rfl) fun a H => c_nil <| hK3 _ _ <| c_seq fun K7 hK7 => c_reg <| s_loadN (l := [(.i C1), (.i C2)]) H rfl rfl agg_24 rfl ⟨(n6.cell (i := 0) rfl), (n6.cell (i := 1) rfl), trivial⟩ (lt_ rfl) fun a H => s_build H rfl (by rw [H.parts (vs := []) rfl]; exact bd_24 w5) (lt_ rfl) fun a H => s_bin H rfl rfl rfl (r_eqst eqg_24 (eqst_24 0) rfl) (lt_ rfl) fun a H => s_assign H rfl rfl (lt_ rfl) fun a H => c_nil <| hK7 _ _ <| c_ret ?_
 exact e_ret1 H rfl rfl h

theorem sim_tag_Valid (C1 C2 : Int) (w : World) (Q : Ending → World → Prop) (h : vc_tag_Valid C1 C2 w Q) : Calls PP F_tag_Valid #[(.agg #[(.i C1), (.i C2)])] w Q := by
 unfold vc_tag_Valid at h
 refine enter (n := 9) Tryz.func88 rfl rfl (Nat.le_of_ble_eq_true rfl) fun a H => c_seq fun K3 hK3 => c_reg ?_
 replace h := h.get
 obtain ⟨b4, w5, n6, h⟩ := h
 refine s_box H rfl rfl (lt_ rfl) ?_
 rw [← n6.at_]
 clear H a
 intro a H
 refine n6.go <| s_assign H rfl rfl (lt_ rfl) fun a H => c_nil <| hK3 _ _ <| c_seq fun K7 hK7 => c_reg <| s_loadN (l := [(.i C1), (.i C2)]) H rfl rfl agg_24 rfl ⟨(n6.cell (i := 0) rfl), (n6.cell (i := 1) rfl), trivial⟩ (lt_ rfl) fun a H => s_call H rfl body_87 (H.args (vs := [(.agg #[(.i C1), (.i C2)])]) rfl) (lt_ rfl) h ?_ (fun c w' h H => e_panic (P := PP) (fn := Tryz.f88) H h)
 clear H h a
 rintro _ w8 a ⟨Z9, rfl, h⟩ H
 refine s_move H rfl rfl (lt_ rfl) fun a H => ?_
 obtain ⟨R12, h, h25⟩ := h
 refine g_joinW (n := 9) R12 (fun x13 => [(8, (.bool x13))]) (.succ (.succ (.succ (.zero _)))) ?_ ?_
 ·intro h11
  clear h25
  rcases Bool.eq_false_or_eq_true Z9 with h10 | h10
  ·replace H := H.ch (t := 5) (b := true) rfl h10
   replace h := h.2 h10
   refine s_skip H (wantN H rfl rfl rfl) rfl (lt_ rfl) fun a H => s_skip H (wantN H rfl rfl rfl) rfl (lt_ rfl) fun a H => s_pickT H rfl rfl rfl (lt_ rfl) fun a H => ?_
   exact h11 _ _ _ h (H.weaken ⟨rfl, trivial⟩)
  ·replace H := H.ch (t := 5) (b := false) rfl h10
   replace h := h.1 h10
   obtain ⟨C15, hc16, C17, hc18, h⟩ := h
   refine s_loadN (l := [(.i C15), (.i C17)]) H (wantG H rfl rfl) rfl agg_24 rfl ⟨hc16, hc18, trivial⟩ (lt_ rfl) fun a H => s_call H (wantG H rfl rfl) body_102 (H.args (vs := [(.agg #[(.i C15), (.i C17)])]) rfl) (lt_ rfl) h ?_ (fun c w' h H => e_panic (P := PP) (fn := Tryz.f88) H h)
   clear H h a
   rintro _ w19 a ⟨p20, rfl, h⟩ H
   refine s_pickF H rfl rfl rfl (lt_ rfl) fun a H => ?_
   exact h11 _ _ _ h (H.weaken ⟨rfl, trivial⟩)
 ·clear H a h
  intro a x13 w14 h H
  replace h := h25 x13 w14 h
  clear h25
  refine s_assign H rfl rfl (lt_ rfl) fun a H => c_nil <| hK7 _ _ <| c_ret ?_
  exact e_ret1 H rfl rfl h

theorem sim_pack_Writer_Text (w1 : Option Addr) (s2 : ByteArray) (w : World) (Q : Ending → World → Prop) (h : vc_pack_Writer_Text w1 s2 w Q) : Calls PP F_pack_Writer_Text #[(.pointer w1), (.string s2)] w Q := by
 unfold vc_pack_Writer_Text at h
 refine enter (n := 8) Tryz.func89 rfl rfl (Nat.le_of_ble_eq_true rfl) fun a H => c_reg <| s_move H rfl rfl (lt_ rfl) fun a H => s_move H rfl rfl (lt_ rfl) fun a H => ?_
 obtain ⟨s3, w5, h4, h⟩ := h
 refine s_cv H rfl rfl h4 (lt_ rfl) ?_
 clear H a h4
 intro a H
 refine s_call H rfl body_63 (H.args (vs := [(.pointer w1), s3.v]) rfl) (lt_ rfl) h ?_ (fun c w' h H => e_panic (P := PP) (fn := Tryz.f89) H h)
 clear H h a
 rintro _ w6 a ⟨rfl, h⟩ H
 refine c_nil ?_
 exact e_ret0 H rfl h

theorem sim_pack_Writer_Bool (w1 : Option Addr) (b2 : Bool) (w : World) (Q : Ending → World → Prop) (h : vc_pack_Writer_Bool w1 b2 w Q) : Calls PP F_pack_Writer_Bool #[(.pointer w1), (.bool b2)] w Q := by
 unfold vc_pack_Writer_Bool at h
 refine enter (n := 11) Tryz.func90 rfl rfl (Nat.le_of_ble_eq_true rfl) fun a H => c_seq fun K3 hK3 => c_reg <| s_move H rfl rfl (lt_ rfl) fun a H => c_nil <| hK3 _ _ <| c_cond H rfl (fun h4 => ?_) (fun h4 => ?_)
 ·replace h := h.1 h4
  refine c_reg <| s_move H rfl rfl (lt_ rfl) fun a H => ?_
  replace h := h.get
  obtain ⟨b5, w6, n7, h⟩ := h
  refine s_bslc H rfl (by rw [H.parts (vs := [(0, (.int .u8 1))]) rfl]; exact bs_22_1_iu80 w 1) (lt_ rfl) ?_
  rw [← n7.at_]
  clear H a
  intro a H
  refine n7.go <| s_call H rfl body_35 (H.args (vs := [(.pointer w1), (Slc.v (Slc.mk (some (blk b5)) 1 1))]) rfl) (lt_ rfl) h ?_ (fun c w' h H => e_panic (P := PP) (fn := Tryz.f90) H h)
  clear H h a
  rintro _ w8 a ⟨rfl, h⟩ H
  refine c_nil ?_
  exact e_ret0 H rfl h
 ·replace h := h.2 h4
  refine c_reg <| s_move H rfl rfl (lt_ rfl) fun a H => ?_
  replace h := h.get
  obtain ⟨b13, w14, n15, h⟩ := h
  refine s_bslc H rfl (by rw [H.parts (vs := [(0, (.int .u8 0))]) rfl]; exact bs_22_1_iu80 w 0) (lt_ rfl) ?_
  rw [← n15.at_]
  clear H a
  intro a H
  refine n15.go <| s_call H rfl body_35 (H.args (vs := [(.pointer w1), (Slc.v (Slc.mk (some (blk b13)) 1 1))]) rfl) (lt_ rfl) h ?_ (fun c w' h H => e_panic (P := PP) (fn := Tryz.f90) H h)
  clear H h a
  rintro _ w16 a ⟨rfl, h⟩ H
  refine c_nil ?_
  exact e_ret0 H rfl h

theorem sim_sherdref07_Form (n1 : Int) (w : World) (Q : Ending → World → Prop) (h : vc_sherdref07_Form n1 w Q) : Calls PP F_sherdref07_Form #[(.i n1)] w Q := by
 unfold vc_sherdref07_Form at h
 refine enter (n := 21) Tryz.func91 rfl rfl (Nat.le_of_ble_eq_true rfl) fun a H => c_seq fun K2 hK2 => c_reg <| s_assign H rfl rfl (lt_ rfl) fun a H => c_nil <| hK2 _ _ <| c_seq fun K3 hK3 => c_reg <| s_assign H rfl rfl (lt_ rfl) fun a H => c_nil <| hK3 _ _ <| c_block ?_
 obtain ⟨I7, m8, h27, h28⟩ := h
 refine c_loop (σ := Int × Slc) (fun z w => I7 z.1 z.2 w) (fun z w => m8 z.1 z.2 w) (fun z => [(0, (.i z.1)), (3, z.2.v)]) (n1, Slc.nil) h27 (H.weaken ⟨rfl, rfl, trivial⟩) ?_
 clear H h27
 rintro ⟨n4, o5⟩ a w6 h H
 replace h := h28 n4 o5 w6 h
 clear h28
 replace H : Has 21 [] a [(0, (.i n4)), (3, o5.v)] := H
 refine c_block <| c_seq fun K9 hK9 => c_reg <| s_move H rfl rfl (lt_ rfl) fun a H => s_bin H rfl rfl rfl (r_rem (by decide)) (lt_ rfl) fun a H => s_cv H rfl rfl (r_cvI some_2 int_5) (lt_ rfl) fun a H => s_assign H rfl rfl (lt_ rfl) fun a H => c_nil <| hK9 _ _ <| c_seq fun K10 hK10 => c_reg <| s_move H rfl rfl (lt_ rfl) fun a H => s_bin H rfl rfl rfl (r_quo (by decide)) (lt_ rfl) fun a H => s_assign H rfl rfl (lt_ rfl) fun a H => c_nil <| hK10 _ _ <| c_seq fun K11 hK11 => ?_
 refine c_seq fun K12 hK12 => c_reg <| s_move H rfl rfl (lt_ rfl) fun a H => s_bin H rfl rfl rfl r_eql (lt_ rfl) fun a H => c_nil <| hK12 _ _ <| c_cond H rfl (fun h13 => ?_) (fun h13 => ?_)
 ·replace h := h.1 h13
  refine c_seq fun K14 hK14 => c_reg <| s_move H rfl rfl (lt_ rfl) fun a H => s_move H rfl rfl (lt_ rfl) fun a H => ?_
  replace h := h.get
  obtain ⟨b15, w16, n17, h⟩ := h
  refine s_bslc H rfl (by rw [H.parts (vs := [(0, (.int .u8 (wr .u8 (n4.tmod 128))))]) rfl]; exact bs_22_1_iu80 w6 (wr .u8 (n4.tmod 128))) (lt_ rfl) ?_
  rw [← n17.at_]
  clear H a
  intro a H
  refine n17.go ?_
  obtain ⟨s18, w19, h20, h⟩ := h
  refine s_blt H rfl (H.args (vs := [o5.v, (Slc.v (Slc.mk (some (blk b15)) 1 1))]) rfl) (lt_ rfl) (fun cs => b_app (z := s18) h20) ?_
  clear H a h20
  intro a H
  refine s_assign H rfl rfl (lt_ rfl) fun a H => c_nil <| hK14 _ _ <| c_ret ?_
  exact e_ret1 H rfl rfl h
 ·replace h := h.2 h13
  refine c_skip <| hK11 _ _ <| c_reg <| s_move H rfl rfl (lt_ rfl) fun a H => s_move H rfl rfl (lt_ rfl) fun a H => s_bin H rfl rfl rfl r_add (lt_ rfl) fun a H => ?_
  replace h := h.get
  obtain ⟨b21, w22, n23, h⟩ := h
  refine s_bslc H rfl (by rw [H.parts (vs := [(0, (.int .u8 (wr .u8 ((wr .u8 (n4.tmod 128)) + 128))))]) rfl]; exact bs_22_1_iu80 w6 (wr .u8 ((wr .u8 (n4.tmod 128)) + 128))) (lt_ rfl) ?_
  rw [← n23.at_]
  clear H a
  intro a H
  refine n23.go ?_
  obtain ⟨s24, w25, h26, h⟩ := h
  refine s_blt H rfl (H.args (vs := [o5.v, (Slc.v (Slc.mk (some (blk b21)) 1 1))]) rfl) (lt_ rfl) (fun cs => b_app (z := s24) h26) ?_
  clear H a h26
  intro a H
  refine s_assign H rfl rfl (lt_ rfl) fun a H => c_nil <| Exists.intro (wr .i64 (n4.tdiv 128), s24) ⟨h.1, h.2, H.weaken ⟨rfl, rfl, trivial⟩⟩

theorem sim_sherdref06_bitwise (n1 : Int) (w : World) (Q : Ending → World → Prop) (h : vc_sherdref06_bitwise n1 w Q) : Calls PP F_sherdref06_bitwise #[(.int .u32 n1)] w Q := by
 unfold vc_sherdref06_bitwise at h
 refine enter (n := 17) Tryz.func92 rfl rfl (Nat.le_of_ble_eq_true rfl) fun a H => c_seq fun K2 hK2 => c_reg <| s_assign H rfl rfl (lt_ rfl) fun a H => c_nil <| hK2 _ _ <| c_seq fun K3 hK3 => c_seq fun K4 hK4 => c_reg <| s_assign H rfl rfl (lt_ rfl) fun a H => c_nil <| hK4 _ _ <| c_block ?_
 obtain ⟨I8, m9, h22, h23⟩ := h
 refine c_loop (σ := Int × Int) (fun z w => I8 z.1 z.2 w) (fun z w => m9 z.1 z.2 w) (fun z => [(0, (.int .u32 z.1)), (3, (.i z.2))]) (n1, 0) h22 (H.weaken ⟨rfl, rfl, trivial⟩) ?_
 clear H h22
 rintro ⟨n5, i6⟩ a w7 h H
 replace h := h23 n5 i6 w7 h
 clear h23
 replace H : Has 17 [] a [(0, (.int .u32 n5)), (3, (.i i6))] := H
 refine c_seq fun K10 hK10 => c_seq fun K11 hK11 => c_reg <| s_move H rfl rfl (lt_ rfl) fun a H => s_bin H rfl rfl rfl r_lss (lt_ rfl) fun a H => c_nil <| hK11 _ _ <| c_cond H rfl (fun h12 => ?_) (fun h12 => ?_)
 ·replace h := h.1 h12
  refine c_skip <| hK10 _ _ <| c_seq fun K13 hK13 => ?_
  obtain ⟨R15, h, h20⟩ := h
  have h17 : ∀ (a : Act) (n14 : Int) (w16 : World), R15 n14 w16 → Has 17 [] a [(0, (.int .u32 n14)), (3, (.i i6))] → K13 a w16 := by
   clear h
   intro a n14 w16 h H
   replace h := h20 n14 w16 h
   refine hK13 _ _ <| c_reg <| s_move H rfl rfl (lt_ rfl) fun a H => s_bin H rfl rfl rfl r_add (lt_ rfl) fun a H => s_assign H rfl rfl (lt_ rfl) fun a H => c_nil <| Exists.intro (n14, wr .i64 (i6 + 1)) ⟨h.1, h.2, H.weaken ⟨rfl, rfl, trivial⟩⟩
  clear h20
  refine c_block <| c_seq fun K18 hK18 => c_reg <| s_move H rfl rfl (lt_ rfl) fun a H => s_bin H rfl rfl rfl r_and (lt_ rfl) fun a H => s_bin H rfl rfl rfl r_eql (lt_ rfl) fun a H => c_nil <| hK18 _ _ <| c_cond H rfl (fun h19 => ?_) (fun h19 => ?_)
  ·replace h := h.1 h19
   refine c_reg <| s_move H rfl rfl (lt_ rfl) fun a H => s_bin H rfl rfl rfl (r_shr (by decide)) (lt_ rfl) fun a H => s_bin H rfl rfl rfl r_xor (lt_ rfl) fun a H => s_assign H rfl rfl (lt_ rfl) fun a H => c_nil ?_
   exact h17 _ _ _ h (H.weaken ⟨rfl, rfl, trivial⟩)
  ·replace h := h.2 h19
   refine c_reg <| s_move H rfl rfl (lt_ rfl) fun a H => s_bin H rfl rfl rfl (r_shr (by decide)) (lt_ rfl) fun a H => s_assign H rfl rfl (lt_ rfl) fun a H => c_nil ?_
   exact h17 _ _ _ h (H.weaken ⟨rfl, rfl, trivial⟩)
 ·replace h := h.2 h12
  refine c_exit ?_
  first | (simp only [Exit.then, Exit.inBlock, ↓reduceIte]; fail_if_success simp only [Nat.reduceEqDiff]) | simp only [Exit.then, Exit.inBlock, ↓reduceIte, Nat.reduceEqDiff]
  refine hK3 _ _ <| c_seq fun K21 hK21 => c_reg <| s_move H rfl rfl (lt_ rfl) fun a H => s_assign H rfl rfl (lt_ rfl) fun a H => c_nil <| hK21 _ _ <| c_ret ?_
  exact e_ret1 H rfl rfl h

theorem sim_pack_Reader_stopped (r1 : Option Addr) (w : World) (Q : Ending → World → Prop) (h : vc_pack_Reader_stopped r1 w Q) : Calls PP F_pack_Reader_stopped #[(.pointer r1)] w Q := by
 unfold vc_pack_Reader_stopped at h
 refine enter (n := 13) Tryz.func93 rfl rfl (Nat.le_of_ble_eq_true rfl) fun a H => c_seq fun K2 hK2 => c_reg <| s_assign H rfl rfl (lt_ rfl) fun a H => c_nil <| hK2 _ _ <| c_seq fun K3 hK3 => c_reg <| s_move H rfl rfl (lt_ rfl) fun a H => s_bin H rfl rfl rfl (r_eqP0 ptr_123) (lt_ rfl) fun a H => s_move H rfl rfl (lt_ rfl) fun a H => ?_
 obtain ⟨x10, h11, h12, h⟩ := h
 refine g_join (n := 13) [(12, (.bool x10))] (.succ (.succ (.succ (.succ (.succ (.succ (.succ (.zero _)))))))) ?_ ?_
 ·intro h5
  try clear h
  rcases Bool.eq_false_or_eq_true r1.isNone with h4 | h4
  ·replace H := H.ch (t := 5) (b := true) rfl h4
   iterate 6 refine s_skip H (wantN H rfl rfl rfl) rfl (lt_ rfl) fun a H => ?_
   refine s_pickT H rfl rfl rfl (lt_ rfl) fun a H => ?_
   replace h := h12 h4
   subst h
   exact h5 _ (H.weaken ⟨rfl, trivial⟩)
  ·replace H := H.ch (t := 5) (b := false) rfl h4
   replace h := h11 h4
   refine s_move H (wantG H rfl rfl) rfl (lt_ rfl) fun a H => ?_
   obtain ⟨a6, h9, h⟩ := h
   subst h9
   refine s_nil H (wantG H rfl rfl) rfl (lt_ rfl) fun a H => s_fld H (wantG H rfl rfl) rfl fld_135_0 (lt_ rfl) fun a H => s_fld H (wantG H rfl rfl) rfl fld_84_0 (lt_ rfl) fun a H => ?_
   obtain ⟨l7, hc8, h⟩ := h
   refine s_load (v := (.i l7)) H (wantG H rfl rfl) rfl one_30 hc8 (lt_ rfl) fun a H => s_bin H (wantG H rfl rfl) rfl rfl r_neq (lt_ rfl) fun a H => s_pickF H rfl rfl rfl (lt_ rfl) fun a H => ?_
   subst h
   exact h5 _ (H.weaken ⟨rfl, trivial⟩)
 ·clear H a
  clear h11 h12
  intro a H
  refine s_assign H rfl rfl (lt_ rfl) fun a H => c_nil <| hK3 _ _ <| c_ret ?_
  exact e_ret1 H rfl rfl h

theorem sim_pack_Reader_number (r1 : Option Addr) (m2 : Int) (w : World) (Q : Ending → World → Prop) (h : vc_pack_Reader_number r1 m2 w Q) : Calls PP F_pack_Reader_number #[(.pointer r1), (.i m2)] w Q := by
 unfold vc_pack_Reader_number at h
 refine enter (n := 56) Tryz.func94 rfl rfl (Nat.le_of_ble_eq_true rfl) fun a H => c_seq fun K3 hK3 => c_reg ?_
 iterate 3 refine s_assign H rfl rfl (lt_ rfl) fun a H => ?_
 refine c_nil <| hK3 _ _ <| c_seq fun K4 hK4 => c_regD mixed (by kernel_rfl) <| z_move H rfl rfl (lt_ rfl) fun a H => ?_
 obtain ⟨a6, h55, h⟩ := h
 subst h55
 refine z_nil H rfl rfl (lt_ rfl) fun a H => z_fld H rfl rfl fld_135_1 (lt_ rfl) fun a H => ?_
 obtain ⟨l7, hc8, h⟩ := h
 refine z_load (v := l7.v) H rfl rfl one_22 hc8 (lt_ rfl) fun a H => z_move H rfl rfl (lt_ rfl) fun a H => z_nil H rfl rfl (lt_ rfl) fun a H => z_fld H rfl rfl fld_135_2 (lt_ rfl) fun a H => ?_
 obtain ⟨l9, hc10, h⟩ := h
 refine z_load (v := (.i l9)) H rfl rfl one_3 hc10 (lt_ rfl) fun a H => ?_
 obtain ⟨h11, h12, h13, h⟩ := h
 refine z_slice (v := (Slc.v (l7.cut 1 (Int.toNat (l9)) (Int.toNat ((l7.l : Int)))))) H rfl rfl ⟨rfl, rfl⟩ ⟨rfl, rfl⟩ ⟨rfl, rfl⟩ (fun w => r_sliceSlc (lo := (some (.i64, l9))) (hi := none) slc_22 rfl rfl h11 h12 h13) (lt_ rfl) fun a H => z_assign H rfl rfl (lt_ rfl) fun a H => wpQuiet_nil ?_
 rintro _ ⟨k5, rfl⟩
 replace h := h k5
 refine hK4 _ _ <| c_seq fun K14 hK14 => c_reg <| s_assign H rfl rfl (lt_ rfl) fun a H => c_nil <| hK14 _ _ <| c_seq fun K15 hK15 => c_seq fun K16 hK16 => c_reg <| s_move H rfl rfl (lt_ rfl) fun a H => c_nil <| hK16 _ _ <| c_block ?_
 obtain ⟨I20, m21, h53, h54⟩ := h
 refine c_loop (σ := Int × Int) (fun z w => I20 z.1 z.2 w) (fun z w => m21 z.1 z.2 w) (fun z => [(1, (.i m2)), (7, (Slc.v (l7.cut 1 (Int.toNat (l9)) (Int.toNat ((l7.l : Int)))))), (8, (.i z.1)), (20, (.i z.2))]) (0, 0) h53 (H.weaken ⟨rfl, rfl, rfl, rfl, trivial⟩) ?_
 clear H h53
 rintro ⟨n17, s18⟩ a w19 h H
 replace h := h54 n17 s18 w19 h
 clear h54
 replace H : Has 56 [] a [(1, (.i m2)), (7, (Slc.v (l7.cut 1 (Int.toNat (l9)) (Int.toNat ((l7.l : Int)))))), (8, (.i n17)), (20, (.i s18))] := H
 refine c_seq fun K22 hK22 => c_reg <| s_bin H rfl rfl rfl r_lss (lt_ rfl) fun a H => c_nil <| hK22 _ _ <| c_seq fun K23 hK23 => c_cond H rfl (fun h24 => ?_) (fun h24 => ?_)
 ·replace h := h.1 h24
  refine c_skip <| hK23 _ _ <| c_seq fun K25 hK25 => c_block <| c_seq fun K26 hK26 => c_reg <| s_move H rfl rfl (lt_ rfl) fun a H => s_assign H rfl rfl (lt_ rfl) fun a H => c_nil <| hK26 _ _ <| c_seq fun K27 hK27 => c_seq fun K28 hK28 => c_reg <| s_move H rfl rfl (lt_ rfl) fun a H => s_move H rfl rfl (lt_ rfl) fun a H => ?_
  refine s_blt H rfl (H.args (vs := [(Slc.v (l7.cut 1 (Int.toNat (l9)) (Int.toNat ((l7.l : Int)))))]) rfl) (lt_ rfl) (fun cs => b_lenS (z := l7.cut 1 (Int.toNat (l9)) (Int.toNat ((l7.l : Int)))) sl_22) fun a H => s_bin H rfl rfl rfl r_geq (lt_ rfl) fun a H => c_nil <| hK28 _ _ <| c_cond H rfl (fun h29 => ?_) (fun h29 => ?_)
  ·replace h := h.1 h29
   refine c_seq fun K30 hK30 => c_reg ?_
   iterate 3 refine s_assign H rfl rfl (lt_ rfl) fun a H => ?_
   refine c_nil <| hK30 _ _ <| c_ret ?_
   exact e_ret3 H rfl rfl rfl rfl h
  ·replace h := h.2 h29
   refine c_skip <| hK27 _ _ <| c_seq fun K31 hK31 => c_reg <| s_move H rfl rfl (lt_ rfl) fun a H => s_move H rfl rfl (lt_ rfl) fun a H => ?_
   obtain ⟨a32, h33, h34, h35, h⟩ := h
   refine s_idxS (s := l7.cut 1 (Int.toNat (l9)) (Int.toNat ((l7.l : Int)))) H rfl rfl rfl slc_22 h33 h34 h35 (lt_ rfl) fun a H => ?_
   obtain ⟨l36, hc37, h⟩ := h
   refine s_load (v := (.int .u8 l36)) H rfl rfl one_5 hc37 (lt_ rfl) fun a H => s_assign H rfl rfl (lt_ rfl) fun a H => c_nil <| hK31 _ _ <| c_seq fun K38 hK38 => c_reg <| s_move H rfl rfl (lt_ rfl) fun a H => s_move H rfl rfl (lt_ rfl) fun a H => s_bin H rfl rfl rfl r_and (lt_ rfl) fun a H => s_cv H rfl rfl (r_cvI some_5 int_2) (lt_ rfl) fun a H => s_move H rfl rfl (lt_ rfl) fun a H => s_bin H rfl rfl rfl r_mul (lt_ rfl) fun a H => ?_
   obtain ⟨h39, h⟩ := h
   refine s_bin H rfl rfl rfl (r_shl h39) (lt_ rfl) fun a H => s_bin H rfl rfl rfl r_or (lt_ rfl) fun a H => s_assign H rfl rfl (lt_ rfl) fun a H => c_nil <| hK38 _ _ <| c_seq fun K40 hK40 => c_reg <| s_move H rfl rfl (lt_ rfl) fun a H => s_bin H rfl rfl rfl r_lss (lt_ rfl) fun a H => c_nil <| hK40 _ _ <| c_cond H rfl (fun h41 => ?_) (fun h41 => ?_)
   ·replace h := h.1 h41
    refine c_seq fun K42 hK42 => c_block <| c_seq fun K43 hK43 => c_reg <| s_move H rfl rfl (lt_ rfl) fun a H => s_bin H rfl rfl rfl r_eql (lt_ rfl) fun a H => s_move H rfl rfl (lt_ rfl) fun a H => g_join (n := 56) [(47, (.bool ((decide (l36 = 0)) && (decide (0 < s18))))), (1, (.i m2)), (8, (.i (orI .i64 n17 (shlI .i64 (wr .i64 (andI .u8 l36 127)) (wr .i64 (7 * s18)))))), (9, (.i s18))] (.succ (.succ (.succ (.zero _)))) ?_ ?_
    ·intro h45
     try clear h
     rcases Bool.eq_false_or_eq_true (decide (l36 = 0)) with h44 | h44
     ·replace H := H.ch (t := 44) (b := true) rfl h44
      refine s_move H (wantG H rfl rfl) rfl (lt_ rfl) fun a H => s_bin H (wantG H rfl rfl) rfl rfl r_gtr (lt_ rfl) fun a H => s_pickT H rfl rfl rfl (lt_ rfl) fun a H => ?_
      exact h45 _ (H.weaken ⟨by rw [h44]; rfl, rfl, rfl, rfl, trivial⟩)
     ·replace H := H.ch (t := 44) (b := false) rfl h44
      refine s_skip H (wantN H rfl rfl rfl) rfl (lt_ rfl) fun a H => s_skip H (wantN H rfl rfl rfl) rfl (lt_ rfl) fun a H => s_pickF H rfl rfl rfl (lt_ rfl) fun a H => ?_
      exact h45 _ (H.weaken ⟨by rw [h44]; rfl, rfl, rfl, rfl, trivial⟩)
    ·clear H a
     intro a H
     refine s_assign H rfl rfl (lt_ rfl) fun a H => c_nil <| hK43 _ _ <| c_cond H rfl (fun h46 => ?_) (fun h46 => ?_)
     ·replace h := h.1 h46
      refine c_seq fun K47 hK47 => c_reg ?_
      iterate 3 refine s_assign H rfl rfl (lt_ rfl) fun a H => ?_
      refine c_nil <| hK47 _ _ <| c_ret ?_
      exact e_ret3 H rfl rfl rfl rfl h
     ·replace h := h.2 h46
      refine c_seq fun K48 hK48 => c_reg <| s_move H rfl rfl (lt_ rfl) fun a H => s_move H rfl rfl (lt_ rfl) fun a H => s_bin H rfl rfl rfl r_gtr (lt_ rfl) fun a H => s_assign H rfl rfl (lt_ rfl) fun a H => c_nil <| hK48 _ _ <| c_cond H rfl (fun h49 => ?_) (fun h49 => ?_)
      ·replace h := h.1 h49
       refine c_seq fun K50 hK50 => c_reg ?_
       iterate 3 refine s_assign H rfl rfl (lt_ rfl) fun a H => ?_
       refine c_nil <| hK50 _ _ <| c_ret ?_
       exact e_ret3 H rfl rfl rfl rfl h
      ·replace h := h.2 h49
       refine c_skip <| hK42 _ _ <| c_seq fun K51 hK51 => c_reg <| s_move H rfl rfl (lt_ rfl) fun a H => s_move H rfl rfl (lt_ rfl) fun a H => s_bin H rfl rfl rfl r_add (lt_ rfl) fun a H => ?_
       iterate 3 refine s_assign H rfl rfl (lt_ rfl) fun a H => ?_
       refine c_nil <| hK51 _ _ <| c_ret ?_
       exact e_ret3 H rfl rfl rfl rfl h
   ·replace h := h.2 h41
    refine c_skip <| hK25 _ _ <| c_reg <| s_bin H rfl rfl rfl r_add (lt_ rfl) fun a H => s_move H rfl rfl (lt_ rfl) fun a H => c_nil <| Exists.intro (orI .i64 n17 (shlI .i64 (wr .i64 (andI .u8 l36 127)) (wr .i64 (7 * s18))), wr .i64 (s18 + 1)) ⟨h.1, h.2, H.weaken ⟨rfl, rfl, rfl, rfl, trivial⟩⟩
 ·replace h := h.2 h24
  refine c_exit ?_
  first | (simp only [Exit.then, Exit.inBlock, ↓reduceIte]; fail_if_success simp only [Nat.reduceEqDiff]) | simp only [Exit.then, Exit.inBlock, ↓reduceIte, Nat.reduceEqDiff]
  refine hK15 _ _ <| c_seq fun K52 hK52 => c_reg ?_
  iterate 3 refine s_assign H rfl rfl (lt_ rfl) fun a H => ?_
  refine c_nil <| hK52 _ _ <| c_ret ?_
  exact e_ret3 H rfl rfl rfl rfl h

theorem sim_pack_first_Err (f1 : Option Addr) (w : World) (Q : Ending → World → Prop) (h : vc_pack_first_Err f1 w Q) : Calls PP F_pack_first_Err #[(.pointer f1)] w Q := by
 unfold vc_pack_first_Err at h
 refine enter (n := 7) Tryz.func95 rfl rfl (Nat.le_of_ble_eq_true rfl) fun a H => c_seq fun K2 hK2 => c_reg <| s_assign H rfl rfl (lt_ rfl) fun a H => c_nil <| hK2 _ _ <| c_seq fun K3 hK3 => c_reg <| s_move H rfl rfl (lt_ rfl) fun a H => ?_
 obtain ⟨a4, h7, h⟩ := h
 subst h7
 refine s_nil H rfl rfl (lt_ rfl) fun a H => s_fld H rfl rfl fld_84_0 (lt_ rfl) fun a H => ?_
 obtain ⟨l5, hc6, h⟩ := h
 refine s_load (v := (.i l5)) H rfl rfl one_30 hc6 (lt_ rfl) fun a H => s_assign H rfl rfl (lt_ rfl) fun a H => c_nil <| hK3 _ _ <| c_ret ?_
 exact e_ret1 H rfl rfl h

theorem sim_pack_Reader_Text (r1 : Option Addr) (m2 : Int) (w : World) (Q : Ending → World → Prop) (h : vc_pack_Reader_Text r1 m2 w Q) : Calls PP F_pack_Reader_Text #[(.pointer r1), (.i m2)] w Q := by
 unfold vc_pack_Reader_Text at h
 refine enter (n := 9) Tryz.func96 rfl rfl (Nat.le_of_ble_eq_true rfl) fun a H => c_seq fun K3 hK3 => c_reg <| s_assign H rfl rfl (lt_ rfl) fun a H => c_nil <| hK3 _ _ <| c_seq fun K4 hK4 => c_reg <| s_move H rfl rfl (lt_ rfl) fun a H => s_move H rfl rfl (lt_ rfl) fun a H => s_call H rfl body_98 (H.args (vs := [(.pointer r1), (.i m2)]) rfl) (lt_ rfl) h ?_ (fun c w' h H => e_panic (P := PP) (fn := Tryz.f96) H h)
 clear H h a
 rintro _ w5 a ⟨B6, rfl, h⟩ H
 obtain ⟨s7, h8, h⟩ := h
 refine s_cv H rfl rfl h8 (lt_ rfl) ?_
 clear H a h8
 intro a H
 refine s_assign H rfl rfl (lt_ rfl) fun a H => c_nil <| hK4 _ _ <| c_ret ?_
 exact e_ret1 H rfl rfl h

theorem sim_pack_Reader_Bool (r1 : Option Addr) (w : World) (Q : Ending → World → Prop) (h : vc_pack_Reader_Bool r1 w Q) : Calls PP F_pack_Reader_Bool #[(.pointer r1)] w Q := by
 unfold vc_pack_Reader_Bool at h
 refine enter (n := 35) Tryz.func97 rfl rfl (Nat.le_of_ble_eq_true rfl) fun a H => c_seq fun K2 hK2 => c_reg <| s_assign H rfl rfl (lt_ rfl) fun a H => c_nil <| hK2 _ _ <| c_seq fun K3 hK3 => c_seq fun K4 hK4 => c_reg <| s_move H rfl rfl (lt_ rfl) fun a H => s_call H rfl body_93 (H.args (vs := [(.pointer r1)]) rfl) (lt_ rfl) h ?_ (fun c w' h H => e_panic (P := PP) (fn := Tryz.f97) H h)
 clear H h a
 rintro _ w5 a ⟨s6, rfl, h⟩ H
 refine c_nil <| hK4 _ _ <| c_cond H rfl (fun h7 => ?_) (fun h7 => ?_)
 ·replace h := h.1 h7
  refine c_seq fun K8 hK8 => c_reg <| s_assign H rfl rfl (lt_ rfl) fun a H => c_nil <| hK8 _ _ <| c_ret ?_
  exact e_ret1 H rfl rfl h
 ·replace h := h.2 h7
  refine c_skip <| hK3 _ _ <| c_seq fun K9 hK9 => c_seq fun K10 hK10 => c_regD mixed (by kernel_rfl) <| z_move H rfl rfl (lt_ rfl) fun a H => ?_
  obtain ⟨a12, h47, h⟩ := h
  subst h47
  refine z_nil H rfl rfl (lt_ rfl) fun a H => z_fld H rfl rfl fld_135_2 (lt_ rfl) fun a H => ?_
  obtain ⟨l13, hc14, h⟩ := h
  refine z_load (v := (.i l13)) H rfl rfl one_3 hc14 (lt_ rfl) fun a H => z_move H rfl rfl (lt_ rfl) fun a H => z_nil H rfl rfl (lt_ rfl) fun a H => z_fld H rfl rfl fld_135_1 (lt_ rfl) fun a H => ?_
  obtain ⟨l15, hc16, h⟩ := h
  refine z_load (v := l15.v) H rfl rfl one_22 hc16 (lt_ rfl) fun a H => z_blt H rfl (H.args (vs := [l15.v]) rfl) (lt_ rfl) (fun cs w => b_lenS (z := l15) sl_22) fun a H => z_bin H rfl rfl rfl r_lss (lt_ rfl) fun a H => z_move H rfl rfl (lt_ rfl) fun a H => ?_
  obtain ⟨x29, h30, h31, h⟩ := h
  refine zg_join (n := 35) [(27, (.bool x29)), (0, (.pointer (some a12)))] (.succ (.succ (.succ (.succ (.succ (.succ (.succ (.succ (.succ (.succ (.succ (.succ (.zero _))))))))))))) ?_ ?_
  ·intro h18
   try clear h
   rcases Bool.eq_false_or_eq_true (decide (l13 < (l15.l : Int))) with h17 | h17
   ·replace H := H.ch (t := 15) (b := true) rfl h17
    replace h := h30 h17
    refine z_move H (wantG H rfl rfl) rfl (lt_ rfl) fun a H => z_nil H (wantG H rfl rfl) rfl (lt_ rfl) fun a H => z_fld H (wantG H rfl rfl) rfl fld_135_1 (lt_ rfl) fun a H => ?_
    obtain ⟨l19, hc20, h⟩ := h
    refine z_load (v := l19.v) H (wantG H rfl rfl) rfl one_22 hc20 (lt_ rfl) fun a H => z_move H (wantG H rfl rfl) rfl (lt_ rfl) fun a H => z_nil H (wantG H rfl rfl) rfl (lt_ rfl) fun a H => z_fld H (wantG H rfl rfl) rfl fld_135_2 (lt_ rfl) fun a H => ?_
    obtain ⟨l21, hc22, h⟩ := h
    refine z_load (v := (.i l21)) H (wantG H rfl rfl) rfl one_3 hc22 (lt_ rfl) fun a H => ?_
    obtain ⟨a23, h24, h25, h26, h⟩ := h
    refine z_idxS (s := l19) H (wantG H rfl rfl) rfl rfl slc_22 h24 h25 h26 (lt_ rfl) fun a H => ?_
    obtain ⟨l27, hc28, h⟩ := h
    refine z_load (v := (.int .u8 l27)) H (wantG H rfl rfl) rfl one_5 hc28 (lt_ rfl) fun a H => z_bin H (wantG H rfl rfl) rfl rfl r_gtr (lt_ rfl) fun a H => z_pickT H rfl rfl rfl (lt_ rfl) fun a H => ?_
    subst h
    exact h18 _ (H.weaken ⟨rfl, rfl, trivial⟩)
   ·replace H := H.ch (t := 15) (b := false) rfl h17
    iterate 11 refine z_skip H (wantN H rfl rfl rfl) rfl (lt_ rfl) fun a H => ?_
    refine z_pickF H rfl rfl rfl (lt_ rfl) fun a H => ?_
    replace h := h31 h17
    subst h
    exact h18 _ (H.weaken ⟨rfl, rfl, trivial⟩)
  ·clear H a
   clear h30 h31
   intro a H
   refine wpQuiet_nil ?_
   rintro _ ⟨k11, rfl⟩
   replace h := h k11
   refine hK10 _ _ <| c_cond H rfl (fun h32 => ?_) (fun h32 => ?_)
   ·replace h := h.1 h32
    refine c_seq fun K33 hK33 => c_reg <| s_move H rfl rfl (lt_ rfl) fun a H => s_nil H rfl rfl (lt_ rfl) fun a H => s_fld H rfl rfl fld_135_0 (lt_ rfl) fun a H => s_call H rfl body_36 (H.args (vs := [(.pointer (some (a12.add 0))), (.i 31)]) rfl) (lt_ rfl) h ?_ (fun c w' h H => e_panic (P := PP) (fn := Tryz.f97) H h)
    clear H h a
    rintro _ w34 a ⟨rfl, h⟩ H
    refine c_nil <| hK33 _ _ <| c_seq fun K35 hK35 => c_reg <| s_assign H rfl rfl (lt_ rfl) fun a H => c_nil <| hK35 _ _ <| c_ret ?_
    exact e_ret1 H rfl rfl h
   ·replace h := h.2 h32
    refine c_skip <| hK9 _ _ <| c_seq fun K40 hK40 => c_reg <| s_move H rfl rfl (lt_ rfl) fun a H => s_call H rfl body_76 (H.args (vs := [(.pointer (some a12))]) rfl) (lt_ rfl) h ?_ (fun c w' h H => e_panic (P := PP) (fn := Tryz.f97) H h)
    clear H h a
    rintro _ w41 a ⟨B42, rfl, h⟩ H
    refine s_bin H rfl rfl rfl r_eql (lt_ rfl) fun a H => s_assign H rfl rfl (lt_ rfl) fun a H => c_nil <| hK40 _ _ <| c_ret ?_
    exact e_ret1 H rfl rfl h

theorem sim_pack_Reader_Bytes (r1 : Option Addr) (m2 : Int) (w : World) (Q : Ending → World → Prop) (h : vc_pack_Reader_Bytes r1 m2 w Q) : Calls PP F_pack_Reader_Bytes #[(.pointer r1), (.i m2)] w Q := by
 unfold vc_pack_Reader_Bytes at h
 refine enter (n := 66) Tryz.func98 rfl rfl (Nat.le_of_ble_eq_true rfl) fun a H => c_seq fun K3 hK3 => c_reg <| s_assign H rfl rfl (lt_ rfl) fun a H => c_nil <| hK3 _ _ <| c_seq fun K4 hK4 => c_seq fun K5 hK5 => c_reg <| s_move H rfl rfl (lt_ rfl) fun a H => s_call H rfl body_93 (H.args (vs := [(.pointer r1)]) rfl) (lt_ rfl) h ?_ (fun c w' h H => e_panic (P := PP) (fn := Tryz.f98) H h)
 clear H h a
 rintro _ w6 a ⟨s7, rfl, h⟩ H
 refine c_nil <| hK5 _ _ <| c_cond H rfl (fun h8 => ?_) (fun h8 => ?_)
 ·replace h := h.1 h8
  refine c_seq fun K9 hK9 => c_reg <| s_assign H rfl rfl (lt_ rfl) fun a H => c_nil <| hK9 _ _ <| c_ret ?_
  exact e_ret1 H rfl rfl h
 ·replace h := h.2 h8
  refine c_skip <| hK4 _ _ <| c_seq fun K10 hK10 => c_reg <| s_move H rfl rfl (lt_ rfl) fun a H => s_move H rfl rfl (lt_ rfl) fun a H => s_call H rfl body_94 (H.args (vs := [(.pointer r1), (.i m2)]) rfl) (lt_ rfl) h ?_ (fun c w' h H => e_panic (P := PP) (fn := Tryz.f98) H h)
  clear H h a
  rintro _ w11 a ⟨n12, n13, n14, rfl, h⟩ H
  refine s_move H rfl rfl (lt_ rfl) fun a H => ?_
  iterate 3 refine s_ext H rfl rfl rfl (lt_ rfl) fun a H => ?_
  iterate 3 refine s_assign H rfl rfl (lt_ rfl) fun a H => ?_
  refine c_nil <| hK10 _ _ <| c_seq fun K15 hK15 => ?_
  obtain ⟨R17, h, h69⟩ := h
  have h54 : ∀ (a : Act) (e16 : Int) (w18 : World), R17 e16 w18 → Has 66 [] a [(0, (.pointer r1)), (5, (.i n12)), (6, (.i n13)), (7, (.i e16))] → K15 a w18 := by
   clear h
   intro a e16 w18 h H
   replace h := h69 e16 w18 h
   refine hK15 _ _ <| c_seq fun K19 hK19 => c_seq fun K20 hK20 => c_reg <| s_move H rfl rfl (lt_ rfl) fun a H => s_bin H rfl rfl rfl r_neq (lt_ rfl) fun a H => c_nil <| hK20 _ _ <| c_cond H rfl (fun h21 => ?_) (fun h21 => ?_)
   ·replace h := h.1 h21
    refine c_seq fun K22 hK22 => c_reg <| s_move H rfl rfl (lt_ rfl) fun a H => ?_
    obtain ⟨a23, h30, h⟩ := h
    subst h30
    refine s_nil H rfl rfl (lt_ rfl) fun a H => s_fld H rfl rfl fld_135_0 (lt_ rfl) fun a H => s_move H rfl rfl (lt_ rfl) fun a H => s_call H rfl body_36 (H.args (vs := [(.pointer (some (a23.add 0))), (.i e16)]) rfl) (lt_ rfl) h ?_ (fun c w' h H => e_panic (P := PP) (fn := Tryz.f98) H h)
    clear H h a
    rintro _ w24 a ⟨rfl, h⟩ H
    refine c_nil <| hK22 _ _ <| c_seq fun K25 hK25 => c_reg <| s_assign H rfl rfl (lt_ rfl) fun a H => c_nil <| hK25 _ _ <| c_ret ?_
    exact e_ret1 H rfl rfl h
   ·replace h := h.2 h21
    refine c_skip <| hK19 _ _ <| c_seq fun K31 hK31 => c_reg <| s_move H rfl rfl (lt_ rfl) fun a H => ?_
    obtain ⟨a32, h53, h⟩ := h
    subst h53
    refine s_nil H rfl rfl (lt_ rfl) fun a H => s_fld H rfl rfl fld_135_2 (lt_ rfl) fun a H => ?_
    obtain ⟨l33, hc34, h⟩ := h
    refine s_load (v := (.i l33)) H rfl rfl one_3 hc34 (lt_ rfl) fun a H => s_move H rfl rfl (lt_ rfl) fun a H => s_bin H rfl rfl rfl r_add (lt_ rfl) fun a H => s_assign H rfl rfl (lt_ rfl) fun a H => c_nil <| hK31 _ _ <| c_seq fun K35 hK35 => c_reg ?_
    iterate 3 refine s_move H rfl rfl (lt_ rfl) fun a H => ?_
    refine s_bin H rfl rfl rfl r_add (lt_ rfl) fun a H => s_nil H rfl rfl (lt_ rfl) fun a H => s_fld H rfl rfl fld_135_2 (lt_ rfl) fun a H => ?_
    obtain ⟨h37, h38, h⟩ := h
    refine s_sto (p := a32.add 2) (v := (.i (wr .i64 ((wr .i64 (l33 + n13)) + n12)))) H rfl rfl rfl rfl one_3 rfl h37 h38 ?_
    clear H
    intro H
    generalize hww36 : World.setCell w18 (a32.add 2) (.i (wr .i64 ((wr .i64 (l33 + n13)) + n12))) = w36 at h ⊢
    have w36S : SetAt w18 (a32.add 2) (.i (wr .i64 ((wr .i64 (l33 + n13)) + n12))) w36 := ⟨hww36.symm⟩
    clear hww36 h37 h38
    refine c_nil <| hK35 _ _ <| c_seq fun K39 hK39 => ?_
    replace H := H.weaken (L' := [(0, (.pointer (some a32))), (8, (.i (wr .i64 (l33 + n13))))]) ⟨rfl, rfl, trivial⟩
    obtain ⟨l40, hc41, l42, hc43, h44, h45, h46, h⟩ := h
    refine c_any (V := [(0, (.pointer (some a32))), (1, (.pointer (some a32))), (2, (.pointer (some (a32.add 1)))), (3, l40.v), (4, (.i (wr .i64 (l33 + n13)))), (5, (.pointer (some a32))), (6, (.pointer (some a32))), (7, (.pointer (some (a32.add 2)))), (8, (.i l42)), (9, (Slc.v (l40.cut 1 (Int.toNat (wr .i64 (l33 + n13))) (Int.toNat (l42)))))]) (⟨[[], [0], [1], [2], [], [], [5], [6], [7], [3, 4, 8], [9], [0, 1, 2, 3, 4, 5, 6, 7, 8, 9, 10]], [some 55, some 56, some 57, some 58, some 59, some 60, some 61, some 62, some 63, some 64, some 65, some 4], [10], [0, 0, 0, 0, 0, 0, 0, 0, 0, 0, 0, 1], [0, 0, 0, 0, 0, 0, 0, 0, 0, 0, 1, 1]⟩ : Rg) [(0, (.pointer (some a32))), (8, (.i (wr .i64 (l33 + n13))))] mixed (by kernel_rfl) H ?_
    refine Stg.eff [0, 1, 2, 3, 4, 5, 6, 7, 8, 9] (by kernel_rfl) rfl (.cons ?_ (.cons ?_ (.cons ?_ (.cons ?_ (.cons ?_ (.cons ?_ (.cons ?_ (.cons ?_ (.cons ?_ (.cons ?_ .nil)))))))))) ?_
    ·refine Ans.mk rfl rfl fun a H => ?_
     replace H := H.weaken (L' := [(0, (.pointer (some a32)))]) ⟨rfl, trivial⟩
     refine s_move H rfl rfl (lt_ rfl) fun a H => c_nil ⟨rfl, rfl, H.weaken (L' := [(55, (.pointer (some a32)))]) ⟨rfl, trivial⟩⟩
    ·refine Ans.mk rfl rfl fun a H => ?_
     replace H := H.weaken (L' := [(55, (.pointer (some a32)))]) ⟨rfl, trivial⟩
     refine s_nil H rfl rfl (lt_ rfl) fun a H => c_nil ⟨rfl, rfl, H.weaken (L' := [(56, (.pointer (some a32)))]) ⟨rfl, trivial⟩⟩
    ·refine Ans.mk rfl rfl fun a H => ?_
     replace H := H.weaken (L' := [(56, (.pointer (some a32)))]) ⟨rfl, trivial⟩
     refine s_fld H rfl rfl fld_135_1 (lt_ rfl) fun a H => c_nil ⟨rfl, rfl, H.weaken (L' := [(57, (.pointer (some (a32.add 1))))]) ⟨rfl, trivial⟩⟩
    ·refine Ans.mk rfl rfl fun a H => ?_
     replace H := H.weaken (L' := [(57, (.pointer (some (a32.add 1))))]) ⟨rfl, trivial⟩
     refine s_load (v := l40.v) H rfl rfl one_22 hc41 (lt_ rfl) fun a H => c_nil ⟨rfl, rfl, H.weaken (L' := [(58, l40.v)]) ⟨rfl, trivial⟩⟩
    ·refine Ans.mk rfl rfl fun a H => ?_
     replace H := H.weaken (L' := [(8, (.i (wr .i64 (l33 + n13))))]) ⟨rfl, trivial⟩
     refine s_move H rfl rfl (lt_ rfl) fun a H => c_nil ⟨rfl, rfl, H.weaken (L' := [(59, (.i (wr .i64 (l33 + n13))))]) ⟨rfl, trivial⟩⟩
    ·refine Ans.mk rfl rfl fun a H => ?_
     replace H := H.weaken (L' := [(0, (.pointer (some a32)))]) ⟨rfl, trivial⟩
     refine s_move H rfl rfl (lt_ rfl) fun a H => c_nil ⟨rfl, rfl, H.weaken (L' := [(60, (.pointer (some a32)))]) ⟨rfl, trivial⟩⟩
    ·refine Ans.mk rfl rfl fun a H => ?_
     replace H := H.weaken (L' := [(60, (.pointer (some a32)))]) ⟨rfl, trivial⟩
     refine s_nil H rfl rfl (lt_ rfl) fun a H => c_nil ⟨rfl, rfl, H.weaken (L' := [(61, (.pointer (some a32)))]) ⟨rfl, trivial⟩⟩
    ·refine Ans.mk rfl rfl fun a H => ?_
     replace H := H.weaken (L' := [(61, (.pointer (some a32)))]) ⟨rfl, trivial⟩
     refine s_fld H rfl rfl fld_135_2 (lt_ rfl) fun a H => c_nil ⟨rfl, rfl, H.weaken (L' := [(62, (.pointer (some (a32.add 2))))]) ⟨rfl, trivial⟩⟩
    ·refine Ans.mk rfl rfl fun a H => ?_
     replace H := H.weaken (L' := [(62, (.pointer (some (a32.add 2))))]) ⟨rfl, trivial⟩
     refine s_load (v := (.i l42)) H rfl rfl one_3 hc43 (lt_ rfl) fun a H => c_nil ⟨rfl, rfl, H.weaken (L' := [(63, (.i l42))]) ⟨rfl, trivial⟩⟩
    ·refine Ans.mk rfl rfl fun a H => ?_
     replace H := H.weaken (L' := [(58, l40.v), (59, (.i (wr .i64 (l33 + n13)))), (63, (.i l42))]) ⟨rfl, rfl, rfl, trivial⟩
     refine s_slice (v := (Slc.v (l40.cut 1 (Int.toNat (wr .i64 (l33 + n13))) (Int.toNat (l42))))) H rfl rfl ⟨rfl, rfl⟩ ⟨rfl, rfl⟩ ⟨rfl, rfl⟩ (r_sliceSlc (lo := (some (.i64, wr .i64 (l33 + n13)))) (hi := (some (.i64, l42))) slc_22 rfl rfl h44 h45 h46) (lt_ rfl) fun a H => c_nil ⟨rfl, rfl, H.weaken (L' := [(64, (Slc.v (l40.cut 1 (Int.toNat (wr .i64 (l33 + n13))) (Int.toNat (l42)))))]) ⟨rfl, trivial⟩⟩
    ·intro a H
     replace H := H.weaken (L' := [(64, (Slc.v (l40.cut 1 (Int.toNat (wr .i64 (l33 + n13))) (Int.toNat (l42)))))]) ⟨rfl, trivial⟩
     refine s_call H rfl body_8 (H.args (vs := [(Slc.v (l40.cut 1 (Int.toNat (wr .i64 (l33 + n13))) (Int.toNat (l42))))]) rfl) (lt_ rfl) h ?_ (fun c w' h H => e_panic (P := PP) (fn := Tryz.f98) H h)
     clear H h a
     rintro _ w47 a ⟨C48, rfl, h⟩ H
     refine c_nil ?_
     refine effQ.ok (v := C48.v) (H.weaken (L' := [(65, C48.v)]) ⟨rfl, trivial⟩) ⟨[(0, (.pointer (some a32))), (1, (.pointer (some a32))), (2, (.pointer (some (a32.add 1)))), (3, l40.v), (4, (.i (wr .i64 (l33 + n13)))), (5, (.pointer (some a32))), (6, (.pointer (some a32))), (7, (.pointer (some (a32.add 2)))), (8, (.i l42)), (9, (Slc.v (l40.cut 1 (Int.toNat (wr .i64 (l33 + n13))) (Int.toNat (l42))))), (10, C48.v), (11, C48.v)], ⟨rfl, rfl, rfl, rfl, rfl, rfl, rfl, rfl, rfl, rfl, rfl, trivial⟩, ?_⟩
     refine Stg.fin [11] (by kernel_rfl) (.cons ?_ .nil) ?_
     ·refine Ans.mk rfl rfl fun a H => ?_
      replace H := H.weaken (L' := [(65, C48.v)]) ⟨rfl, trivial⟩
      refine s_assign H rfl rfl (lt_ rfl) fun a H => c_nil ⟨rfl, rfl, H.weaken (L' := [(4, C48.v)]) ⟨rfl, trivial⟩⟩
     ·intro a H
      replace H := H.weaken (L' := [(4, C48.v)]) ⟨rfl, trivial⟩
      refine hK39 _ _ <| c_ret ?_
      exact e_ret1 H rfl rfl h
  clear h69
  refine c_seq fun K55 hK55 => c_regD mixed (by kernel_rfl) <| z_move H rfl rfl (lt_ rfl) fun a H => z_bin H rfl rfl rfl r_eql (lt_ rfl) fun a H => z_move H rfl rfl (lt_ rfl) fun a H => ?_
  obtain ⟨x65, h66, h67, h⟩ := h
  refine zg_join (n := 66) [(35, (.bool x65)), (0, (.pointer r1)), (5, (.i n12)), (6, (.i n13)), (7, (.i n14))] (.succ (.succ (.succ (.succ (.succ (.succ (.succ (.succ (.succ (.succ (.succ (.succ (.succ (.succ (.succ (.zero _)))))))))))))))) ?_ ?_
  ·intro h58
   try clear h
   rcases Bool.eq_false_or_eq_true (decide (n14 = 0)) with h57 | h57
   ·replace H := H.ch (t := 20) (b := true) rfl h57
    replace h := h66 h57
    refine z_move H (wantG H rfl rfl) rfl (lt_ rfl) fun a H => z_move H (wantG H rfl rfl) rfl (lt_ rfl) fun a H => ?_
    obtain ⟨a59, h64, h⟩ := h
    subst h64
    refine z_nil H (wantG H rfl rfl) rfl (lt_ rfl) fun a H => z_fld H (wantG H rfl rfl) rfl fld_135_1 (lt_ rfl) fun a H => ?_
    obtain ⟨l60, hc61, h⟩ := h
    refine z_load (v := l60.v) H (wantG H rfl rfl) rfl one_22 hc61 (lt_ rfl) fun a H => z_blt H (wantG H rfl rfl) (H.args (vs := [l60.v]) rfl) (lt_ rfl) (fun cs w => b_lenS (z := l60) sl_22) fun a H => z_move H (wantG H rfl rfl) rfl (lt_ rfl) fun a H => z_nil H (wantG H rfl rfl) rfl (lt_ rfl) fun a H => z_fld H (wantG H rfl rfl) rfl fld_135_2 (lt_ rfl) fun a H => ?_
    obtain ⟨l62, hc63, h⟩ := h
    refine z_load (v := (.i l62)) H (wantG H rfl rfl) rfl one_3 hc63 (lt_ rfl) fun a H => z_bin H (wantG H rfl rfl) rfl rfl r_sub (lt_ rfl) fun a H => z_move H (wantG H rfl rfl) rfl (lt_ rfl) fun a H => z_bin H (wantG H rfl rfl) rfl rfl r_sub (lt_ rfl) fun a H => z_bin H (wantG H rfl rfl) rfl rfl r_gtr (lt_ rfl) fun a H => z_pickT H rfl rfl rfl (lt_ rfl) fun a H => ?_
    subst h
    exact h58 _ (H.weaken ⟨rfl, rfl, rfl, rfl, rfl, trivial⟩)
   ·replace H := H.ch (t := 20) (b := false) rfl h57
    iterate 14 refine z_skip H (wantN H rfl rfl rfl) rfl (lt_ rfl) fun a H => ?_
    refine z_pickF H rfl rfl rfl (lt_ rfl) fun a H => ?_
    replace h := h67 h57
    subst h
    exact h58 _ (H.weaken ⟨rfl, rfl, rfl, rfl, rfl, trivial⟩)
  ·clear H a
   clear h66 h67
   intro a H
   refine wpQuiet_nil ?_
   rintro _ ⟨k56, rfl⟩
   replace h := h k56
   refine hK55 _ _ <| c_cond H rfl (fun h68 => ?_) (fun h68 => ?_)
   ·replace h := h.1 h68
    refine c_reg <| s_assign H rfl rfl (lt_ rfl) fun a H => c_nil ?_
    exact h54 _ _ _ h (H.weaken ⟨rfl, rfl, rfl, rfl, trivial⟩)
   ·replace h := h.2 h68
    refine c_skip ?_
    exact h54 _ _ _ h (H.weaken ⟨rfl, rfl, rfl, rfl, trivial⟩)

theorem sim_pack_Reader_End (r1 : Option Addr) (w : World) (Q : Ending → World → Prop) (h : vc_pack_Reader_End r1 w Q) : Calls PP F_pack_Reader_End #[(.pointer r1)] w Q := by
 unfold vc_pack_Reader_End at h
 refine enter (n := 21) Tryz.func99 rfl rfl (Nat.le_of_ble_eq_true rfl) fun a H => c_seq fun K2 hK2 => c_pre 2 mixed (by kernel_rfl) rfl (by kernel_rfl) ?_
 simp only [List.take_succ_cons, List.take_zero, List.drop_succ_cons, List.drop_zero]
 refine s_move H rfl rfl (lt_ rfl) fun a H => s_call H rfl body_93 (H.args (vs := [(.pointer r1)]) rfl) (lt_ rfl) h ?_ (fun c w' h H => e_panic (P := PP) (fn := Tryz.f99) H h)
 clear H h a
 rintro _ w3 a ⟨s4, rfl, h⟩ H
 refine c_nil ?_
 simp only [preQ]
 refine z_un H rfl rfl r_not (lt_ rfl) fun a H => z_move H rfl rfl (lt_ rfl) fun a H => ?_
 obtain ⟨x14, h15, h16, h⟩ := h
 refine zg_join (n := 21) [(16, (.bool x14)), (0, (.pointer r1))] (.succ (.succ (.succ (.succ (.succ (.succ (.succ (.succ (.succ (.succ (.succ (.zero _)))))))))))) ?_ ?_
 ·intro h7
  try clear h
  rcases Bool.eq_false_or_eq_true (!s4) with h6 | h6
  ·replace H := H.ch (t := 5) (b := true) rfl h6
   replace h := h15 h6
   refine z_move H (wantG H rfl rfl) rfl (lt_ rfl) fun a H => ?_
   obtain ⟨a8, h13, h⟩ := h
   subst h13
   refine z_nil H (wantG H rfl rfl) rfl (lt_ rfl) fun a H => z_fld H (wantG H rfl rfl) rfl fld_135_2 (lt_ rfl) fun a H => ?_
   obtain ⟨l9, hc10, h⟩ := h
   refine z_load (v := (.i l9)) H (wantG H rfl rfl) rfl one_3 hc10 (lt_ rfl) fun a H => z_move H (wantG H rfl rfl) rfl (lt_ rfl) fun a H => z_nil H (wantG H rfl rfl) rfl (lt_ rfl) fun a H => z_fld H (wantG H rfl rfl) rfl fld_135_1 (lt_ rfl) fun a H => ?_
   obtain ⟨l11, hc12, h⟩ := h
   refine z_load (v := l11.v) H (wantG H rfl rfl) rfl one_22 hc12 (lt_ rfl) fun a H => z_blt H (wantG H rfl rfl) (H.args (vs := [l11.v]) rfl) (lt_ rfl) (fun cs w => b_lenS (z := l11) sl_22) fun a H => z_bin H (wantG H rfl rfl) rfl rfl r_lss (lt_ rfl) fun a H => z_pickT H rfl rfl rfl (lt_ rfl) fun a H => ?_
   subst h
   exact h7 _ (H.weaken ⟨rfl, rfl, trivial⟩)
  ·replace H := H.ch (t := 5) (b := false) rfl h6
   iterate 10 refine z_skip H (wantN H rfl rfl rfl) rfl (lt_ rfl) fun a H => ?_
   refine z_pickF H rfl rfl rfl (lt_ rfl) fun a H => ?_
   replace h := h16 h6
   subst h
   exact h7 _ (H.weaken ⟨rfl, rfl, trivial⟩)
 ·clear H a
  clear h15 h16
  intro a H
  refine wpQuiet_nil ?_
  rintro _ ⟨k5, rfl⟩
  replace h := h k5
  refine hK2 _ _ <| c_cond H rfl (fun h17 => ?_) (fun h17 => ?_)
  ·replace h := h.1 h17
   refine c_reg <| s_move H rfl rfl (lt_ rfl) fun a H => ?_
   obtain ⟨a18, h24, h⟩ := h
   subst h24
   refine s_nil H rfl rfl (lt_ rfl) fun a H => s_fld H rfl rfl fld_135_0 (lt_ rfl) fun a H => s_call H rfl body_36 (H.args (vs := [(.pointer (some (a18.add 0))), (.i 35)]) rfl) (lt_ rfl) h ?_ (fun c w' h H => e_panic (P := PP) (fn := Tryz.f99) H h)
   clear H h a
   rintro _ w19 a ⟨rfl, h⟩ H
   refine c_nil ?_
   exact e_ret0 H rfl h
  ·replace h := h.2 h17
   refine c_skip ?_
   exact e_ret0 H rfl h

theorem sim_sherdref08_Zero (C1 C2 : Int) (w : World) (Q : Ending → World → Prop) (h : vc_sherdref08_Zero C1 C2 w Q) : Calls PP F_sherdref08_Zero #[(.agg #[(.i C1), (.i C2)])] w Q := by
 unfold vc_sherdref08_Zero at h
 refine enter (n := 6) Tryz.func100 rfl rfl (Nat.le_of_ble_eq_true rfl) fun a H => c_seq fun K3 hK3 => c_reg ?_
 replace h := h.get
 obtain ⟨b4, w5, n6, h⟩ := h
 refine s_box H rfl rfl (lt_ rfl) ?_
 rw [← n6.at_]
 clear H a
 intro a H
 refine n6.go <| s_assign H rfl rfl (lt_ rfl) fun a H => c_nil <| hK3 _ _ <| c_seq fun K7 hK7 => c_reg <| s_loadN (l := [(.i C1), (.i C2)]) H rfl rfl agg_24 rfl ⟨(n6.cell (i := 0) rfl), (n6.cell (i := 1) rfl), trivial⟩ (lt_ rfl) fun a H => s_build H rfl (by rw [H.parts (vs := []) rfl]; exact bd_24 w5) (lt_ rfl) fun a H => s_bin H rfl rfl rfl (r_eqst eqg_24 (eqst_24 0) rfl) (lt_ rfl) fun a H => s_assign H rfl rfl (lt_ rfl) fun a H => c_nil <| hK7 _ _ <| c_ret ?_
 exact e_ret1 H rfl rfl h

theorem sim_sherdref08_proper (C1 C2 : Int) (w : World) (Q : Ending → World → Prop) (h : vc_sherdref08_proper C1 C2 w Q) : Calls PP F_sherdref08_proper #[(.agg #[(.i C1), (.i C2)])] w Q := by
 unfold vc_sherdref08_proper at h
 refine enter (n := 21) Tryz.func101 rfl rfl (Nat.le_of_ble_eq_true rfl) fun a H => c_seq fun K3 hK3 => c_reg ?_
 replace h := h.get
 obtain ⟨b4, w5, n6, h⟩ := h
 refine s_box H rfl rfl (lt_ rfl) ?_
 rw [← n6.at_]
 clear H a
 intro a H
 refine n6.go <| s_assign H rfl rfl (lt_ rfl) fun a H => c_nil <| hK3 _ _ <| c_seq fun K7 hK7 => c_reg <| s_fld H rfl rfl fld_24_0 (lt_ rfl) fun a H => s_load (v := (.i C1)) H rfl rfl one_2 (n6.cell (i := 0) rfl) (lt_ rfl) fun a H => s_bin H rfl rfl rfl r_geq (lt_ rfl) fun a H => s_move H rfl rfl (lt_ rfl) fun a H => g_join (n := 21) [(10, (.bool ((decide (1 ≤ C1)) && (decide (C1 ≤ 4611686018427387903))))), (1, (.pointer (some (blk b4))))] (.succ (.succ (.succ (.succ (.zero _))))) ?_ ?_
 ·intro h9
  try clear h
  rcases Bool.eq_false_or_eq_true (decide (1 ≤ C1)) with h8 | h8
  ·replace H := H.ch (t := 6) (b := true) rfl h8
   refine s_fld H (wantG H rfl rfl) rfl fld_24_0 (lt_ rfl) fun a H => s_load (v := (.i C1)) H (wantG H rfl rfl) rfl one_2 (n6.cell (i := 0) rfl) (lt_ rfl) fun a H => s_bin H (wantG H rfl rfl) rfl rfl r_leq (lt_ rfl) fun a H => s_pickT H rfl rfl rfl (lt_ rfl) fun a H => ?_
   exact h9 _ (H.weaken ⟨by rw [h8]; rfl, rfl, trivial⟩)
  ·replace H := H.ch (t := 6) (b := false) rfl h8
   iterate 3 refine s_skip H (wantN H rfl rfl rfl) rfl (lt_ rfl) fun a H => ?_
   refine s_pickF H rfl rfl rfl (lt_ rfl) fun a H => ?_
   exact h9 _ (H.weaken ⟨by rw [h8]; rfl, rfl, trivial⟩)
 ·clear H a
  intro a H
  refine s_move H rfl rfl (lt_ rfl) fun a H => g_join (n := 21) [(15, (.bool (((decide (1 ≤ C1)) && (decide (C1 ≤ 4611686018427387903))) && (decide (1 ≤ C2))))), (1, (.pointer (some (blk b4))))] (.succ (.succ (.succ (.succ (.zero _))))) ?_ ?_
  ·intro h11
   try clear h
   rcases Bool.eq_false_or_eq_true ((decide (1 ≤ C1)) && (decide (C1 ≤ 4611686018427387903))) with h10 | h10
   ·replace H := H.ch (t := 11) (b := true) rfl h10
    refine s_fld H (wantG H rfl rfl) rfl fld_24_1 (lt_ rfl) fun a H => s_load (v := (.i C2)) H (wantG H rfl rfl) rfl one_3 (n6.cell (i := 1) rfl) (lt_ rfl) fun a H => s_bin H (wantG H rfl rfl) rfl rfl r_geq (lt_ rfl) fun a H => s_pickT H rfl rfl rfl (lt_ rfl) fun a H => ?_
    exact h11 _ (H.weaken ⟨by rw [h10]; rfl, rfl, trivial⟩)
   ·replace H := H.ch (t := 11) (b := false) rfl h10
    iterate 3 refine s_skip H (wantN H rfl rfl rfl) rfl (lt_ rfl) fun a H => ?_
    refine s_pickF H rfl rfl rfl (lt_ rfl) fun a H => ?_
    exact h11 _ (H.weaken ⟨by rw [h10]; rfl, rfl, trivial⟩)
  ·clear H a
   intro a H
   refine s_move H rfl rfl (lt_ rfl) fun a H => g_join (n := 21) [(20, (.bool ((((decide (1 ≤ C1)) && (decide (C1 ≤ 4611686018427387903))) && (decide (1 ≤ C2))) && (decide (C2 ≤ 65535)))))] (.succ (.succ (.succ (.succ (.zero _))))) ?_ ?_
   ·intro h13
    try clear h
    rcases Bool.eq_false_or_eq_true (((decide (1 ≤ C1)) && (decide (C1 ≤ 4611686018427387903))) && (decide (1 ≤ C2))) with h12 | h12
    ·replace H := H.ch (t := 16) (b := true) rfl h12
     refine s_fld H (wantG H rfl rfl) rfl fld_24_1 (lt_ rfl) fun a H => s_load (v := (.i C2)) H (wantG H rfl rfl) rfl one_3 (n6.cell (i := 1) rfl) (lt_ rfl) fun a H => s_bin H (wantG H rfl rfl) rfl rfl r_leq (lt_ rfl) fun a H => s_pickT H rfl rfl rfl (lt_ rfl) fun a H => ?_
     exact h13 _ (H.weaken ⟨by rw [h12]; rfl, trivial⟩)
    ·replace H := H.ch (t := 16) (b := false) rfl h12
     iterate 3 refine s_skip H (wantN H rfl rfl rfl) rfl (lt_ rfl) fun a H => ?_
     refine s_pickF H rfl rfl rfl (lt_ rfl) fun a H => ?_
     exact h13 _ (H.weaken ⟨by rw [h12]; rfl, trivial⟩)
   ·clear H a
    intro a H
    refine s_assign H rfl rfl (lt_ rfl) fun a H => c_nil <| hK7 _ _ <| c_ret ?_
    exact e_ret1 H rfl rfl h

theorem sim_tag_proper (C1 C2 : Int) (w : World) (Q : Ending → World → Prop) (h : vc_tag_proper C1 C2 w Q) : Calls PP F_tag_proper #[(.agg #[(.i C1), (.i C2)])] w Q := by
 unfold vc_tag_proper at h
 refine enter (n := 21) Tryz.func102 rfl rfl (Nat.le_of_ble_eq_true rfl) fun a H => c_seq fun K3 hK3 => c_reg ?_
 replace h := h.get
 obtain ⟨b4, w5, n6, h⟩ := h
 refine s_box H rfl rfl (lt_ rfl) ?_
 rw [← n6.at_]
 clear H a
 intro a H
 refine n6.go <| s_assign H rfl rfl (lt_ rfl) fun a H => c_nil <| hK3 _ _ <| c_seq fun K7 hK7 => c_reg <| s_fld H rfl rfl fld_24_0 (lt_ rfl) fun a H => s_load (v := (.i C1)) H rfl rfl one_2 (n6.cell (i := 0) rfl) (lt_ rfl) fun a H => s_bin H rfl rfl rfl r_geq (lt_ rfl) fun a H => s_move H rfl rfl (lt_ rfl) fun a H => g_join (n := 21) [(10, (.bool ((decide (1 ≤ C1)) && (decide (C1 ≤ 4611686018427387903))))), (1, (.pointer (some (blk b4))))] (.succ (.succ (.succ (.succ (.zero _))))) ?_ ?_
 ·intro h9
  try clear h
  rcases Bool.eq_false_or_eq_true (decide (1 ≤ C1)) with h8 | h8
  ·replace H := H.ch (t := 6) (b := true) rfl h8
   refine s_fld H (wantG H rfl rfl) rfl fld_24_0 (lt_ rfl) fun a H => s_load (v := (.i C1)) H (wantG H rfl rfl) rfl one_2 (n6.cell (i := 0) rfl) (lt_ rfl) fun a H => s_bin H (wantG H rfl rfl) rfl rfl r_leq (lt_ rfl) fun a H => s_pickT H rfl rfl rfl (lt_ rfl) fun a H => ?_
   exact h9 _ (H.weaken ⟨by rw [h8]; rfl, rfl, trivial⟩)
  ·replace H := H.ch (t := 6) (b := false) rfl h8
   iterate 3 refine s_skip H (wantN H rfl rfl rfl) rfl (lt_ rfl) fun a H => ?_
   refine s_pickF H rfl rfl rfl (lt_ rfl) fun a H => ?_
   exact h9 _ (H.weaken ⟨by rw [h8]; rfl, rfl, trivial⟩)
 ·clear H a
  intro a H
  refine s_move H rfl rfl (lt_ rfl) fun a H => g_join (n := 21) [(15, (.bool (((decide (1 ≤ C1)) && (decide (C1 ≤ 4611686018427387903))) && (decide (1 ≤ C2))))), (1, (.pointer (some (blk b4))))] (.succ (.succ (.succ (.succ (.zero _))))) ?_ ?_
  ·intro h11
   try clear h
   rcases Bool.eq_false_or_eq_true ((decide (1 ≤ C1)) && (decide (C1 ≤ 4611686018427387903))) with h10 | h10
   ·replace H := H.ch (t := 11) (b := true) rfl h10
    refine s_fld H (wantG H rfl rfl) rfl fld_24_1 (lt_ rfl) fun a H => s_load (v := (.i C2)) H (wantG H rfl rfl) rfl one_3 (n6.cell (i := 1) rfl) (lt_ rfl) fun a H => s_bin H (wantG H rfl rfl) rfl rfl r_geq (lt_ rfl) fun a H => s_pickT H rfl rfl rfl (lt_ rfl) fun a H => ?_
    exact h11 _ (H.weaken ⟨by rw [h10]; rfl, rfl, trivial⟩)
   ·replace H := H.ch (t := 11) (b := false) rfl h10
    iterate 3 refine s_skip H (wantN H rfl rfl rfl) rfl (lt_ rfl) fun a H => ?_
    refine s_pickF H rfl rfl rfl (lt_ rfl) fun a H => ?_
    exact h11 _ (H.weaken ⟨by rw [h10]; rfl, rfl, trivial⟩)
  ·clear H a
   intro a H
   refine s_move H rfl rfl (lt_ rfl) fun a H => g_join (n := 21) [(20, (.bool ((((decide (1 ≤ C1)) && (decide (C1 ≤ 4611686018427387903))) && (decide (1 ≤ C2))) && (decide (C2 ≤ 65535)))))] (.succ (.succ (.succ (.succ (.zero _))))) ?_ ?_
   ·intro h13
    try clear h
    rcases Bool.eq_false_or_eq_true (((decide (1 ≤ C1)) && (decide (C1 ≤ 4611686018427387903))) && (decide (1 ≤ C2))) with h12 | h12
    ·replace H := H.ch (t := 16) (b := true) rfl h12
     refine s_fld H (wantG H rfl rfl) rfl fld_24_1 (lt_ rfl) fun a H => s_load (v := (.i C2)) H (wantG H rfl rfl) rfl one_3 (n6.cell (i := 1) rfl) (lt_ rfl) fun a H => s_bin H (wantG H rfl rfl) rfl rfl r_leq (lt_ rfl) fun a H => s_pickT H rfl rfl rfl (lt_ rfl) fun a H => ?_
     exact h13 _ (H.weaken ⟨by rw [h12]; rfl, trivial⟩)
    ·replace H := H.ch (t := 16) (b := false) rfl h12
     iterate 3 refine s_skip H (wantN H rfl rfl rfl) rfl (lt_ rfl) fun a H => ?_
     refine s_pickF H rfl rfl rfl (lt_ rfl) fun a H => ?_
     exact h13 _ (H.weaken ⟨by rw [h12]; rfl, trivial⟩)
   ·clear H a
    intro a H
    refine s_assign H rfl rfl (lt_ rfl) fun a H => c_nil <| hK7 _ _ <| c_ret ?_
    exact e_ret1 H rfl rfl h

end Go.Proofs.YtnhgnfflihoaiaaGreatDoor
