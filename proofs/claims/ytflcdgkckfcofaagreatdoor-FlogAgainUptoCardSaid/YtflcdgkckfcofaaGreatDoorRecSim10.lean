/-
  The conditions give the machine's calls; printed by vcgen.py.
-/
import Derived.Test.YtflcdgkckfcofaaGreatDoorRecVc
namespace Go.Proofs.YtflcdgkckfcofaaGreatDoor
open Go Go.Vc
set_option maxRecDepth 100000
set_option maxHeartbeats 4000000
theorem sim_pack_Reader_stopped (r1 : Option Addr) (w : World) (Q : Ending → World → Prop) (h : vc_pack_Reader_stopped r1 w Q) : Calls PP F_pack_Reader_stopped #[(.pointer r1)] w Q := by
 unfold vc_pack_Reader_stopped at h
 refine enter (n := 13) Tryz.func167 rfl rfl (Nat.le_of_ble_eq_true rfl) fun a H => c_seq fun K2 hK2 => c_reg <| s_assign H rfl rfl (lt_ rfl) fun a H => c_nil <| hK2 _ _ <| c_seq fun K3 hK3 => c_reg <| s_move H rfl rfl (lt_ rfl) fun a H => s_bin H rfl rfl rfl (r_eqP0 ptr_201) (lt_ rfl) fun a H => s_move H rfl rfl (lt_ rfl) fun a H => ?_
 obtain ⟨x10, h11, h12, h⟩ := h
 refine g_join (n := 13) [(12, (.bool x10))] (.succ (.succ (.succ (.succ (.succ (.succ (.succ (.zero _)))))))) ?_ ?_
 ·intro h5
  try clear h
  rcases Bool.eq_false_or_eq_true r1.isNone with h4 | h4
  ·replace H := H.ch (t := 5) (b := true) rfl h4
   iterate 6 refine s_skip H (wantN H rfl rfl rfl) rfl (lt_ rfl) fun a H => ?_
   refine s_pickT H rfl rfl rfl (lt_ rfl) fun a H => ?_
   replace h := h12 h4
   subst h
   exact h5 _ (H.weaken ⟨rfl, trivial⟩)
  ·replace H := H.ch (t := 5) (b := false) rfl h4
   replace h := h11 h4
   refine s_move H (wantG H rfl rfl) rfl (lt_ rfl) fun a H => ?_
   obtain ⟨a6, h9, h⟩ := h
   revert H
   subst h9
   intro H
   refine s_nil H (wantG H rfl rfl) rfl (lt_ rfl) fun a H => s_fld H (wantG H rfl rfl) rfl fld_233_0 (lt_ rfl) fun a H => s_fld H (wantG H rfl rfl) rfl fld_178_0 (lt_ rfl) fun a H => ?_
   obtain ⟨l7, hc8, h⟩ := h
   refine s_load (v := (.i l7)) H (wantG H rfl rfl) rfl one_40 hc8 (lt_ rfl) fun a H => s_bin H (wantG H rfl rfl) rfl rfl r_neq (lt_ rfl) fun a H => s_pickF H rfl rfl rfl (lt_ rfl) fun a H => ?_
   subst h
   exact h5 _ (H.weaken ⟨rfl, trivial⟩)
 ·clear H a
  clear h11 h12
  intro a H
  refine s_assign H rfl rfl (lt_ rfl) fun a H => c_nil <| hK3 _ _ <| c_ret ?_
  exact e_ret1 H rfl rfl h

theorem sim_pack_Reader_number (r1 : Option Addr) (m2 : Int) (w : World) (Q : Ending → World → Prop) (h : vc_pack_Reader_number r1 m2 w Q) : Calls PP F_pack_Reader_number #[(.pointer r1), (.i m2)] w Q := by
 unfold vc_pack_Reader_number at h
 refine enter (n := 56) Tryz.func168 rfl rfl (Nat.le_of_ble_eq_true rfl) fun a H => c_seq fun K3 hK3 => c_reg ?_
 iterate 3 refine s_assign H rfl rfl (lt_ rfl) fun a H => ?_
 refine c_nil <| hK3 _ _ <| c_seq fun K4 hK4 => c_regD mixed (by kernel_rfl) <| z_move H rfl rfl (lt_ rfl) fun a H => ?_
 obtain ⟨a6, h55, h⟩ := h
 revert H
 subst h55
 intro H
 refine z_nil H rfl rfl (lt_ rfl) fun a H => z_fld H rfl rfl fld_233_1 (lt_ rfl) fun a H => ?_
 obtain ⟨l7, hc8, h⟩ := h
 refine z_load (v := l7.v) H rfl rfl one_51 hc8 (lt_ rfl) fun a H => z_move H rfl rfl (lt_ rfl) fun a H => z_nil H rfl rfl (lt_ rfl) fun a H => z_fld H rfl rfl fld_233_2 (lt_ rfl) fun a H => ?_
 obtain ⟨l9, hc10, h⟩ := h
 refine z_load (v := (.i l9)) H rfl rfl one_3 hc10 (lt_ rfl) fun a H => ?_
 obtain ⟨h11, h12, h13, h⟩ := h
 refine z_slice (v := (Slc.v (l7.cut 1 (Int.toNat (l9)) (Int.toNat ((l7.l : Int)))))) H rfl rfl ⟨rfl, rfl⟩ ⟨rfl, rfl⟩ ⟨rfl, rfl⟩ (fun w => r_sliceSlc (lo := (some (.i64, l9))) (hi := none) slc_51 rfl rfl h11 h12 h13) (lt_ rfl) fun a H => z_assign H rfl rfl (lt_ rfl) fun a H => wpQuiet_nil ?_
 rintro _ ⟨k5, rfl⟩
 replace h := h k5
 refine hK4 _ _ <| c_seq fun K14 hK14 => c_reg <| s_assign H rfl rfl (lt_ rfl) fun a H => c_nil <| hK14 _ _ <| c_seq fun K15 hK15 => c_seq fun K16 hK16 => c_reg <| s_move H rfl rfl (lt_ rfl) fun a H => c_nil <| hK16 _ _ <| c_block ?_
 obtain ⟨I20, m21, h53, h54⟩ := h
 refine c_loop (σ := Int × Int) (fun z w => I20 z.1 z.2 w) (fun z w => m21 z.1 z.2 w) (fun z => [(1, (.i m2)), (7, (Slc.v (l7.cut 1 (Int.toNat (l9)) (Int.toNat ((l7.l : Int)))))), (8, (.i z.1)), (20, (.i z.2))]) (0, 0) h53 (H.weaken ⟨rfl, rfl, rfl, rfl, trivial⟩) ?_
 clear H h53
 rintro ⟨n17, s18⟩ a w19 h H
 replace h := h54 n17 s18 w19 h
 clear h54
 replace H : Has 56 [] a [(1, (.i m2)), (7, (Slc.v (l7.cut 1 (Int.toNat (l9)) (Int.toNat ((l7.l : Int)))))), (8, (.i n17)), (20, (.i s18))] := H
 refine c_seq fun K22 hK22 => c_reg <| s_bin H rfl rfl rfl r_lss (lt_ rfl) fun a H => c_nil <| hK22 _ _ <| c_seq fun K23 hK23 => c_cond H rfl (fun h24 => ?_) (fun h24 => ?_)
 ·replace h := h.1 h24
  refine c_skip <| hK23 _ _ <| c_seq fun K25 hK25 => c_block <| c_seq fun K26 hK26 => c_reg <| s_move H rfl rfl (lt_ rfl) fun a H => s_assign H rfl rfl (lt_ rfl) fun a H => c_nil <| hK26 _ _ <| c_seq fun K27 hK27 => c_seq fun K28 hK28 => c_reg <| s_move H rfl rfl (lt_ rfl) fun a H => s_move H rfl rfl (lt_ rfl) fun a H => ?_
  refine s_blt H rfl (H.args (vs := [(Slc.v (l7.cut 1 (Int.toNat (l9)) (Int.toNat ((l7.l : Int)))))]) rfl) (lt_ rfl) (fun cs => b_lenS (z := l7.cut 1 (Int.toNat (l9)) (Int.toNat ((l7.l : Int)))) sl_51) fun a H => s_bin H rfl rfl rfl r_geq (lt_ rfl) fun a H => c_nil <| hK28 _ _ <| c_cond H rfl (fun h29 => ?_) (fun h29 => ?_)
  ·replace h := h.1 h29
   refine c_seq fun K30 hK30 => c_reg ?_
   iterate 3 refine s_assign H rfl rfl (lt_ rfl) fun a H => ?_
   refine c_nil <| hK30 _ _ <| c_ret ?_
   exact e_ret3 H rfl rfl rfl rfl h
  ·replace h := h.2 h29
   refine c_skip <| hK27 _ _ <| c_seq fun K31 hK31 => c_reg <| s_move H rfl rfl (lt_ rfl) fun a H => s_move H rfl rfl (lt_ rfl) fun a H => ?_
   obtain ⟨a32, h33, h34, h35, h⟩ := h
   refine s_idxS (s := l7.cut 1 (Int.toNat (l9)) (Int.toNat ((l7.l : Int)))) H rfl rfl rfl slc_51 h33 h34 h35 (lt_ rfl) fun a H => ?_
   obtain ⟨l36, hc37, h⟩ := h
   refine s_load (v := (.int .u8 l36)) H rfl rfl one_5 hc37 (lt_ rfl) fun a H => s_assign H rfl rfl (lt_ rfl) fun a H => c_nil <| hK31 _ _ <| c_seq fun K38 hK38 => c_reg <| s_move H rfl rfl (lt_ rfl) fun a H => s_move H rfl rfl (lt_ rfl) fun a H => s_bin H rfl rfl rfl r_and (lt_ rfl) fun a H => s_cv H rfl rfl (r_cvI some_5 int_2) (lt_ rfl) fun a H => s_move H rfl rfl (lt_ rfl) fun a H => s_bin H rfl rfl rfl r_mul (lt_ rfl) fun a H => ?_
   obtain ⟨h39, h⟩ := h
   refine s_bin H rfl rfl rfl (r_shl h39) (lt_ rfl) fun a H => s_bin H rfl rfl rfl r_or (lt_ rfl) fun a H => s_assign H rfl rfl (lt_ rfl) fun a H => c_nil <| hK38 _ _ <| c_seq fun K40 hK40 => c_reg <| s_move H rfl rfl (lt_ rfl) fun a H => s_bin H rfl rfl rfl r_lss (lt_ rfl) fun a H => c_nil <| hK40 _ _ <| c_cond H rfl (fun h41 => ?_) (fun h41 => ?_)
   ·replace h := h.1 h41
    refine c_seq fun K42 hK42 => c_block <| c_seq fun K43 hK43 => c_reg <| s_move H rfl rfl (lt_ rfl) fun a H => s_bin H rfl rfl rfl r_eql (lt_ rfl) fun a H => s_move H rfl rfl (lt_ rfl) fun a H => g_join (n := 56) [(47, (.bool ((decide (l36 = 0)) && (decide (0 < s18))))), (1, (.i m2)), (8, (.i (orI .i64 n17 (shlI .i64 (wr .i64 (andI .u8 l36 127)) (wr .i64 (7 * s18)))))), (9, (.i s18))] (.succ (.succ (.succ (.zero _)))) ?_ ?_
    ·intro h45
     try clear h
     rcases Bool.eq_false_or_eq_true (decide (l36 = 0)) with h44 | h44
     ·replace H := H.ch (t := 44) (b := true) rfl h44
      refine s_move H (wantG H rfl rfl) rfl (lt_ rfl) fun a H => s_bin H (wantG H rfl rfl) rfl rfl r_gtr (lt_ rfl) fun a H => s_pickT H rfl rfl rfl (lt_ rfl) fun a H => ?_
      exact h45 _ (H.weaken ⟨by rw [h44]; rfl, rfl, rfl, rfl, trivial⟩)
     ·replace H := H.ch (t := 44) (b := false) rfl h44
      refine s_skip H (wantN H rfl rfl rfl) rfl (lt_ rfl) fun a H => s_skip H (wantN H rfl rfl rfl) rfl (lt_ rfl) fun a H => s_pickF H rfl rfl rfl (lt_ rfl) fun a H => ?_
      exact h45 _ (H.weaken ⟨by rw [h44]; rfl, rfl, rfl, rfl, trivial⟩)
    ·clear H a
     intro a H
     refine s_assign H rfl rfl (lt_ rfl) fun a H => c_nil <| hK43 _ _ <| c_cond H rfl (fun h46 => ?_) (fun h46 => ?_)
     ·replace h := h.1 h46
      refine c_seq fun K47 hK47 => c_reg ?_
      iterate 3 refine s_assign H rfl rfl (lt_ rfl) fun a H => ?_
      refine c_nil <| hK47 _ _ <| c_ret ?_
      exact e_ret3 H rfl rfl rfl rfl h
     ·replace h := h.2 h46
      refine c_seq fun K48 hK48 => c_reg <| s_move H rfl rfl (lt_ rfl) fun a H => s_move H rfl rfl (lt_ rfl) fun a H => s_bin H rfl rfl rfl r_gtr (lt_ rfl) fun a H => s_assign H rfl rfl (lt_ rfl) fun a H => c_nil <| hK48 _ _ <| c_cond H rfl (fun h49 => ?_) (fun h49 => ?_)
      ·replace h := h.1 h49
       refine c_seq fun K50 hK50 => c_reg ?_
       iterate 3 refine s_assign H rfl rfl (lt_ rfl) fun a H => ?_
       refine c_nil <| hK50 _ _ <| c_ret ?_
       exact e_ret3 H rfl rfl rfl rfl h
      ·replace h := h.2 h49
       refine c_skip <| hK42 _ _ <| c_seq fun K51 hK51 => c_reg <| s_move H rfl rfl (lt_ rfl) fun a H => s_move H rfl rfl (lt_ rfl) fun a H => s_bin H rfl rfl rfl r_add (lt_ rfl) fun a H => ?_
       iterate 3 refine s_assign H rfl rfl (lt_ rfl) fun a H => ?_
       refine c_nil <| hK51 _ _ <| c_ret ?_
       exact e_ret3 H rfl rfl rfl rfl h
   ·replace h := h.2 h41
    refine c_skip <| hK25 _ _ <| c_reg <| s_bin H rfl rfl rfl r_add (lt_ rfl) fun a H => s_move H rfl rfl (lt_ rfl) fun a H => c_nil <| Exists.intro (orI .i64 n17 (shlI .i64 (wr .i64 (andI .u8 l36 127)) (wr .i64 (7 * s18))), wr .i64 (s18 + 1)) ⟨h.1, h.2, H.weaken ⟨rfl, rfl, rfl, rfl, trivial⟩⟩
 ·replace h := h.2 h24
  refine c_exit ?_
  first | (simp only [Exit.then, Exit.inBlock, ↓reduceIte]; fail_if_success simp only [Nat.reduceEqDiff]) | simp only [Exit.then, Exit.inBlock, ↓reduceIte, Nat.reduceEqDiff]
  refine hK15 _ _ <| c_seq fun K52 hK52 => c_reg ?_
  iterate 3 refine s_assign H rfl rfl (lt_ rfl) fun a H => ?_
  refine c_nil <| hK52 _ _ <| c_ret ?_
  exact e_ret3 H rfl rfl rfl rfl h

theorem sim_pack_first_Err (f1 : Option Addr) (w : World) (Q : Ending → World → Prop) (h : vc_pack_first_Err f1 w Q) : Calls PP F_pack_first_Err #[(.pointer f1)] w Q := by
 unfold vc_pack_first_Err at h
 refine enter (n := 7) Tryz.func169 rfl rfl (Nat.le_of_ble_eq_true rfl) fun a H => c_seq fun K2 hK2 => c_reg <| s_assign H rfl rfl (lt_ rfl) fun a H => c_nil <| hK2 _ _ <| c_seq fun K3 hK3 => c_reg <| s_move H rfl rfl (lt_ rfl) fun a H => ?_
 obtain ⟨a4, h7, h⟩ := h
 revert H
 subst h7
 intro H
 refine s_nil H rfl rfl (lt_ rfl) fun a H => s_fld H rfl rfl fld_178_0 (lt_ rfl) fun a H => ?_
 obtain ⟨l5, hc6, h⟩ := h
 refine s_load (v := (.i l5)) H rfl rfl one_40 hc6 (lt_ rfl) fun a H => s_assign H rfl rfl (lt_ rfl) fun a H => c_nil <| hK3 _ _ <| c_ret ?_
 exact e_ret1 H rfl rfl h

theorem sim_pack_Reader_Text (r1 : Option Addr) (m2 : Int) (w : World) (Q : Ending → World → Prop) (h : vc_pack_Reader_Text r1 m2 w Q) : Calls PP F_pack_Reader_Text #[(.pointer r1), (.i m2)] w Q := by
 unfold vc_pack_Reader_Text at h
 refine enter (n := 9) Tryz.func170 rfl rfl (Nat.le_of_ble_eq_true rfl) fun a H => c_seq fun K3 hK3 => c_reg <| s_assign H rfl rfl (lt_ rfl) fun a H => c_nil <| hK3 _ _ <| c_seq fun K4 hK4 => c_reg <| s_move H rfl rfl (lt_ rfl) fun a H => s_move H rfl rfl (lt_ rfl) fun a H => s_call H rfl body_172 (H.args (vs := [(.pointer r1), (.i m2)]) rfl) (lt_ rfl) h ?_ (fun c w' h H => e_panic (P := PP) (fn := Tryz.f170) H h)
 clear H h a
 rintro _ w5 a ⟨B6, rfl, h⟩ H
 obtain ⟨s7, h8, h⟩ := h
 refine s_cv H rfl rfl h8 (lt_ rfl) ?_
 clear H a h8
 intro a H
 refine s_assign H rfl rfl (lt_ rfl) fun a H => c_nil <| hK4 _ _ <| c_ret ?_
 exact e_ret1 H rfl rfl h

theorem sim_pack_Reader_Bool (r1 : Option Addr) (w : World) (Q : Ending → World → Prop) (h : vc_pack_Reader_Bool r1 w Q) : Calls PP F_pack_Reader_Bool #[(.pointer r1)] w Q := by
 unfold vc_pack_Reader_Bool at h
 refine enter (n := 35) Tryz.func171 rfl rfl (Nat.le_of_ble_eq_true rfl) fun a H => c_seq fun K2 hK2 => c_reg <| s_assign H rfl rfl (lt_ rfl) fun a H => c_nil <| hK2 _ _ <| c_seq fun K3 hK3 => c_seq fun K4 hK4 => c_reg <| s_move H rfl rfl (lt_ rfl) fun a H => s_call H rfl body_167 (H.args (vs := [(.pointer r1)]) rfl) (lt_ rfl) h ?_ (fun c w' h H => e_panic (P := PP) (fn := Tryz.f171) H h)
 clear H h a
 rintro _ w5 a ⟨s6, rfl, h⟩ H
 refine c_nil <| hK4 _ _ <| c_cond H rfl (fun h7 => ?_) (fun h7 => ?_)
 ·replace h := h.1 h7
  refine c_seq fun K8 hK8 => c_reg <| s_assign H rfl rfl (lt_ rfl) fun a H => c_nil <| hK8 _ _ <| c_ret ?_
  exact e_ret1 H rfl rfl h
 ·replace h := h.2 h7
  refine c_skip <| hK3 _ _ <| c_seq fun K9 hK9 => c_seq fun K10 hK10 => c_regD mixed (by kernel_rfl) <| z_move H rfl rfl (lt_ rfl) fun a H => ?_
  obtain ⟨a12, h47, h⟩ := h
  revert H
  subst h47
  intro H
  refine z_nil H rfl rfl (lt_ rfl) fun a H => z_fld H rfl rfl fld_233_2 (lt_ rfl) fun a H => ?_
  obtain ⟨l13, hc14, h⟩ := h
  refine z_load (v := (.i l13)) H rfl rfl one_3 hc14 (lt_ rfl) fun a H => z_move H rfl rfl (lt_ rfl) fun a H => z_nil H rfl rfl (lt_ rfl) fun a H => z_fld H rfl rfl fld_233_1 (lt_ rfl) fun a H => ?_
  obtain ⟨l15, hc16, h⟩ := h
  refine z_load (v := l15.v) H rfl rfl one_51 hc16 (lt_ rfl) fun a H => z_blt H rfl (H.args (vs := [l15.v]) rfl) (lt_ rfl) (fun cs w => b_lenS (z := l15) sl_51) fun a H => z_bin H rfl rfl rfl r_lss (lt_ rfl) fun a H => z_move H rfl rfl (lt_ rfl) fun a H => ?_
  obtain ⟨x29, h30, h31, h⟩ := h
  refine zg_join (n := 35) [(27, (.bool x29)), (0, (.pointer (some a12)))] (.succ (.succ (.succ (.succ (.succ (.succ (.succ (.succ (.succ (.succ (.succ (.succ (.zero _))))))))))))) ?_ ?_
  ·intro h18
   try clear h
   rcases Bool.eq_false_or_eq_true (decide (l13 < (l15.l : Int))) with h17 | h17
   ·replace H := H.ch (t := 15) (b := true) rfl h17
    replace h := h30 h17
    refine z_move H (wantG H rfl rfl) rfl (lt_ rfl) fun a H => z_nil H (wantG H rfl rfl) rfl (lt_ rfl) fun a H => z_fld H (wantG H rfl rfl) rfl fld_233_1 (lt_ rfl) fun a H => ?_
    obtain ⟨l19, hc20, h⟩ := h
    refine z_load (v := l19.v) H (wantG H rfl rfl) rfl one_51 hc20 (lt_ rfl) fun a H => z_move H (wantG H rfl rfl) rfl (lt_ rfl) fun a H => z_nil H (wantG H rfl rfl) rfl (lt_ rfl) fun a H => z_fld H (wantG H rfl rfl) rfl fld_233_2 (lt_ rfl) fun a H => ?_
    obtain ⟨l21, hc22, h⟩ := h
    refine z_load (v := (.i l21)) H (wantG H rfl rfl) rfl one_3 hc22 (lt_ rfl) fun a H => ?_
    obtain ⟨a23, h24, h25, h26, h⟩ := h
    refine z_idxS (s := l19) H (wantG H rfl rfl) rfl rfl slc_51 h24 h25 h26 (lt_ rfl) fun a H => ?_
    obtain ⟨l27, hc28, h⟩ := h
    refine z_load (v := (.int .u8 l27)) H (wantG H rfl rfl) rfl one_5 hc28 (lt_ rfl) fun a H => z_bin H (wantG H rfl rfl) rfl rfl r_gtr (lt_ rfl) fun a H => z_pickT H rfl rfl rfl (lt_ rfl) fun a H => ?_
    subst h
    exact h18 _ (H.weaken ⟨rfl, rfl, trivial⟩)
   ·replace H := H.ch (t := 15) (b := false) rfl h17
    iterate 11 refine z_skip H (wantN H rfl rfl rfl) rfl (lt_ rfl) fun a H => ?_
    refine z_pickF H rfl rfl rfl (lt_ rfl) fun a H => ?_
    replace h := h31 h17
    subst h
    exact h18 _ (H.weaken ⟨rfl, rfl, trivial⟩)
  ·clear H a
   clear h30 h31
   intro a H
   refine wpQuiet_nil ?_
   rintro _ ⟨k11, rfl⟩
   replace h := h k11
   refine hK10 _ _ <| c_cond H rfl (fun h32 => ?_) (fun h32 => ?_)
   ·replace h := h.1 h32
    refine c_seq fun K33 hK33 => c_reg <| s_move H rfl rfl (lt_ rfl) fun a H => s_nil H rfl rfl (lt_ rfl) fun a H => s_fld H rfl rfl fld_233_0 (lt_ rfl) fun a H => s_call H rfl body_150 (H.args (vs := [(.pointer (some (a12.add 0))), (.i 31)]) rfl) (lt_ rfl) h ?_ (fun c w' h H => e_panic (P := PP) (fn := Tryz.f171) H h)
    clear H h a
    rintro _ w34 a ⟨rfl, h⟩ H
    refine c_nil <| hK33 _ _ <| c_seq fun K35 hK35 => c_reg <| s_assign H rfl rfl (lt_ rfl) fun a H => c_nil <| hK35 _ _ <| c_ret ?_
    exact e_ret1 H rfl rfl h
   ·replace h := h.2 h32
    refine c_skip <| hK9 _ _ <| c_seq fun K40 hK40 => c_reg <| s_move H rfl rfl (lt_ rfl) fun a H => s_call H rfl body_138 (H.args (vs := [(.pointer (some a12))]) rfl) (lt_ rfl) h ?_ (fun c w' h H => e_panic (P := PP) (fn := Tryz.f171) H h)
    clear H h a
    rintro _ w41 a ⟨B42, rfl, h⟩ H
    refine s_bin H rfl rfl rfl r_eql (lt_ rfl) fun a H => s_assign H rfl rfl (lt_ rfl) fun a H => c_nil <| hK40 _ _ <| c_ret ?_
    exact e_ret1 H rfl rfl h

theorem sim_pack_Reader_Bytes (r1 : Option Addr) (m2 : Int) (w : World) (Q : Ending → World → Prop) (h : vc_pack_Reader_Bytes r1 m2 w Q) : Calls PP F_pack_Reader_Bytes #[(.pointer r1), (.i m2)] w Q := by
 unfold vc_pack_Reader_Bytes at h
 refine enter (n := 66) Tryz.func172 rfl rfl (Nat.le_of_ble_eq_true rfl) fun a H => c_seq fun K3 hK3 => c_reg <| s_assign H rfl rfl (lt_ rfl) fun a H => c_nil <| hK3 _ _ <| c_seq fun K4 hK4 => c_seq fun K5 hK5 => c_reg <| s_move H rfl rfl (lt_ rfl) fun a H => s_call H rfl body_167 (H.args (vs := [(.pointer r1)]) rfl) (lt_ rfl) h ?_ (fun c w' h H => e_panic (P := PP) (fn := Tryz.f172) H h)
 clear H h a
 rintro _ w6 a ⟨s7, rfl, h⟩ H
 refine c_nil <| hK5 _ _ <| c_cond H rfl (fun h8 => ?_) (fun h8 => ?_)
 ·replace h := h.1 h8
  refine c_seq fun K9 hK9 => c_reg <| s_assign H rfl rfl (lt_ rfl) fun a H => c_nil <| hK9 _ _ <| c_ret ?_
  exact e_ret1 H rfl rfl h
 ·replace h := h.2 h8
  refine c_skip <| hK4 _ _ <| c_seq fun K10 hK10 => c_reg <| s_move H rfl rfl (lt_ rfl) fun a H => s_move H rfl rfl (lt_ rfl) fun a H => s_call H rfl body_168 (H.args (vs := [(.pointer r1), (.i m2)]) rfl) (lt_ rfl) h ?_ (fun c w' h H => e_panic (P := PP) (fn := Tryz.f172) H h)
  clear H h a
  rintro _ w11 a ⟨n12, n13, n14, rfl, h⟩ H
  refine s_move H rfl rfl (lt_ rfl) fun a H => ?_
  iterate 3 refine s_ext H rfl rfl rfl (lt_ rfl) fun a H => ?_
  iterate 3 refine s_assign H rfl rfl (lt_ rfl) fun a H => ?_
  refine c_nil <| hK10 _ _ <| c_seq fun K15 hK15 => ?_
  obtain ⟨R17, h, h69⟩ := h
  have h54 : ∀ (a : Act) (e16 : Int) (w18 : World), R17 e16 w18 → Has 66 [] a [(0, (.pointer r1)), (5, (.i n12)), (6, (.i n13)), (7, (.i e16))] → K15 a w18 := by
   clear h
   intro a e16 w18 h H
   replace h := h69 e16 w18 h
   refine hK15 _ _ <| c_seq fun K19 hK19 => c_seq fun K20 hK20 => c_reg <| s_move H rfl rfl (lt_ rfl) fun a H => s_bin H rfl rfl rfl r_neq (lt_ rfl) fun a H => c_nil <| hK20 _ _ <| c_cond H rfl (fun h21 => ?_) (fun h21 => ?_)
   ·replace h := h.1 h21
    refine c_seq fun K22 hK22 => c_reg <| s_move H rfl rfl (lt_ rfl) fun a H => ?_
    obtain ⟨a23, h30, h⟩ := h
    revert H
    subst h30
    intro H
    refine s_nil H rfl rfl (lt_ rfl) fun a H => s_fld H rfl rfl fld_233_0 (lt_ rfl) fun a H => s_move H rfl rfl (lt_ rfl) fun a H => s_call H rfl body_150 (H.args (vs := [(.pointer (some (a23.add 0))), (.i e16)]) rfl) (lt_ rfl) h ?_ (fun c w' h H => e_panic (P := PP) (fn := Tryz.f172) H h)
    clear H h a
    rintro _ w24 a ⟨rfl, h⟩ H
    refine c_nil <| hK22 _ _ <| c_seq fun K25 hK25 => c_reg <| s_assign H rfl rfl (lt_ rfl) fun a H => c_nil <| hK25 _ _ <| c_ret ?_
    exact e_ret1 H rfl rfl h
   ·replace h := h.2 h21
    refine c_skip <| hK19 _ _ <| c_seq fun K31 hK31 => c_reg <| s_move H rfl rfl (lt_ rfl) fun a H => ?_
    obtain ⟨a32, h53, h⟩ := h
    revert H
    subst h53
    intro H
    refine s_nil H rfl rfl (lt_ rfl) fun a H => s_fld H rfl rfl fld_233_2 (lt_ rfl) fun a H => ?_
    obtain ⟨l33, hc34, h⟩ := h
    refine s_load (v := (.i l33)) H rfl rfl one_3 hc34 (lt_ rfl) fun a H => s_move H rfl rfl (lt_ rfl) fun a H => s_bin H rfl rfl rfl r_add (lt_ rfl) fun a H => s_assign H rfl rfl (lt_ rfl) fun a H => c_nil <| hK31 _ _ <| c_seq fun K35 hK35 => c_reg ?_
    iterate 3 refine s_move H rfl rfl (lt_ rfl) fun a H => ?_
    refine s_bin H rfl rfl rfl r_add (lt_ rfl) fun a H => s_nil H rfl rfl (lt_ rfl) fun a H => s_fld H rfl rfl fld_233_2 (lt_ rfl) fun a H => ?_
    obtain ⟨h37, h38, h⟩ := h
    refine s_sto (p := a32.add 2) (v := (.i (wr .i64 ((wr .i64 (l33 + n13)) + n12)))) H rfl rfl rfl rfl one_3 rfl h37 h38 ?_
    clear H
    intro H
    generalize hww36 : World.setCell w18 (a32.add 2) (.i (wr .i64 ((wr .i64 (l33 + n13)) + n12))) = w36 at h ⊢
    have w36S : SetAt w18 (a32.add 2) (.i (wr .i64 ((wr .i64 (l33 + n13)) + n12))) w36 := ⟨hww36.symm⟩
    clear hww36 h37 h38
    refine c_nil <| hK35 _ _ <| c_seq fun K39 hK39 => ?_
    replace H := H.weaken (L' := [(0, (.pointer (some a32))), (8, (.i (wr .i64 (l33 + n13))))]) ⟨rfl, rfl, trivial⟩
    obtain ⟨l40, hc41, l42, hc43, h44, h45, h46, h⟩ := h
    refine c_any (V := [(0, (.pointer (some a32))), (1, (.pointer (some a32))), (2, (.pointer (some (a32.add 1)))), (3, l40.v), (4, (.i (wr .i64 (l33 + n13)))), (5, (.pointer (some a32))), (6, (.pointer (some a32))), (7, (.pointer (some (a32.add 2)))), (8, (.i l42)), (9, (Slc.v (l40.cut 1 (Int.toNat (wr .i64 (l33 + n13))) (Int.toNat (l42)))))]) (⟨[[], [0], [1], [2], [], [], [5], [6], [7], [3, 4, 8], [9], [0, 1, 2, 3, 4, 5, 6, 7, 8, 9, 10]], [some 55, some 56, some 57, some 58, some 59, some 60, some 61, some 62, some 63, some 64, some 65, some 4], [10], [0, 0, 0, 0, 0, 0, 0, 0, 0, 0, 0, 1], [0, 0, 0, 0, 0, 0, 0, 0, 0, 0, 1, 1]⟩ : Rg) [(0, (.pointer (some a32))), (8, (.i (wr .i64 (l33 + n13))))] mixed (by kernel_rfl) H ?_
    refine Stg.eff [0, 1, 2, 3, 4, 5, 6, 7, 8, 9] (by kernel_rfl) rfl (.cons ?_ (.cons ?_ (.cons ?_ (.cons ?_ (.cons ?_ (.cons ?_ (.cons ?_ (.cons ?_ (.cons ?_ (.cons ?_ .nil)))))))))) ?_
    ·refine Ans.mk rfl rfl fun a H => s_move H rfl rfl (lt_ rfl) fun a H => ?_
     exact Ans.fin H rfl
    ·refine Ans.mk rfl rfl fun a H => s_nil H rfl rfl (lt_ rfl) fun a H => ?_
     exact Ans.fin H rfl
    ·refine Ans.mk rfl rfl fun a H => s_fld H rfl rfl fld_233_1 (lt_ rfl) fun a H => ?_
     exact Ans.fin H rfl
    ·refine Ans.mk rfl rfl fun a H => s_load (v := l40.v) H rfl rfl one_51 hc41 (lt_ rfl) fun a H => ?_
     exact Ans.fin H rfl
    ·refine Ans.mk rfl rfl fun a H => s_move H rfl rfl (lt_ rfl) fun a H => ?_
     exact Ans.fin H rfl
    ·refine Ans.mk rfl rfl fun a H => s_move H rfl rfl (lt_ rfl) fun a H => ?_
     exact Ans.fin H rfl
    ·refine Ans.mk rfl rfl fun a H => s_nil H rfl rfl (lt_ rfl) fun a H => ?_
     exact Ans.fin H rfl
    ·refine Ans.mk rfl rfl fun a H => s_fld H rfl rfl fld_233_2 (lt_ rfl) fun a H => ?_
     exact Ans.fin H rfl
    ·refine Ans.mk rfl rfl fun a H => s_load (v := (.i l42)) H rfl rfl one_3 hc43 (lt_ rfl) fun a H => ?_
     exact Ans.fin H rfl
    ·refine Ans.mk rfl rfl fun a H => s_slice (v := (Slc.v (l40.cut 1 (Int.toNat (wr .i64 (l33 + n13))) (Int.toNat (l42))))) H rfl rfl ⟨rfl, rfl⟩ ⟨rfl, rfl⟩ ⟨rfl, rfl⟩ (r_sliceSlc (lo := (some (.i64, wr .i64 (l33 + n13)))) (hi := (some (.i64, l42))) slc_51 rfl rfl h44 h45 h46) (lt_ rfl) fun a H => ?_
     exact Ans.fin H rfl
    ·intro a H
     replace H := H.weaken (L' := [(64, (Slc.v (l40.cut 1 (Int.toNat (wr .i64 (l33 + n13))) (Int.toNat (l42)))))]) ⟨rfl, trivial⟩
     refine s_call H rfl body_47 (H.args (vs := [(Slc.v (l40.cut 1 (Int.toNat (wr .i64 (l33 + n13))) (Int.toNat (l42))))]) rfl) (lt_ rfl) h ?_ (fun c w' h H => e_panic (P := PP) (fn := Tryz.f172) H h)
     clear H h a
     rintro _ w47 a ⟨C48, rfl, h⟩ H
     refine c_nil <| effQ.go [(11, C48.v)] H rfl rfl <| Stg.fin [11] (by kernel_rfl) (.cons ?_ .nil) ?_
     ·refine Ans.mk rfl rfl fun a H => s_assign H rfl rfl (lt_ rfl) fun a H => ?_
      exact Ans.fin H rfl
     ·intro a H
      replace H := H.weaken (L' := [(4, C48.v)]) ⟨rfl, trivial⟩
      refine hK39 _ _ <| c_ret ?_
      exact e_ret1 H rfl rfl h
  clear h69
  refine c_seq fun K55 hK55 => c_regD mixed (by kernel_rfl) <| z_move H rfl rfl (lt_ rfl) fun a H => z_bin H rfl rfl rfl r_eql (lt_ rfl) fun a H => z_move H rfl rfl (lt_ rfl) fun a H => ?_
  obtain ⟨x65, h66, h67, h⟩ := h
  refine zg_join (n := 66) [(35, (.bool x65)), (0, (.pointer r1)), (5, (.i n12)), (6, (.i n13)), (7, (.i n14))] (.succ (.succ (.succ (.succ (.succ (.succ (.succ (.succ (.succ (.succ (.succ (.succ (.succ (.succ (.succ (.zero _)))))))))))))))) ?_ ?_
  ·intro h58
   try clear h
   rcases Bool.eq_false_or_eq_true (decide (n14 = 0)) with h57 | h57
   ·replace H := H.ch (t := 20) (b := true) rfl h57
    replace h := h66 h57
    refine z_move H (wantG H rfl rfl) rfl (lt_ rfl) fun a H => z_move H (wantG H rfl rfl) rfl (lt_ rfl) fun a H => ?_
    obtain ⟨a59, h64, h⟩ := h
    revert H
    subst h64
    intro H
    refine z_nil H (wantG H rfl rfl) rfl (lt_ rfl) fun a H => z_fld H (wantG H rfl rfl) rfl fld_233_1 (lt_ rfl) fun a H => ?_
    obtain ⟨l60, hc61, h⟩ := h
    refine z_load (v := l60.v) H (wantG H rfl rfl) rfl one_51 hc61 (lt_ rfl) fun a H => z_blt H (wantG H rfl rfl) (H.args (vs := [l60.v]) rfl) (lt_ rfl) (fun cs w => b_lenS (z := l60) sl_51) fun a H => z_move H (wantG H rfl rfl) rfl (lt_ rfl) fun a H => z_nil H (wantG H rfl rfl) rfl (lt_ rfl) fun a H => z_fld H (wantG H rfl rfl) rfl fld_233_2 (lt_ rfl) fun a H => ?_
    obtain ⟨l62, hc63, h⟩ := h
    refine z_load (v := (.i l62)) H (wantG H rfl rfl) rfl one_3 hc63 (lt_ rfl) fun a H => z_bin H (wantG H rfl rfl) rfl rfl r_sub (lt_ rfl) fun a H => z_move H (wantG H rfl rfl) rfl (lt_ rfl) fun a H => z_bin H (wantG H rfl rfl) rfl rfl r_sub (lt_ rfl) fun a H => z_bin H (wantG H rfl rfl) rfl rfl r_gtr (lt_ rfl) fun a H => z_pickT H rfl rfl rfl (lt_ rfl) fun a H => ?_
    subst h
    exact h58 _ (H.weaken ⟨rfl, rfl, rfl, rfl, rfl, trivial⟩)
   ·replace H := H.ch (t := 20) (b := false) rfl h57
    iterate 14 refine z_skip H (wantN H rfl rfl rfl) rfl (lt_ rfl) fun a H => ?_
    refine z_pickF H rfl rfl rfl (lt_ rfl) fun a H => ?_
    replace h := h67 h57
    subst h
    exact h58 _ (H.weaken ⟨rfl, rfl, rfl, rfl, rfl, trivial⟩)
  ·clear H a
   clear h66 h67
   intro a H
   refine wpQuiet_nil ?_
   rintro _ ⟨k56, rfl⟩
   replace h := h k56
   refine hK55 _ _ <| c_cond H rfl (fun h68 => ?_) (fun h68 => ?_)
   ·replace h := h.1 h68
    refine c_reg <| s_assign H rfl rfl (lt_ rfl) fun a H => c_nil ?_
    exact h54 _ _ _ h (H.weaken ⟨rfl, rfl, rfl, rfl, trivial⟩)
   ·replace h := h.2 h68
    refine c_skip ?_
    exact h54 _ _ _ h (H.weaken ⟨rfl, rfl, rfl, rfl, trivial⟩)

theorem sim_pack_Reader_End (r1 : Option Addr) (w : World) (Q : Ending → World → Prop) (h : vc_pack_Reader_End r1 w Q) : Calls PP F_pack_Reader_End #[(.pointer r1)] w Q := by
 unfold vc_pack_Reader_End at h
 refine enter (n := 21) Tryz.func173 rfl rfl (Nat.le_of_ble_eq_true rfl) fun a H => c_seq fun K2 hK2 => c_pre 2 mixed (by kernel_rfl) rfl (by kernel_rfl) ?_
 simp only [List.take_succ_cons, List.take_zero, List.drop_succ_cons, List.drop_zero]
 refine s_move H rfl rfl (lt_ rfl) fun a H => s_call H rfl body_167 (H.args (vs := [(.pointer r1)]) rfl) (lt_ rfl) h ?_ (fun c w' h H => e_panic (P := PP) (fn := Tryz.f173) H h)
 clear H h a
 rintro _ w3 a ⟨s4, rfl, h⟩ H
 refine c_nil ?_
 simp only [preQ]
 refine z_un H rfl rfl r_not (lt_ rfl) fun a H => z_move H rfl rfl (lt_ rfl) fun a H => ?_
 obtain ⟨x14, h15, h16, h⟩ := h
 refine zg_join (n := 21) [(16, (.bool x14)), (0, (.pointer r1))] (.succ (.succ (.succ (.succ (.succ (.succ (.succ (.succ (.succ (.succ (.succ (.zero _)))))))))))) ?_ ?_
 ·intro h7
  try clear h
  rcases Bool.eq_false_or_eq_true (!s4) with h6 | h6
  ·replace H := H.ch (t := 5) (b := true) rfl h6
   replace h := h15 h6
   refine z_move H (wantG H rfl rfl) rfl (lt_ rfl) fun a H => ?_
   obtain ⟨a8, h13, h⟩ := h
   revert H
   subst h13
   intro H
   refine z_nil H (wantG H rfl rfl) rfl (lt_ rfl) fun a H => z_fld H (wantG H rfl rfl) rfl fld_233_2 (lt_ rfl) fun a H => ?_
   obtain ⟨l9, hc10, h⟩ := h
   refine z_load (v := (.i l9)) H (wantG H rfl rfl) rfl one_3 hc10 (lt_ rfl) fun a H => z_move H (wantG H rfl rfl) rfl (lt_ rfl) fun a H => z_nil H (wantG H rfl rfl) rfl (lt_ rfl) fun a H => z_fld H (wantG H rfl rfl) rfl fld_233_1 (lt_ rfl) fun a H => ?_
   obtain ⟨l11, hc12, h⟩ := h
   refine z_load (v := l11.v) H (wantG H rfl rfl) rfl one_51 hc12 (lt_ rfl) fun a H => z_blt H (wantG H rfl rfl) (H.args (vs := [l11.v]) rfl) (lt_ rfl) (fun cs w => b_lenS (z := l11) sl_51) fun a H => z_bin H (wantG H rfl rfl) rfl rfl r_lss (lt_ rfl) fun a H => z_pickT H rfl rfl rfl (lt_ rfl) fun a H => ?_
   subst h
   exact h7 _ (H.weaken ⟨rfl, rfl, trivial⟩)
  ·replace H := H.ch (t := 5) (b := false) rfl h6
   iterate 10 refine z_skip H (wantN H rfl rfl rfl) rfl (lt_ rfl) fun a H => ?_
   refine z_pickF H rfl rfl rfl (lt_ rfl) fun a H => ?_
   replace h := h16 h6
   subst h
   exact h7 _ (H.weaken ⟨rfl, rfl, trivial⟩)
 ·clear H a
  clear h15 h16
  intro a H
  refine wpQuiet_nil ?_
  rintro _ ⟨k5, rfl⟩
  replace h := h k5
  refine hK2 _ _ <| c_cond H rfl (fun h17 => ?_) (fun h17 => ?_)
  ·replace h := h.1 h17
   refine c_reg <| s_move H rfl rfl (lt_ rfl) fun a H => ?_
   obtain ⟨a18, h24, h⟩ := h
   revert H
   subst h24
   intro H
   refine s_nil H rfl rfl (lt_ rfl) fun a H => s_fld H rfl rfl fld_233_0 (lt_ rfl) fun a H => s_call H rfl body_150 (H.args (vs := [(.pointer (some (a18.add 0))), (.i 35)]) rfl) (lt_ rfl) h ?_ (fun c w' h H => e_panic (P := PP) (fn := Tryz.f173) H h)
   clear H h a
   rintro _ w19 a ⟨rfl, h⟩ H
   refine c_nil ?_
   exact e_ret0 H rfl h
  ·replace h := h.2 h17
   refine c_skip ?_
   exact e_ret0 H rfl h

end Go.Proofs.YtflcdgkckfcofaaGreatDoor
