/-
  The conditions give the machine's calls; printed by vcgen.py.
-/
import Derived.Test.YtflcdgkckfcofaaGreatDoorRecVc
namespace Go.Proofs.YtflcdgkckfcofaaGreatDoor
open Go Go.Vc
set_option maxRecDepth 100000
set_option maxHeartbeats 4000000
theorem sim_record_readHead (d1 : Slc) (w : World) (Q : Ending → World → Prop) (h : vc_record_readHead d1 w Q) : Calls PP F_record_readHead #[d1.v] w Q := by
 unfold vc_record_readHead at h
 refine enter (n := 64) Tryz.func99 rfl rfl (Nat.le_of_ble_eq_true rfl) fun a H => c_seq fun K2 hK2 => c_reg ?_
 replace h := h.get
 obtain ⟨b3, w4, n5, h⟩ := h
 refine s_alloc H rfl zero_28 (lt_ rfl) ?_
 rw [← n5.at_]
 clear H a
 intro a H
 refine n5.go <| s_assign H rfl rfl (lt_ rfl) fun a H => c_nil <| hK2 _ _ <| c_seq fun K6 hK6 => c_reg <| s_move H rfl rfl (lt_ rfl) fun a H => s_call H rfl body_137 (H.args (vs := [d1.v]) rfl) (lt_ rfl) h ?_ (fun c w' h H => e_panic (P := PP) (fn := Tryz.f99) H h)
 clear H h a
 rintro _ w7 a ⟨N8, rfl, h⟩ H
 refine s_assign H rfl rfl (lt_ rfl) fun a H => c_nil <| hK6 _ _ <| c_seq fun K9 hK9 => c_reg <| s_move H rfl rfl (lt_ rfl) fun a H => s_call H rfl body_138 (H.args (vs := [(.pointer N8)]) rfl) (lt_ rfl) h ?_ (fun c w' h H => e_panic (P := PP) (fn := Tryz.f99) H h)
 clear H h a
 rintro _ w10 a ⟨B11, rfl, h⟩ H
 refine s_assign H rfl rfl (lt_ rfl) fun a H => c_nil <| hK9 _ _ <| c_seq fun K12 hK12 => c_reg ?_
 replace h := h.get
 obtain ⟨b13, w14, n15, h⟩ := h
 refine s_alloc H rfl zero_204 (lt_ rfl) ?_
 rw [← n15.at_]
 clear H a
 intro a H
 refine n15.go <| c_nil <| hK12 _ _ <| c_seq fun K16 hK16 => c_seq fun K17 hK17 => c_reg <| s_move H rfl rfl (lt_ rfl) fun a H => c_nil <| hK17 _ _ <| c_block ?_
 obtain ⟨I20, m21, h139, h140⟩ := h
 refine c_loop (σ := Int) (fun z w => I20 z w) (fun z w => m21 z w) (fun z => [(0, d1.v), (2, (.pointer (some (blk b3)))), (4, (.pointer N8)), (5, (.int .u8 B11)), (6, (.pointer (some (blk b13)))), (14, (.i z))]) 0 h139 (H.weaken ⟨rfl, rfl, rfl, rfl, rfl, rfl, trivial⟩) ?_
 clear H h139
 rintro s18 a w19 h H
 replace h := h140 s18 w19 h
 clear h140
 replace H : Has 64 [] a [(0, d1.v), (2, (.pointer (some (blk b3)))), (4, (.pointer N8)), (5, (.int .u8 B11)), (6, (.pointer (some (blk b13)))), (14, (.i s18))] := H
 refine c_seq fun K22 hK22 => c_reg <| s_bin H rfl rfl rfl r_lss (lt_ rfl) fun a H => c_nil <| hK22 _ _ <| c_seq fun K23 hK23 => c_cond H rfl (fun h24 => ?_) (fun h24 => ?_)
 ·replace h := h.1 h24
  refine c_skip <| hK23 _ _ <| c_seq fun K25 hK25 => c_block <| c_seq fun K26 hK26 => c_reg <| s_move H rfl rfl (lt_ rfl) fun a H => s_assign H rfl rfl (lt_ rfl) fun a H => c_nil <| hK26 _ _ <| c_reg <| s_move H rfl rfl (lt_ rfl) fun a H => s_move H rfl rfl (lt_ rfl) fun a H => s_call H rfl body_139 (H.args (vs := [(.pointer N8), (.i 4611686018427387903)]) rfl) (lt_ rfl) h ?_ (fun c w' h H => e_panic (P := PP) (fn := Tryz.f99) H h)
  clear H h a
  rintro _ w27 a ⟨U28, rfl, h⟩ H
  obtain ⟨h29, h30, h⟩ := h
  refine s_idxA H rfl rfl rfl arr_204 h29 h30 (lt_ rfl) fun a H => ?_
  obtain ⟨h32, h33, h⟩ := h
  refine s_sto (p := (blk b13).add (Int.toNat (s18) * 1)) (v := (.i U28)) H rfl rfl rfl rfl one_3 rfl h32 h33 ?_
  clear H
  intro H
  generalize hww31 : World.setCell w27 ((blk b13).add (Int.toNat (s18) * 1)) (.i U28) = w31 at h ⊢
  have w31S : SetAt w27 ((blk b13).add (Int.toNat (s18) * 1)) (.i U28) w31 := ⟨hww31.symm⟩
  clear hww31 h32 h33
  refine c_nil <| hK25 _ _ <| c_reg <| s_bin H rfl rfl rfl r_add (lt_ rfl) fun a H => s_move H rfl rfl (lt_ rfl) fun a H => c_nil <| Exists.intro (wr .i64 (s18 + 1)) ⟨h.1, h.2, H.weaken ⟨rfl, rfl, rfl, rfl, rfl, rfl, trivial⟩⟩
 ·replace h := h.2 h24
  refine c_exit ?_
  first | (simp only [Exit.then, Exit.inBlock, ↓reduceIte]; fail_if_success simp only [Nat.reduceEqDiff]) | simp only [Exit.then, Exit.inBlock, ↓reduceIte, Nat.reduceEqDiff]
  refine hK16 _ _ <| c_seq fun K38 hK38 => c_reg <| s_idxA (i := 0) (len := 4) (size := 1) H rfl rfl rfl arr_204 (by decide) (by decide) (lt_ rfl) fun a H => ?_
  obtain ⟨l39, hc40, h⟩ := h
  refine s_load (v := (.i l39)) H rfl rfl one_3 hc40 (lt_ rfl) fun a H => s_idxA (i := 1) (len := 4) (size := 1) H rfl rfl rfl arr_204 (by decide) (by decide) (lt_ rfl) fun a H => ?_
  obtain ⟨l41, hc42, h⟩ := h
  refine s_load (v := (.i l41)) H rfl rfl one_3 hc42 (lt_ rfl) fun a H => s_idxA (i := 2) (len := 4) (size := 1) H rfl rfl rfl arr_204 (by decide) (by decide) (lt_ rfl) fun a H => ?_
  obtain ⟨l43, hc44, h⟩ := h
  refine s_load (v := (.i l43)) H rfl rfl one_3 hc44 (lt_ rfl) fun a H => s_build H rfl (by rw [H.parts (vs := [(0, (.i l39)), (1, (.i l41)), (2, (.i l43))]) rfl]; exact bd_26_ii640_ii641_ii642 w19 l39 l41 l43) (lt_ rfl) fun a H => s_idxA (i := 3) (len := 4) (size := 1) H rfl rfl rfl arr_204 (by decide) (by decide) (lt_ rfl) fun a H => ?_
  obtain ⟨l45, hc46, h⟩ := h
  refine s_load (v := (.i l45)) H rfl rfl one_3 hc46 (lt_ rfl) fun a H => s_build H rfl (by rw [H.parts (vs := [(0, (.agg #[(.i l39), (.i l41), (.i l43)])), (1, (.i l45))]) rfl]; exact bd_28_ii64ii64ii640_ii641 w19 l39 l41 l43 l45) (lt_ rfl) fun a H => ?_
  replace h := h.get
  obtain ⟨b47, w48, n49, h⟩ := h
  refine s_alloc H rfl zero_28 (lt_ rfl) ?_
  rw [← n49.at_]
  clear H a
  intro a H
  refine n49.go <| s_stoN (l := [(.i l39), (.i l41), (.i l43), (.i l45)]) H rfl rfl rfl rfl agg_28 rfl rfl h ?_
  clear h H
  intro w50 h H
  refine c_nil <| hK38 _ _ <| c_seq fun K51 hK51 => c_reg <| s_move H rfl rfl (lt_ rfl) fun a H => s_call H rfl body_141 (H.args (vs := [(.pointer N8)]) rfl) (lt_ rfl) h ?_ (fun c w' h H => e_panic (P := PP) (fn := Tryz.f99) H h)
  clear H h a
  rintro _ w52 a ⟨E53, rfl, h⟩ H
  refine s_bin H rfl rfl rfl r_eql (lt_ rfl) fun a H => s_move H rfl rfl (lt_ rfl) fun a H => g_join (n := 64) [(38, (.bool ((decide (E53 = 0)) && (decide (B11 = 72))))), (0, d1.v), (2, (.pointer (some (blk b3)))), (8, (.pointer (some (blk b47))))] (.succ (.succ (.succ (.zero _)))) ?_ ?_
  ·intro h55
   try clear h
   rcases Bool.eq_false_or_eq_true (decide (E53 = 0)) with h54 | h54
   ·replace H := H.ch (t := 35) (b := true) rfl h54
    refine s_move H (wantG H rfl rfl) rfl (lt_ rfl) fun a H => s_bin H (wantG H rfl rfl) rfl rfl r_eql (lt_ rfl) fun a H => s_pickT H rfl rfl rfl (lt_ rfl) fun a H => ?_
    exact h55 _ (H.weaken ⟨by rw [h54]; rfl, rfl, rfl, rfl, trivial⟩)
   ·replace H := H.ch (t := 35) (b := false) rfl h54
    refine s_skip H (wantN H rfl rfl rfl) rfl (lt_ rfl) fun a H => s_skip H (wantN H rfl rfl rfl) rfl (lt_ rfl) fun a H => s_pickF H rfl rfl rfl (lt_ rfl) fun a H => ?_
    exact h55 _ (H.weaken ⟨by rw [h54]; rfl, rfl, rfl, rfl, trivial⟩)
  ·clear H a
   intro a H
   refine s_move H rfl rfl (lt_ rfl) fun a H => ?_
   obtain ⟨R58, h, h134⟩ := h
   refine g_joinW (n := 64) R58 (fun x59 => [(43, (.bool x59)), (0, d1.v), (2, (.pointer (some (blk b3)))), (8, (.pointer (some (blk b47))))]) (.succ (.succ (.succ (.succ (.zero _))))) ?_ ?_
   ·intro h57
    clear h134
    rcases Bool.eq_false_or_eq_true ((decide (E53 = 0)) && (decide (B11 = 72))) with h56 | h56
    ·replace H := H.ch (t := 39) (b := true) rfl h56
     replace h := h.1 h56
     obtain ⟨N61, hc62, K63, hc64, D65, hc66, S67, hc68, h⟩ := h
     refine s_loadN (l := [(.i N61), (.i K63), (.i D65), (.i S67)]) H (wantG H rfl rfl) rfl agg_28 rfl ⟨hc62, hc64, hc66, hc68, trivial⟩ (lt_ rfl) fun a H => s_call H (wantG H rfl rfl) body_95 (H.args (vs := [(.agg #[(.i N61), (.i K63), (.i D65), (.i S67)])]) rfl) (lt_ rfl) h ?_ (fun c w' h H => e_panic (P := PP) (fn := Tryz.f99) H h)
     clear H h a
     rintro _ w69 a ⟨m70, rfl, h⟩ H
     refine s_bin H (wantG H rfl rfl) rfl rfl r_eql (lt_ rfl) fun a H => s_pickT H rfl rfl rfl (lt_ rfl) fun a H => ?_
     exact h57 _ _ _ h (H.weaken ⟨rfl, rfl, rfl, rfl, trivial⟩)
    ·replace H := H.ch (t := 39) (b := false) rfl h56
     replace h := h.2 h56
     iterate 3 refine s_skip H (wantN H rfl rfl rfl) rfl (lt_ rfl) fun a H => ?_
     refine s_pickF H rfl rfl rfl (lt_ rfl) fun a H => ?_
     exact h57 _ _ _ h (H.weaken ⟨rfl, rfl, rfl, rfl, trivial⟩)
   ·clear H a h
    intro a x59 w60 h H
    replace h := h134 x59 w60 h
    clear h134
    refine s_call H rfl body_140 (H.args (vs := [(.bool x59), (.i 63)]) rfl) (lt_ rfl) h ?_ (fun c w' h H => e_panic (P := PP) (fn := Tryz.f99) H h)
    clear H h a
    rintro _ w75 a ⟨rfl, h⟩ H
    refine c_nil <| hK51 _ _ <| c_seq fun K76 hK76 => c_reg ?_
    obtain ⟨N77, hc78, K79, hc80, D81, hc82, S83, hc84, h⟩ := h
    refine s_loadN (l := [(.i N77), (.i K79), (.i D81), (.i S83)]) H rfl rfl agg_28 rfl ⟨hc78, hc80, hc82, hc84, trivial⟩ (lt_ rfl) fun a H => s_call H rfl body_96 (H.args (vs := [(.agg #[(.i N77), (.i K79), (.i D81), (.i S83)])]) rfl) (lt_ rfl) h ?_ (fun c w' h H => e_panic (P := PP) (fn := Tryz.f99) H h)
    clear H h a
    rintro _ w85 a ⟨h86, rfl, h⟩ H
    refine s_assign H rfl rfl (lt_ rfl) fun a H => c_nil <| hK76 _ _ <| c_seq fun K87 hK87 => c_reg <| s_move H rfl rfl (lt_ rfl) fun a H => s_blt H rfl (H.args (vs := [d1.v]) rfl) (lt_ rfl) (fun cs => b_lenS (z := d1) sl_51) fun a H => s_move H rfl rfl (lt_ rfl) fun a H => s_blt H rfl (H.args (vs := [h86.v]) rfl) (lt_ rfl) (fun cs => b_lenS (z := h86) sl_51) fun a H => s_bin H rfl rfl rfl r_geq (lt_ rfl) fun a H => s_move H rfl rfl (lt_ rfl) fun a H => ?_
    obtain ⟨R90, h, h125⟩ := h
    refine g_joinW (n := 64) R90 (fun x91 => [(59, (.bool x91)), (2, (.pointer (some (blk b3)))), (8, (.pointer (some (blk b47)))), (9, h86.v)]) (.succ (.succ (.succ (.succ (.succ (.succ (.succ (.zero _)))))))) ?_ ?_
    ·intro h89
     clear h125
     rcases Bool.eq_false_or_eq_true (decide ((h86.l : Int) ≤ (d1.l : Int))) with h88 | h88
     ·replace H := H.ch (t := 52) (b := true) rfl h88
      replace h := h.1 h88
      refine s_move H (wantG H rfl rfl) rfl (lt_ rfl) fun a H => s_move H (wantG H rfl rfl) rfl (lt_ rfl) fun a H => s_blt H (wantG H rfl rfl) (H.args (vs := [h86.v]) rfl) (lt_ rfl) (fun cs => b_lenS (z := h86) sl_51) fun a H => ?_
      obtain ⟨h93, h94, h95, h⟩ := h
      refine s_slice (v := (Slc.v (d1.cut 1 (Int.toNat (0)) (Int.toNat ((h86.l : Int)))))) H (wantG H rfl rfl) rfl ⟨rfl, rfl⟩ ⟨rfl, rfl⟩ ⟨rfl, rfl⟩ (r_sliceSlc (lo := none) (hi := (some (.i64, (h86.l : Int)))) slc_51 rfl rfl h93 h94 h95) (lt_ rfl) fun a H => s_move H (wantG H rfl rfl) rfl (lt_ rfl) fun a H => ?_
      refine s_call H (wantG H rfl rfl) body_142 (H.args (vs := [(Slc.v (d1.cut 1 (Int.toNat (0)) (Int.toNat ((h86.l : Int))))), h86.v]) rfl) (lt_ rfl) h ?_ (fun c w' h H => e_panic (P := PP) (fn := Tryz.f99) H h)
      clear H h a
      rintro _ w96 a ⟨E97, rfl, h⟩ H
      refine s_pickT H rfl rfl rfl (lt_ rfl) fun a H => ?_
      exact h89 _ _ _ h (H.weaken ⟨rfl, rfl, rfl, rfl, trivial⟩)
     ·replace H := H.ch (t := 52) (b := false) rfl h88
      replace h := h.2 h88
      iterate 6 refine s_skip H (wantN H rfl rfl rfl) rfl (lt_ rfl) fun a H => ?_
      refine s_pickF H rfl rfl rfl (lt_ rfl) fun a H => ?_
      exact h89 _ _ _ h (H.weaken ⟨rfl, rfl, rfl, rfl, trivial⟩)
    ·clear H a h
     intro a x91 w92 h H
     replace h := h125 x91 w92 h
     clear h125
     refine s_call H rfl body_140 (H.args (vs := [(.bool x91), (.i 63)]) rfl) (lt_ rfl) h ?_ (fun c w' h H => e_panic (P := PP) (fn := Tryz.f99) H h)
     clear H h a
     rintro _ w102 a ⟨rfl, h⟩ H
     refine c_nil <| hK87 _ _ <| c_seq fun K103 hK103 => c_reg ?_
     obtain ⟨N104, hc105, K106, hc107, D108, hc109, S110, hc111, h⟩ := h
     refine s_loadN (l := [(.i N104), (.i K106), (.i D108), (.i S110)]) H rfl rfl agg_28 rfl ⟨hc105, hc107, hc109, hc111, trivial⟩ (lt_ rfl) fun a H => s_move H rfl rfl (lt_ rfl) fun a H => s_blt H rfl (H.args (vs := [h86.v]) rfl) (lt_ rfl) (fun cs => b_lenS (z := h86) sl_51) fun a H => s_stoN (l := [(.i N104), (.i K106), (.i D108), (.i S110)]) H rfl rfl rfl rfl agg_28 rfl rfl h ?_
     clear h H
     intro w112 h H
     refine s_assign H rfl rfl (lt_ rfl) fun a H => c_nil <| hK103 _ _ <| c_ret ?_
     obtain ⟨N113, hc114, K115, hc116, D117, hc118, S119, hc120, h⟩ := h
     exact e_ret2 H rfl ⟨_, rfl, run_loadN (l := [(.i N113), (.i K115), (.i D117), (.i S119)]) agg_28 rfl ⟨hc114, hc116, hc118, hc120, trivial⟩⟩ rfl h

theorem sim_record_Scan_c2 (c1 c2 : Addr) (w : World) (Q : Ending → World → Prop) (h : vc_record_Scan_c2 c1 c2 w Q) : Calls PP F_record_Scan_c2 #[(.pointer (some c1)), (.pointer (some c2))] w Q := by
 unfold vc_record_Scan_c2 at h
 refine enter (n := 11) Tryz.func100 rfl rfl (Nat.le_of_ble_eq_true rfl) fun a H => c_block ?_
 obtain ⟨I4, m5, h25, h26⟩ := h
 refine c_loop (σ := Unit) (fun z w => I4 w) (fun z w => m5 w) (fun z => [(0, (.pointer (some c1))), (1, (.pointer (some c2)))]) () h25 (H.weaken ⟨rfl, rfl, trivial⟩) ?_
 clear H h25
 rintro _ a w3 h H
 replace h := h26 w3 h
 clear h26
 replace H : Has 11 [] a [(0, (.pointer (some c1))), (1, (.pointer (some c2)))] := H
 refine c_seq fun K6 hK6 => c_seq fun K7 hK7 => c_regD mixed (by kernel_rfl) ?_
 obtain ⟨l9, hc10, h⟩ := h
 refine z_load (v := (.pointer l9)) H rfl rfl one_161 hc10 (lt_ rfl) fun a H => ?_
 obtain ⟨a11, h24, h⟩ := h
 revert H
 subst h24
 intro H
 refine z_nil H rfl rfl (lt_ rfl) fun a H => z_fld H rfl rfl fld_163_1 (lt_ rfl) fun a H => ?_
 obtain ⟨l12, hc13, h⟩ := h
 refine z_load (v := (.i l12)) H rfl rfl one_3 hc13 (lt_ rfl) fun a H => ?_
 obtain ⟨l14, hc15, h⟩ := h
 refine z_load (v := l14.v) H rfl rfl one_51 hc15 (lt_ rfl) fun a H => z_blt H rfl (H.args (vs := [l14.v]) rfl) (lt_ rfl) (fun cs w => b_lenS (z := l14) sl_51) fun a H => z_bin H rfl rfl rfl r_lss (lt_ rfl) fun a H => wpQuiet_nil ?_
 rintro _ ⟨k8, rfl⟩
 replace h := h k8
 refine hK7 _ _ <| c_cond H rfl (fun h16 => ?_) (fun h16 => ?_)
 ·replace h := h.1 h16
  refine c_skip <| hK6 _ _ <| c_block <| c_reg ?_
  obtain ⟨l17, hc18, h⟩ := h
  refine s_load (v := (.pointer l17)) H rfl rfl one_161 hc18 (lt_ rfl) fun a H => s_call H rfl body_101 (H.args (vs := [(.pointer l17)]) rfl) (lt_ rfl) h ?_ (fun c w' h H => e_panic (P := PP) (fn := Tryz.f100) H h)
  clear H h a
  rintro _ w19 a ⟨rfl, h⟩ H
  refine c_nil <| Exists.intro () ⟨h.1, h.2, H.weaken ⟨rfl, rfl, trivial⟩⟩
 ·replace h := h.2 h16
  refine c_exit ?_
  first | (simp only [Exit.then, Exit.inBlock, ↓reduceIte]; fail_if_success simp only [Nat.reduceEqDiff]) | simp only [Exit.then, Exit.inBlock, ↓reduceIte, Nat.reduceEqDiff]
  exact e_ret0 H rfl h

theorem sim_record_scanner_next (s1 : Option Addr) (w : World) (Q : Ending → World → Prop) (h : vc_record_scanner_next s1 w Q) : Calls PP F_record_scanner_next #[(.pointer s1)] w Q := by
 unfold vc_record_scanner_next at h
 refine enter (n := 124) Tryz.func101 rfl rfl (Nat.le_of_ble_eq_true rfl) fun a H => c_seq fun K2 hK2 => c_regD mixed (by kernel_rfl) <| z_move H rfl rfl (lt_ rfl) fun a H => ?_
 obtain ⟨a4, h178, h⟩ := h
 revert H
 subst h178
 intro H
 refine z_nil H rfl rfl (lt_ rfl) fun a H => z_fld H rfl rfl fld_163_0 (lt_ rfl) fun a H => ?_
 obtain ⟨l5, hc6, h⟩ := h
 refine z_load (v := l5.v) H rfl rfl one_51 hc6 (lt_ rfl) fun a H => z_move H rfl rfl (lt_ rfl) fun a H => z_nil H rfl rfl (lt_ rfl) fun a H => z_fld H rfl rfl fld_163_1 (lt_ rfl) fun a H => ?_
 obtain ⟨l7, hc8, h⟩ := h
 refine z_load (v := (.i l7)) H rfl rfl one_3 hc8 (lt_ rfl) fun a H => ?_
 obtain ⟨h9, h10, h11, h⟩ := h
 refine z_slice (v := (Slc.v (l5.cut 1 (Int.toNat (l7)) (Int.toNat ((l5.l : Int)))))) H rfl rfl ⟨rfl, rfl⟩ ⟨rfl, rfl⟩ ⟨rfl, rfl⟩ (fun w => r_sliceSlc (lo := (some (.i64, l7))) (hi := none) slc_51 rfl rfl h9 h10 h11) (lt_ rfl) fun a H => z_assign H rfl rfl (lt_ rfl) fun a H => wpQuiet_nil ?_
 rintro _ ⟨k3, rfl⟩
 replace h := h k3
 refine hK2 _ _ <| c_seq fun K12 hK12 => c_reg <| s_move H rfl rfl (lt_ rfl) fun a H => ?_
 obtain ⟨a13, h14, h15, h16, h⟩ := h
 refine s_idxS (s := l5.cut 1 (Int.toNat (l7)) (Int.toNat ((l5.l : Int)))) H rfl rfl rfl slc_51 h14 h15 h16 (lt_ rfl) fun a H => ?_
 obtain ⟨l17, hc18, h⟩ := h
 refine s_load (v := (.int .u8 l17)) H rfl rfl one_5 hc18 (lt_ rfl) fun a H => s_bin H rfl rfl rfl r_eql (lt_ rfl) fun a H => s_call H rfl body_140 (H.args (vs := [(.bool (decide (l17 = 82))), (.i 32)]) rfl) (lt_ rfl) h ?_ (fun c w' h H => e_panic (P := PP) (fn := Tryz.f101) H h)
 clear H h a
 rintro _ w19 a ⟨rfl, h⟩ H
 refine c_nil <| hK12 _ _ <| c_seq fun K20 hK20 => c_reg <| s_move H rfl rfl (lt_ rfl) fun a H => s_move H rfl rfl (lt_ rfl) fun a H => s_blt H rfl (H.args (vs := [(Slc.v (l5.cut 1 (Int.toNat (l7)) (Int.toNat ((l5.l : Int)))))]) rfl) (lt_ rfl) (fun cs => b_lenS (z := l5.cut 1 (Int.toNat (l7)) (Int.toNat ((l5.l : Int)))) sl_51) fun a H => ?_
 refine s_blt H rfl (H.args (vs := [(.i ((l5.cut 1 (Int.toNat (l7)) (Int.toNat ((l5.l : Int)))).l : Int)), (.i 11)]) rfl) (lt_ rfl) (fun cs => b_min) fun a H => ?_
 obtain ⟨h21, h22, h23, h⟩ := h
 refine s_slice (v := (Slc.v ((l5.cut 1 (Int.toNat (l7)) (Int.toNat ((l5.l : Int)))).cut 1 (Int.toNat (1)) (Int.toNat (minI ((l5.cut 1 (Int.toNat (l7)) (Int.toNat ((l5.l : Int)))).l : Int) 11))))) H rfl rfl ⟨rfl, rfl⟩ ⟨rfl, rfl⟩ ⟨rfl, rfl⟩ (r_sliceSlc (lo := (some (.i64, 1))) (hi := (some (.i64, minI ((l5.cut 1 (Int.toNat (l7)) (Int.toNat ((l5.l : Int)))).l : Int) 11))) slc_51 rfl rfl h21 h22 h23) (lt_ rfl) fun a H => ?_
 refine s_call H rfl body_137 (H.args (vs := [(Slc.v ((l5.cut 1 (Int.toNat (l7)) (Int.toNat ((l5.l : Int)))).cut 1 (Int.toNat (1)) (Int.toNat (minI ((l5.cut 1 (Int.toNat (l7)) (Int.toNat ((l5.l : Int)))).l : Int) 11))))]) rfl) (lt_ rfl) h ?_ (fun c w' h H => e_panic (P := PP) (fn := Tryz.f101) H h)
 clear H h a
 rintro _ w24 a ⟨N25, rfl, h⟩ H
 refine s_assign H rfl rfl (lt_ rfl) fun a H => c_nil <| hK20 _ _ <| c_seq fun K26 hK26 => c_reg <| s_move H rfl rfl (lt_ rfl) fun a H => s_call H rfl body_139 (H.args (vs := [(.pointer N25), (.i 66000)]) rfl) (lt_ rfl) h ?_ (fun c w' h H => e_panic (P := PP) (fn := Tryz.f101) H h)
 clear H h a
 rintro _ w27 a ⟨U28, rfl, h⟩ H
 refine s_assign H rfl rfl (lt_ rfl) fun a H => c_nil <| hK26 _ _ <| c_seq fun K29 hK29 => ?_
 obtain ⟨R30, h, h165⟩ := h
 have h153 : ∀ (a : Act) (w31 : World), R30 w31 → Has 124 [] a [(0, (.pointer (some a4))), (2, (Slc.v (l5.cut 1 (Int.toNat (l7)) (Int.toNat ((l5.l : Int)))))), (3, (.pointer N25)), (4, (.i U28))] → K29 a w31 := by
  clear h
  intro a w31 h H
  replace h := h165 w31 h
  refine hK29 _ _ <| c_seq fun K32 hK32 => c_reg <| s_move H rfl rfl (lt_ rfl) fun a H => s_call H rfl body_143 (H.args (vs := [(.pointer N25)]) rfl) (lt_ rfl) h ?_ (fun c w' h H => e_panic (P := PP) (fn := Tryz.f101) H h)
  clear H h a
  rintro _ w33 a ⟨A34, rfl, h⟩ H
  refine s_bin H rfl rfl rfl r_add (lt_ rfl) fun a H => s_assign H rfl rfl (lt_ rfl) fun a H => c_nil <| hK32 _ _ <| c_seq fun K35 hK35 => c_reg <| s_move H rfl rfl (lt_ rfl) fun a H => s_move H rfl rfl (lt_ rfl) fun a H => s_bin H rfl rfl rfl r_add (lt_ rfl) fun a H => s_assign H rfl rfl (lt_ rfl) fun a H => c_nil <| hK35 _ _ <| c_seq fun K36 hK36 => c_reg <| s_move H rfl rfl (lt_ rfl) fun a H => ?_
  refine s_blt H rfl (H.args (vs := [(Slc.v (l5.cut 1 (Int.toNat (l7)) (Int.toNat ((l5.l : Int)))))]) rfl) (lt_ rfl) (fun cs => b_lenS (z := l5.cut 1 (Int.toNat (l7)) (Int.toNat ((l5.l : Int)))) sl_51) fun a H => s_move H rfl rfl (lt_ rfl) fun a H => s_bin H rfl rfl rfl r_add (lt_ rfl) fun a H => s_bin H rfl rfl rfl r_geq (lt_ rfl) fun a H => ?_
  refine s_call H rfl body_140 (H.args (vs := [(.bool (decide ((wr .i64 ((wr .i64 ((wr .i64 (1 + A34)) + U28)) + 4)) ≤ ((l5.cut 1 (Int.toNat (l7)) (Int.toNat ((l5.l : Int)))).l : Int)))), (.i 30)]) rfl) (lt_ rfl) h ?_ (fun c w' h H => e_panic (P := PP) (fn := Tryz.f101) H h)
  clear H h a
  rintro _ w37 a ⟨rfl, h⟩ H
  refine c_nil <| hK36 _ _ <| c_seq fun K38 hK38 => ?_
  replace H := H.weaken (L' := [(0, (.pointer (some a4))), (2, (Slc.v (l5.cut 1 (Int.toNat (l7)) (Int.toNat ((l5.l : Int)))))), (5, (.i (wr .i64 (1 + A34)))), (6, (.i (wr .i64 ((wr .i64 (1 + A34)) + U28))))]) ⟨rfl, rfl, rfl, rfl, trivial⟩
  obtain ⟨l39, hc40, a41, h42, h⟩ := h
  revert H
  subst h42
  intro H
  obtain ⟨l43, hc44, h45, h46, h47, h⟩ := h
  refine c_any (V := [(0, (.pointer (some a4))), (1, (.pointer (some a4))), (2, (.pointer (some (a4.add 2)))), (3, (.pointer (some a41))), (4, (.pointer (some a41))), (5, (.pointer (some (a41.add 0)))), (6, l43.v), (7, (Slc.v (l5.cut 1 (Int.toNat (l7)) (Int.toNat ((l5.l : Int)))))), (8, (.i (wr .i64 ((wr .i64 (1 + A34)) + U28)))), (9, (Slc.v ((l5.cut 1 (Int.toNat (l7)) (Int.toNat ((l5.l : Int)))).cut 1 (Int.toNat (0)) (Int.toNat (wr .i64 ((wr .i64 (1 + A34)) + U28))))))]) (⟨[[], [0], [1], [2], [3], [4], [5], [], [], [7, 8], [6, 9], [10], [11], [0, 1, 2, 3, 4, 5, 6, 7, 8, 9, 10, 11, 12]], [some 50, some 51, some 52, some 53, some 54, some 55, some 56, some 57, some 58, some 59, some 60, some 61, some 62, some 7], [10, 11, 12], [0, 0, 0, 0, 0, 0, 0, 0, 0, 0, 0, 1, 2, 3], [0, 0, 0, 0, 0, 0, 0, 0, 0, 0, 1, 2, 3, 3]⟩ : Rg) [(0, (.pointer (some a4))), (2, (Slc.v (l5.cut 1 (Int.toNat (l7)) (Int.toNat ((l5.l : Int)))))), (5, (.i (wr .i64 (1 + A34)))), (6, (.i (wr .i64 ((wr .i64 (1 + A34)) + U28))))] mixed (by kernel_rfl) H ?_
  refine Stg.eff [0, 1, 2, 3, 4, 5, 6, 7, 8, 9] (by kernel_rfl) rfl (.cons ?_ (.cons ?_ (.cons ?_ (.cons ?_ (.cons ?_ (.cons ?_ (.cons ?_ (.cons ?_ (.cons ?_ (.cons ?_ .nil)))))))))) ?_
  ·refine Ans.mk rfl rfl fun a H => s_move H rfl rfl (lt_ rfl) fun a H => ?_
   exact Ans.fin H rfl
  ·refine Ans.mk rfl rfl fun a H => s_nil H rfl rfl (lt_ rfl) fun a H => ?_
   exact Ans.fin H rfl
  ·refine Ans.mk rfl rfl fun a H => s_fld H rfl rfl fld_163_2 (lt_ rfl) fun a H => ?_
   exact Ans.fin H rfl
  ·refine Ans.mk rfl rfl fun a H => s_load (v := (.pointer (some a41))) H rfl rfl one_93 hc40 (lt_ rfl) fun a H => ?_
   exact Ans.fin H rfl
  ·refine Ans.mk rfl rfl fun a H => s_nil H rfl rfl (lt_ rfl) fun a H => ?_
   exact Ans.fin H rfl
  ·refine Ans.mk rfl rfl fun a H => s_fld H rfl rfl fld_101_0 (lt_ rfl) fun a H => ?_
   exact Ans.fin H rfl
  ·refine Ans.mk rfl rfl fun a H => s_load (v := l43.v) H rfl rfl one_51 hc44 (lt_ rfl) fun a H => ?_
   exact Ans.fin H rfl
  ·refine Ans.mk rfl rfl fun a H => s_move H rfl rfl (lt_ rfl) fun a H => ?_
   exact Ans.fin H rfl
  ·refine Ans.mk rfl rfl fun a H => s_move H rfl rfl (lt_ rfl) fun a H => ?_
   exact Ans.fin H rfl
  ·refine Ans.mk rfl rfl fun a H => s_slice (v := (Slc.v ((l5.cut 1 (Int.toNat (l7)) (Int.toNat ((l5.l : Int)))).cut 1 (Int.toNat (0)) (Int.toNat (wr .i64 ((wr .i64 (1 + A34)) + U28)))))) H rfl rfl ⟨rfl, rfl⟩ ⟨rfl, rfl⟩ ⟨rfl, rfl⟩ (r_sliceSlc (lo := none) (hi := (some (.i64, wr .i64 ((wr .i64 (1 + A34)) + U28)))) slc_51 rfl rfl h45 h46 h47) (lt_ rfl) fun a H => ?_
   exact Ans.fin H rfl
  ·intro a H
   replace H := H.weaken (L' := [(56, l43.v), (59, (Slc.v ((l5.cut 1 (Int.toNat (l7)) (Int.toNat ((l5.l : Int)))).cut 1 (Int.toNat (0)) (Int.toNat (wr .i64 ((wr .i64 (1 + A34)) + U28))))))]) ⟨rfl, rfl, trivial⟩
   replace h := h.get
   obtain ⟨b48, w49, n50, h⟩ := h
   refine s_bslc H rfl (by rw [H.parts (vs := [(0, l43.v), (1, (Slc.v ((l5.cut 1 (Int.toNat (l7)) (Int.toNat ((l5.l : Int)))).cut 1 (Int.toNat (0)) (Int.toNat (wr .i64 ((wr .i64 (1 + A34)) + U28))))))]) rfl]; exact bs_154_2_s0_s1 (w37.drewN 1) l43 ((l5.cut 1 (Int.toNat (l7)) (Int.toNat ((l5.l : Int)))).cut 1 (Int.toNat (0)) (Int.toNat (wr .i64 ((wr .i64 (1 + A34)) + U28))))) (lt_ rfl) ?_
   rw [← n50.at_]
   clear H a
   intro a H
   refine n50.go <| c_nil <| effQ.go [] H rfl rfl <| Stg.eff [] (by kernel_rfl) rfl .nil ?_
   ·intro a H
    replace H := H.weaken (L' := [(60, (Slc.v (Slc.mk (some (blk b48)) 2 2)))]) ⟨rfl, trivial⟩
    refine s_call H rfl body_74 (H.args (vs := [(Slc.v (Slc.mk (some (blk b48)) 2 2))]) rfl) (lt_ rfl) h ?_ (fun c w' h H => e_panic (P := PP) (fn := Tryz.f101) H h)
    clear H h a
    rintro _ w51 a ⟨O52, rfl, h⟩ H
    refine c_nil <| effQ.go [] H rfl rfl <| Stg.eff [] (by kernel_rfl) rfl .nil ?_
    ·intro a H
     replace H := H.weaken (L' := [(61, (.int .u32 O52))]) ⟨rfl, trivial⟩
     refine s_call H rfl body_73 (H.args (vs := [(.int .u32 O52)]) rfl) (lt_ rfl) h ?_ (fun c w' h H => e_panic (P := PP) (fn := Tryz.f101) H h)
     clear H h a
     rintro _ w53 a ⟨f54, rfl, h⟩ H
     refine c_nil <| effQ.go [(13, f54.v)] H rfl rfl <| Stg.fin [13] (by kernel_rfl) (.cons ?_ .nil) ?_
     ·refine Ans.mk rfl rfl fun a H => s_assign H rfl rfl (lt_ rfl) fun a H => ?_
      exact Ans.fin H rfl
     ·intro a H
      replace H := H.weaken (L' := [(0, (.pointer (some a4))), (2, (Slc.v (l5.cut 1 (Int.toNat (l7)) (Int.toNat ((l5.l : Int)))))), (5, (.i (wr .i64 (1 + A34)))), (6, (.i (wr .i64 ((wr .i64 (1 + A34)) + U28)))), (7, f54.v)]) ⟨rfl, rfl, rfl, rfl, rfl, trivial⟩
      refine hK38 _ _ <| c_seq fun K55 hK55 => c_reg ?_
      iterate 4 refine s_move H rfl rfl (lt_ rfl) fun a H => ?_
      refine s_bin H rfl rfl rfl r_add (lt_ rfl) fun a H => ?_
      obtain ⟨h56, h57, h58, h⟩ := h
      refine s_slice (v := (Slc.v ((l5.cut 1 (Int.toNat (l7)) (Int.toNat ((l5.l : Int)))).cut 1 (Int.toNat (wr .i64 ((wr .i64 (1 + A34)) + U28))) (Int.toNat (wr .i64 ((wr .i64 ((wr .i64 (1 + A34)) + U28)) + 4)))))) H rfl rfl ⟨rfl, rfl⟩ ⟨rfl, rfl⟩ ⟨rfl, rfl⟩ (r_sliceSlc (lo := (some (.i64, wr .i64 ((wr .i64 (1 + A34)) + U28)))) (hi := (some (.i64, wr .i64 ((wr .i64 ((wr .i64 (1 + A34)) + U28)) + 4)))) slc_51 rfl rfl h56 h57 h58) (lt_ rfl) fun a H => ?_
      refine s_call H rfl body_142 (H.args (vs := [f54.v, (Slc.v ((l5.cut 1 (Int.toNat (l7)) (Int.toNat ((l5.l : Int)))).cut 1 (Int.toNat (wr .i64 ((wr .i64 (1 + A34)) + U28))) (Int.toNat (wr .i64 ((wr .i64 ((wr .i64 (1 + A34)) + U28)) + 4)))))]) rfl) (lt_ rfl) h ?_ (fun c w' h H => e_panic (P := PP) (fn := Tryz.f101) H h)
      clear H h a
      rintro _ w59 a ⟨E60, rfl, h⟩ H
      refine s_call H rfl body_140 (H.args (vs := [(.bool E60), (.i 34)]) rfl) (lt_ rfl) h ?_ (fun c w' h H => e_panic (P := PP) (fn := Tryz.f101) H h)
      clear H h a
      rintro _ w61 a ⟨rfl, h⟩ H
      refine c_nil <| hK55 _ _ <| c_seq fun K62 hK62 => ?_
      replace H := H.weaken (L' := [(0, (.pointer (some a4))), (2, (Slc.v (l5.cut 1 (Int.toNat (l7)) (Int.toNat ((l5.l : Int)))))), (5, (.i (wr .i64 (1 + A34)))), (6, (.i (wr .i64 ((wr .i64 (1 + A34)) + U28)))), (7, f54.v)]) ⟨rfl, rfl, rfl, rfl, rfl, trivial⟩
      obtain ⟨l63, hc64, h65, h66, h67, h⟩ := h
      refine c_any (V := [(0, (.pointer (some a4))), (1, (.pointer (some a4))), (2, (.pointer (some a4))), (3, (.pointer (some (a4.add 3)))), (4, l63.v), (5, (Slc.v (l5.cut 1 (Int.toNat (l7)) (Int.toNat ((l5.l : Int)))))), (6, (.i (wr .i64 (1 + A34)))), (7, (.i (wr .i64 ((wr .i64 (1 + A34)) + U28)))), (8, (Slc.v ((l5.cut 1 (Int.toNat (l7)) (Int.toNat ((l5.l : Int)))).cut 1 (Int.toNat (wr .i64 (1 + A34))) (Int.toNat (wr .i64 ((wr .i64 (1 + A34)) + U28))))))]) (⟨[[], [], [1], [2], [3], [], [], [], [5, 6, 7], [8], [9], [4, 9, 10], [0, 1, 2, 3, 4, 5, 6, 7, 8, 9, 10, 11], [0, 1, 2, 3, 4, 5, 6, 7, 8, 9, 10, 11, 12], [0, 1, 2, 3, 4, 5, 6, 7, 8, 9, 10, 11, 13]], [some 71, some 72, some 73, some 74, some 75, some 76, some 77, some 78, some 79, some 80, some 81, some 82, some 83, some 84, none], [9, 10, 11, 14], [0, 0, 0, 0, 0, 0, 0, 0, 0, 0, 1, 2, 3, 3, 3], [3, 2, 2, 2, 2, 0, 0, 0, 0, 1, 2, 3, 3, 3, 4]⟩ : Rg) [(0, (.pointer (some a4))), (2, (Slc.v (l5.cut 1 (Int.toNat (l7)) (Int.toNat ((l5.l : Int)))))), (5, (.i (wr .i64 (1 + A34)))), (6, (.i (wr .i64 ((wr .i64 (1 + A34)) + U28)))), (7, f54.v)] mixed (by kernel_rfl) H ?_
      refine Stg.eff [0, 1, 2, 3, 4, 5, 6, 7, 8] (by kernel_rfl) rfl (.cons ?_ (.cons ?_ (.cons ?_ (.cons ?_ (.cons ?_ (.cons ?_ (.cons ?_ (.cons ?_ (.cons ?_ .nil))))))))) ?_
      ·refine Ans.mk rfl rfl fun a H => s_move H rfl rfl (lt_ rfl) fun a H => ?_
       exact Ans.fin H rfl
      ·refine Ans.mk rfl rfl fun a H => s_move H rfl rfl (lt_ rfl) fun a H => ?_
       exact Ans.fin H rfl
      ·refine Ans.mk rfl rfl fun a H => s_nil H rfl rfl (lt_ rfl) fun a H => ?_
       exact Ans.fin H rfl
      ·refine Ans.mk rfl rfl fun a H => s_fld H rfl rfl fld_163_3 (lt_ rfl) fun a H => ?_
       exact Ans.fin H rfl
      ·refine Ans.mk rfl rfl fun a H => s_load (v := l63.v) H rfl rfl one_23 hc64 (lt_ rfl) fun a H => ?_
       exact Ans.fin H rfl
      ·refine Ans.mk rfl rfl fun a H => s_move H rfl rfl (lt_ rfl) fun a H => ?_
       exact Ans.fin H rfl
      ·refine Ans.mk rfl rfl fun a H => s_move H rfl rfl (lt_ rfl) fun a H => ?_
       exact Ans.fin H rfl
      ·refine Ans.mk rfl rfl fun a H => s_move H rfl rfl (lt_ rfl) fun a H => ?_
       exact Ans.fin H rfl
      ·refine Ans.mk rfl rfl fun a H => s_slice (v := (Slc.v ((l5.cut 1 (Int.toNat (l7)) (Int.toNat ((l5.l : Int)))).cut 1 (Int.toNat (wr .i64 (1 + A34))) (Int.toNat (wr .i64 ((wr .i64 (1 + A34)) + U28)))))) H rfl rfl ⟨rfl, rfl⟩ ⟨rfl, rfl⟩ ⟨rfl, rfl⟩ (r_sliceSlc (lo := (some (.i64, wr .i64 (1 + A34)))) (hi := (some (.i64, wr .i64 ((wr .i64 (1 + A34)) + U28)))) slc_51 rfl rfl h65 h66 h67) (lt_ rfl) fun a H => ?_
       exact Ans.fin H rfl
      ·intro a H
       replace H := H.weaken (L' := [(79, (Slc.v ((l5.cut 1 (Int.toNat (l7)) (Int.toNat ((l5.l : Int)))).cut 1 (Int.toNat (wr .i64 (1 + A34))) (Int.toNat (wr .i64 ((wr .i64 (1 + A34)) + U28))))))]) ⟨rfl, trivial⟩
       refine s_call H rfl body_144 (H.args (vs := [(Slc.v ((l5.cut 1 (Int.toNat (l7)) (Int.toNat ((l5.l : Int)))).cut 1 (Int.toNat (wr .i64 (1 + A34))) (Int.toNat (wr .i64 ((wr .i64 (1 + A34)) + U28)))))]) rfl) (lt_ rfl) h ?_ (fun c w' h H => e_panic (P := PP) (fn := Tryz.f101) H h)
       clear H h a
       rintro _ w68 a ⟨K69, K70, C71, C72, F73, H74, D75, rfl, h⟩ H
       refine c_nil ?_
       obtain ⟨hc76, h⟩ := h
       refine effQ.go [] H rfl rfl <| Stg.eff [0, 1, 2, 3, 4] (by kernel_rfl) rfl (.cons ?_ (.cons ?_ (.cons ?_ (.cons ?_ (.cons ?_ .nil))))) ?_
       ·refine Ans.mk rfl rfl fun a H => s_move H rfl rfl (lt_ rfl) fun a H => ?_
        exact Ans.fin H rfl
       ·refine Ans.mk rfl rfl fun a H => s_move H rfl rfl (lt_ rfl) fun a H => ?_
        exact Ans.fin H rfl
       ·refine Ans.mk rfl rfl fun a H => s_nil H rfl rfl (lt_ rfl) fun a H => ?_
        exact Ans.fin H rfl
       ·refine Ans.mk rfl rfl fun a H => s_fld H rfl rfl fld_163_3 (lt_ rfl) fun a H => ?_
        exact Ans.fin H rfl
       ·refine Ans.mk rfl rfl fun a H => s_load (v := l63.v) H rfl rfl one_23 hc76 (lt_ rfl) fun a H => ?_
        exact Ans.fin H rfl
       ·intro a H
        replace H := H.weaken (L' := [(80, (.agg #[(.i K69), (.string K70), (.i C71), (.i C72), (.bool F73), (.bool H74), D75.v]))]) ⟨rfl, trivial⟩
        replace h := h.get
        obtain ⟨b77, w78, n79, h⟩ := h
        refine s_bslc H rfl (by rw [H.parts (vs := [(0, (.agg #[(.i K69), (.string K70), (.i C71), (.i C72), (.bool F73), (.bool H74), D75.v]))]) rfl]; exact bs_23_1_ii64sii64ii64bbs0 w68 K69 K70 C71 C72 F73 H74 D75) (lt_ rfl) ?_
        rw [← n79.at_]
        clear H a
        intro a H
        refine n79.go <| c_nil ?_
        obtain ⟨hc80, h⟩ := h
        refine effQ.go [] H rfl rfl <| Stg.eff [0, 1, 2, 3, 4] (by kernel_rfl) rfl (.cons ?_ (.cons ?_ (.cons ?_ (.cons ?_ (.cons ?_ .nil))))) ?_
        ·refine Ans.mk rfl rfl fun a H => s_move H rfl rfl (lt_ rfl) fun a H => ?_
         exact Ans.fin H rfl
        ·refine Ans.mk rfl rfl fun a H => s_move H rfl rfl (lt_ rfl) fun a H => ?_
         exact Ans.fin H rfl
        ·refine Ans.mk rfl rfl fun a H => s_nil H rfl rfl (lt_ rfl) fun a H => ?_
         exact Ans.fin H rfl
        ·refine Ans.mk rfl rfl fun a H => s_fld H rfl rfl fld_163_3 (lt_ rfl) fun a H => ?_
         exact Ans.fin H rfl
        ·refine Ans.mk rfl rfl fun a H => s_load (v := l63.v) H rfl rfl one_23 hc80 (lt_ rfl) fun a H => ?_
         exact Ans.fin H rfl
        ·intro a H
         replace H := H.weaken (L' := [(75, l63.v), (81, (Slc.v (Slc.mk (some (blk b77)) 1 1)))]) ⟨rfl, rfl, trivial⟩
         obtain ⟨s81, w82, h83, h⟩ := h
         refine s_blt H rfl (H.args (vs := [l63.v, (Slc.v (Slc.mk (some (blk b77)) 1 1))]) rfl) (lt_ rfl) (fun cs => b_app (z := s81) h83) ?_
         clear H a h83
         intro a H
         refine c_nil <| effQ.go [(12, (.pointer (some a4))), (13, (.pointer (some (a4.add 3))))] H rfl rfl <| Stg.eff [0, 12, 13] (by kernel_rfl) rfl (.cons ?_ (.cons ?_ (.cons ?_ .nil))) ?_
         ·refine Ans.mk rfl rfl fun a H => s_move H rfl rfl (lt_ rfl) fun a H => ?_
          exact Ans.fin H rfl
         ·refine Ans.mk rfl rfl fun a H => s_nil H rfl rfl (lt_ rfl) fun a H => ?_
          exact Ans.fin H rfl
         ·refine Ans.mk rfl rfl fun a H => s_fld H rfl rfl fld_163_3 (lt_ rfl) fun a H => ?_
          exact Ans.fin H rfl
         ·intro a H
          replace H := H.weaken (L' := [(82, s81.v), (84, (.pointer (some (a4.add 3))))]) ⟨rfl, rfl, trivial⟩
          obtain ⟨h85, h86, h⟩ := h
          refine s_sto (p := a4.add 3) (v := s81.v) H rfl rfl rfl rfl one_23 rfl h85 h86 ?_
          clear H
          intro H
          generalize hww84 : World.setCell w82 (a4.add 3) s81.v = w84 at h ⊢
          have w84S : SetAt w82 (a4.add 3) s81.v w84 := ⟨hww84.symm⟩
          clear hww84 h85 h86
          refine c_nil <| effQ.go0 [] H rfl rfl <| Stg.fin [] (by kernel_rfl) .nil ?_
          ·intro a H
           replace H := H.weaken (L' := [(0, (.pointer (some a4))), (6, (.i (wr .i64 ((wr .i64 (1 + A34)) + U28)))), (7, f54.v)]) ⟨rfl, rfl, rfl, trivial⟩
           refine hK62 _ _ <| c_seq fun K87 hK87 => c_reg <| s_move H rfl rfl (lt_ rfl) fun a H => s_nil H rfl rfl (lt_ rfl) fun a H => s_fld H rfl rfl fld_163_2 (lt_ rfl) fun a H => ?_
           obtain ⟨l88, hc89, h⟩ := h
           refine s_load (v := (.pointer l88)) H rfl rfl one_93 hc89 (lt_ rfl) fun a H => s_move H rfl rfl (lt_ rfl) fun a H => ?_
           obtain ⟨a90, h124, h⟩ := h
           revert H
           subst h124
           intro H
           refine s_nil H rfl rfl (lt_ rfl) fun a H => s_fld H rfl rfl fld_101_0 (lt_ rfl) fun a H => ?_
           obtain ⟨h92, h93, h⟩ := h
           refine s_sto (p := a90.add 0) (v := f54.v) H rfl rfl rfl rfl one_51 rfl h92 h93 ?_
           clear H
           intro H
           generalize hww91 : World.setCell w84 (a90.add 0) f54.v = w91 at h ⊢
           have w91S : SetAt w84 (a90.add 0) f54.v w91 := ⟨hww91.symm⟩
           clear hww91 h92 h93
           refine c_nil <| hK87 _ _ <| c_seq fun K94 hK94 => c_reg <| s_move H rfl rfl (lt_ rfl) fun a H => s_nil H rfl rfl (lt_ rfl) fun a H => s_fld H rfl rfl fld_163_2 (lt_ rfl) fun a H => ?_
           obtain ⟨l95, hc96, h⟩ := h
           refine s_load (v := (.pointer l95)) H rfl rfl one_93 hc96 (lt_ rfl) fun a H => ?_
           obtain ⟨a97, h123, h⟩ := h
           revert H
           subst h123
           intro H
           refine s_nil H rfl rfl (lt_ rfl) fun a H => s_fld H rfl rfl fld_101_1 (lt_ rfl) fun a H => ?_
           obtain ⟨l98, hc99, h⟩ := h
           refine s_load (v := (.i l98)) H rfl rfl one_3 hc99 (lt_ rfl) fun a H => s_bin H rfl rfl rfl r_add (lt_ rfl) fun a H => s_nil H rfl rfl (lt_ rfl) fun a H => s_fld H rfl rfl fld_101_1 (lt_ rfl) fun a H => ?_
           obtain ⟨h101, h102, h⟩ := h
           refine s_sto (p := a97.add 1) (v := (.i (wr .i64 (l98 + 1)))) H rfl rfl rfl rfl one_3 rfl h101 h102 ?_
           clear H
           intro H
           generalize hww100 : World.setCell w91 (a97.add 1) (.i (wr .i64 (l98 + 1))) = w100 at h ⊢
           have w100S : SetAt w91 (a97.add 1) (.i (wr .i64 (l98 + 1))) w100 := ⟨hww100.symm⟩
           clear hww100 h101 h102
           refine c_nil <| hK94 _ _ <| c_seq fun K103 hK103 => c_reg <| s_move H rfl rfl (lt_ rfl) fun a H => s_nil H rfl rfl (lt_ rfl) fun a H => s_fld H rfl rfl fld_163_1 (lt_ rfl) fun a H => ?_
           obtain ⟨l104, hc105, h⟩ := h
           refine s_load (v := (.i l104)) H rfl rfl one_3 hc105 (lt_ rfl) fun a H => s_move H rfl rfl (lt_ rfl) fun a H => s_bin H rfl rfl rfl r_add (lt_ rfl) fun a H => s_bin H rfl rfl rfl r_add (lt_ rfl) fun a H => s_nil H rfl rfl (lt_ rfl) fun a H => s_fld H rfl rfl fld_163_1 (lt_ rfl) fun a H => ?_
           obtain ⟨h107, h108, h⟩ := h
           refine s_sto (p := a4.add 1) (v := (.i (wr .i64 (l104 + (wr .i64 ((wr .i64 ((wr .i64 (1 + A34)) + U28)) + 4)))))) H rfl rfl rfl rfl one_3 rfl h107 h108 ?_
           clear H
           intro H
           generalize hww106 : World.setCell w100 (a4.add 1) (.i (wr .i64 (l104 + (wr .i64 ((wr .i64 ((wr .i64 (1 + A34)) + U28)) + 4))))) = w106 at h ⊢
           have w106S : SetAt w100 (a4.add 1) (.i (wr .i64 (l104 + (wr .i64 ((wr .i64 ((wr .i64 (1 + A34)) + U28)) + 4))))) w106 := ⟨hww106.symm⟩
           clear hww106 h107 h108
           refine c_nil <| hK103 _ _ ?_
           replace H := H.weaken (L' := [(0, (.pointer (some a4)))]) ⟨rfl, trivial⟩
           obtain ⟨l109, hc110, l111, hc112, h⟩ := h
           refine c_any (V := [(0, (.pointer (some a4))), (1, (.pointer (some a4))), (2, (.pointer (some a4))), (3, (.pointer (some (a4.add 4)))), (4, l109.v), (5, (.pointer (some a4))), (6, (.pointer (some a4))), (7, (.pointer (some (a4.add 1)))), (8, (.i l111))]) (⟨[[], [], [1], [2], [3], [], [5], [6], [7], [8], [4, 9], [0, 1, 2, 3, 4, 5, 6, 7, 8, 9, 10], [0, 1, 2, 3, 4, 5, 6, 7, 8, 9, 10, 11], [0, 1, 2, 3, 4, 5, 6, 7, 8, 9, 10, 12]], [some 111, some 112, some 113, some 114, some 115, some 116, some 117, some 118, some 119, some 120, some 121, some 122, some 123, none], [9, 10, 13], [0, 0, 0, 0, 0, 0, 0, 0, 0, 0, 1, 2, 2, 2], [2, 1, 1, 1, 1, 0, 0, 0, 0, 1, 2, 2, 2, 3]⟩ : Rg) [(0, (.pointer (some a4)))] mixed (by kernel_rfl) H ?_
           refine Stg.eff [0, 1, 2, 3, 4, 5, 6, 7, 8] (by kernel_rfl) rfl (.cons ?_ (.cons ?_ (.cons ?_ (.cons ?_ (.cons ?_ (.cons ?_ (.cons ?_ (.cons ?_ (.cons ?_ .nil))))))))) ?_
           ·refine Ans.mk rfl rfl fun a H => s_move H rfl rfl (lt_ rfl) fun a H => ?_
            exact Ans.fin H rfl
           ·refine Ans.mk rfl rfl fun a H => s_move H rfl rfl (lt_ rfl) fun a H => ?_
            exact Ans.fin H rfl
           ·refine Ans.mk rfl rfl fun a H => s_nil H rfl rfl (lt_ rfl) fun a H => ?_
            exact Ans.fin H rfl
           ·refine Ans.mk rfl rfl fun a H => s_fld H rfl rfl fld_163_4 (lt_ rfl) fun a H => ?_
            exact Ans.fin H rfl
           ·refine Ans.mk rfl rfl fun a H => s_load (v := l109.v) H rfl rfl one_24 hc110 (lt_ rfl) fun a H => ?_
            exact Ans.fin H rfl
           ·refine Ans.mk rfl rfl fun a H => s_move H rfl rfl (lt_ rfl) fun a H => ?_
            exact Ans.fin H rfl
           ·refine Ans.mk rfl rfl fun a H => s_nil H rfl rfl (lt_ rfl) fun a H => ?_
            exact Ans.fin H rfl
           ·refine Ans.mk rfl rfl fun a H => s_fld H rfl rfl fld_163_1 (lt_ rfl) fun a H => ?_
            exact Ans.fin H rfl
           ·refine Ans.mk rfl rfl fun a H => s_load (v := (.i l111)) H rfl rfl one_3 hc112 (lt_ rfl) fun a H => ?_
            exact Ans.fin H rfl
           ·intro a H
            replace H := H.weaken (L' := [(119, (.i l111))]) ⟨rfl, trivial⟩
            replace h := h.get
            obtain ⟨b113, w114, n115, h⟩ := h
            refine s_bslc H rfl (by rw [H.parts (vs := [(0, (.i l111))]) rfl]; exact bs_24_1_ii640 (w106.drewN 1) l111) (lt_ rfl) ?_
            rw [← n115.at_]
            clear H a
            intro a H
            refine n115.go <| c_nil ?_
            obtain ⟨hc116, h⟩ := h
            refine effQ.go [] H rfl rfl <| Stg.eff [0, 1, 2, 3, 4] (by kernel_rfl) rfl (.cons ?_ (.cons ?_ (.cons ?_ (.cons ?_ (.cons ?_ .nil))))) ?_
            ·refine Ans.mk rfl rfl fun a H => s_move H rfl rfl (lt_ rfl) fun a H => ?_
             exact Ans.fin H rfl
            ·refine Ans.mk rfl rfl fun a H => s_move H rfl rfl (lt_ rfl) fun a H => ?_
             exact Ans.fin H rfl
            ·refine Ans.mk rfl rfl fun a H => s_nil H rfl rfl (lt_ rfl) fun a H => ?_
             exact Ans.fin H rfl
            ·refine Ans.mk rfl rfl fun a H => s_fld H rfl rfl fld_163_4 (lt_ rfl) fun a H => ?_
             exact Ans.fin H rfl
            ·refine Ans.mk rfl rfl fun a H => s_load (v := l109.v) H rfl rfl one_24 hc116 (lt_ rfl) fun a H => ?_
             exact Ans.fin H rfl
            ·intro a H
             replace H := H.weaken (L' := [(115, l109.v), (120, (Slc.v (Slc.mk (some (blk b113)) 1 1)))]) ⟨rfl, rfl, trivial⟩
             obtain ⟨s117, w118, h119, h⟩ := h
             refine s_blt H rfl (H.args (vs := [l109.v, (Slc.v (Slc.mk (some (blk b113)) 1 1))]) rfl) (lt_ rfl) (fun cs => b_app (z := s117) h119) ?_
             clear H a h119
             intro a H
             refine c_nil <| effQ.go [(11, (.pointer (some a4))), (12, (.pointer (some (a4.add 4))))] H rfl rfl <| Stg.eff [0, 11, 12] (by kernel_rfl) rfl (.cons ?_ (.cons ?_ (.cons ?_ .nil))) ?_
             ·refine Ans.mk rfl rfl fun a H => s_move H rfl rfl (lt_ rfl) fun a H => ?_
              exact Ans.fin H rfl
             ·refine Ans.mk rfl rfl fun a H => s_nil H rfl rfl (lt_ rfl) fun a H => ?_
              exact Ans.fin H rfl
             ·refine Ans.mk rfl rfl fun a H => s_fld H rfl rfl fld_163_4 (lt_ rfl) fun a H => ?_
              exact Ans.fin H rfl
             ·intro a H
              replace H := H.weaken (L' := [(121, s117.v), (123, (.pointer (some (a4.add 4))))]) ⟨rfl, rfl, trivial⟩
              obtain ⟨h121, h122, h⟩ := h
              refine s_sto (p := a4.add 4) (v := s117.v) H rfl rfl rfl rfl one_24 rfl h121 h122 ?_
              clear H
              intro H
              generalize hww120 : World.setCell w118 (a4.add 4) s117.v = w120 at h ⊢
              have w120S : SetAt w118 (a4.add 4) s117.v w120 := ⟨hww120.symm⟩
              clear hww120 h121 h122
              refine c_nil <| effQ.go0 [] H rfl rfl <| Stg.fin [] (by kernel_rfl) .nil ?_
              ·intro a H
               replace H := H.weaken (L' := []) trivial
               exact e_ret0 H rfl h
 clear h165
 refine c_seq fun K154 hK154 => c_reg <| s_move H rfl rfl (lt_ rfl) fun a H => s_call H rfl body_141 (H.args (vs := [(.pointer N25)]) rfl) (lt_ rfl) h ?_ (fun c w' h H => e_panic (P := PP) (fn := Tryz.f101) H h)
 clear H h a
 rintro _ w155 a ⟨E156, rfl, h⟩ H
 refine c_nil <| hK154 _ _ <| c_block <| c_seq fun K157 hK157 => c_reg <| s_bin H rfl rfl rfl r_eql (lt_ rfl) fun a H => s_assign H rfl rfl (lt_ rfl) fun a H => c_nil <| hK157 _ _ <| c_cond H rfl (fun h158 => ?_) (fun h158 => ?_)
 ·replace h := h.1 h158
  refine c_skip ?_
  exact h153 _ _ h (H.weaken ⟨rfl, rfl, rfl, rfl, trivial⟩)
 ·replace h := h.2 h158
  refine c_seq fun K159 hK159 => c_reg <| s_bin H rfl rfl rfl r_eql (lt_ rfl) fun a H => s_assign H rfl rfl (lt_ rfl) fun a H => c_nil <| hK159 _ _ <| c_cond H rfl (fun h160 => ?_) (fun h160 => ?_)
  ·replace h := h.1 h160
   refine c_reg <| s_iface H rfl rfl ni_40 (lt_ rfl) fun a H => ?_
   exact s_panic H rfl rfl (fun H => e_panic (P := PP) (fn := Tryz.f101) H h)
  ·replace h := h.2 h160
   refine c_reg <| s_iface H rfl rfl ni_40 (lt_ rfl) fun a H => ?_
   exact s_panic H rfl rfl (fun H => e_panic (P := PP) (fn := Tryz.f101) H h)

theorem sim_disk_wiping (s1 : Option Addr) (w : World) (Q : Ending → World → Prop) (h : vc_disk_wiping s1 w Q) : Calls PP F_disk_wiping #[(.pointer s1)] w Q := by
 unfold vc_disk_wiping at h
 refine enter (n := 5) Tryz.func106 rfl rfl (Nat.le_of_ble_eq_true rfl) fun a H => c_reg <| s_move H rfl rfl (lt_ rfl) fun a H => s_build H rfl (by rw [H.parts (vs := [(0, (.func (.func 148) #[] #[]))]) rfl]; exact bd_112_v0_funcfunc148 w (#[])) (lt_ rfl) fun a H => s_call H rfl body_117 (H.args (vs := [(.pointer s1), (.agg #[(.func (.func 148) #[] #[]), (.i 0)])]) rfl) (lt_ rfl) h ?_ (fun c w' h H => e_panic (P := PP) (fn := Tryz.f106) H h)
 clear H h a
 rintro _ w2 a ⟨rfl, h⟩ H
 refine c_nil ?_
 exact e_ret0 H rfl h

theorem sim_disk_Disk_Switch_c1 (p1 : Option Addr) (c2 c3 : Addr) (w : World) (Q : Ending → World → Prop) (h : vc_disk_Disk_Switch_c1 p1 c2 c3 w Q) : Calls PP F_disk_Disk_Switch_c1 #[(.pointer p1), (.pointer (some c2)), (.pointer (some c3))] w Q := by
 unfold vc_disk_Disk_Switch_c1 at h
 refine enter (n := 8) Tryz.func107 rfl rfl (Nat.le_of_ble_eq_true rfl) fun a H => c_reg ?_
 obtain ⟨l4, hc5, h⟩ := h
 refine s_load (v := (.pointer l4)) H rfl rfl one_33 hc5 (lt_ rfl) fun a H => ?_
 obtain ⟨l6, hc7, h⟩ := h
 refine s_load (v := (.i l6)) H rfl rfl one_3 hc7 (lt_ rfl) fun a H => ?_
 obtain ⟨a8, h12, h⟩ := h
 revert H
 subst h12
 intro H
 refine s_nil H rfl rfl (lt_ rfl) fun a H => s_fld H rfl rfl fld_81_1 (lt_ rfl) fun a H => ?_
 obtain ⟨h10, h11, h⟩ := h
 refine s_sto (p := a8.add 6) (v := (.i l6)) H rfl rfl rfl rfl one_3 rfl h10 h11 ?_
 clear H
 intro H
 generalize hww9 : World.setCell w (a8.add 6) (.i l6) = w9 at h ⊢
 have w9S : SetAt w (a8.add 6) (.i l6) w9 := ⟨hww9.symm⟩
 clear hww9 h10 h11
 refine c_nil ?_
 exact e_ret0 H rfl h

theorem sim_tag_Zero (C1 C2 : Int) (w : World) (Q : Ending → World → Prop) (h : vc_tag_Zero C1 C2 w Q) : Calls PP F_tag_Zero #[(.agg #[(.i C1), (.i C2)])] w Q := by
 unfold vc_tag_Zero at h
 refine enter (n := 6) Tryz.func108 rfl rfl (Nat.le_of_ble_eq_true rfl) fun a H => c_seq fun K3 hK3 => c_reg ?_
 replace h := h.get
 obtain ⟨b4, w5, n6, h⟩ := h
 refine s_box H rfl rfl (lt_ rfl) ?_
 rw [← n6.at_]
 clear H a
 intro a H
 refine n6.go <| s_assign H rfl rfl (lt_ rfl) fun a H => c_nil <| hK3 _ _ <| c_seq fun K7 hK7 => c_reg <| s_loadN (l := [(.i C1), (.i C2)]) H rfl rfl agg_88 rfl ⟨(n6.cell (i := 0) rfl), (n6.cell (i := 1) rfl), trivial⟩ (lt_ rfl) fun a H => s_build H rfl (by rw [H.parts (vs := []) rfl]; exact bd_88 w5) (lt_ rfl) fun a H => s_bin H rfl rfl rfl (r_eqst eqg_88 (eqst_88 0) rfl) (lt_ rfl) fun a H => s_assign H rfl rfl (lt_ rfl) fun a H => c_nil <| hK7 _ _ <| c_ret ?_
 exact e_ret1 H rfl rfl h

theorem sim_tag_Valid (C1 C2 : Int) (w : World) (Q : Ending → World → Prop) (h : vc_tag_Valid C1 C2 w Q) : Calls PP F_tag_Valid #[(.agg #[(.i C1), (.i C2)])] w Q := by
 unfold vc_tag_Valid at h
 refine enter (n := 9) Tryz.func109 rfl rfl (Nat.le_of_ble_eq_true rfl) fun a H => c_seq fun K3 hK3 => c_reg ?_
 replace h := h.get
 obtain ⟨b4, w5, n6, h⟩ := h
 refine s_box H rfl rfl (lt_ rfl) ?_
 rw [← n6.at_]
 clear H a
 intro a H
 refine n6.go <| s_assign H rfl rfl (lt_ rfl) fun a H => c_nil <| hK3 _ _ <| c_seq fun K7 hK7 => c_reg <| s_loadN (l := [(.i C1), (.i C2)]) H rfl rfl agg_88 rfl ⟨(n6.cell (i := 0) rfl), (n6.cell (i := 1) rfl), trivial⟩ (lt_ rfl) fun a H => s_call H rfl body_108 (H.args (vs := [(.agg #[(.i C1), (.i C2)])]) rfl) (lt_ rfl) h ?_ (fun c w' h H => e_panic (P := PP) (fn := Tryz.f109) H h)
 clear H h a
 rintro _ w8 a ⟨Z9, rfl, h⟩ H
 refine s_move H rfl rfl (lt_ rfl) fun a H => ?_
 obtain ⟨R12, h, h25⟩ := h
 refine g_joinW (n := 9) R12 (fun x13 => [(8, (.bool x13))]) (.succ (.succ (.succ (.zero _)))) ?_ ?_
 ·intro h11
  clear h25
  rcases Bool.eq_false_or_eq_true Z9 with h10 | h10
  ·replace H := H.ch (t := 5) (b := true) rfl h10
   replace h := h.2 h10
   refine s_skip H (wantN H rfl rfl rfl) rfl (lt_ rfl) fun a H => s_skip H (wantN H rfl rfl rfl) rfl (lt_ rfl) fun a H => s_pickT H rfl rfl rfl (lt_ rfl) fun a H => ?_
   exact h11 _ _ _ h (H.weaken ⟨rfl, trivial⟩)
  ·replace H := H.ch (t := 5) (b := false) rfl h10
   replace h := h.1 h10
   obtain ⟨C15, hc16, C17, hc18, h⟩ := h
   refine s_loadN (l := [(.i C15), (.i C17)]) H (wantG H rfl rfl) rfl agg_88 rfl ⟨hc16, hc18, trivial⟩ (lt_ rfl) fun a H => s_call H (wantG H rfl rfl) body_149 (H.args (vs := [(.agg #[(.i C15), (.i C17)])]) rfl) (lt_ rfl) h ?_ (fun c w' h H => e_panic (P := PP) (fn := Tryz.f109) H h)
   clear H h a
   rintro _ w19 a ⟨p20, rfl, h⟩ H
   refine s_pickF H rfl rfl rfl (lt_ rfl) fun a H => ?_
   exact h11 _ _ _ h (H.weaken ⟨rfl, trivial⟩)
 ·clear H a h
  intro a x13 w14 h H
  replace h := h25 x13 w14 h
  clear h25
  refine s_assign H rfl rfl (lt_ rfl) fun a H => c_nil <| hK7 _ _ <| c_ret ?_
  exact e_ret1 H rfl rfl h

theorem sim_pack_Writer_put (w1 : Option Addr) (b2 : Slc) (w : World) (Q : Ending → World → Prop) (h : vc_pack_Writer_put w1 b2 w Q) : Calls PP F_pack_Writer_put #[(.pointer w1), b2.v] w Q := by
 unfold vc_pack_Writer_put at h
 refine enter (n := 23) Tryz.func110 rfl rfl (Nat.le_of_ble_eq_true rfl) fun a H => c_seq fun K3 hK3 => c_reg <| s_move H rfl rfl (lt_ rfl) fun a H => s_bin H rfl rfl rfl (r_neP0 ptr_132) (lt_ rfl) fun a H => s_move H rfl rfl (lt_ rfl) fun a H => ?_
 obtain ⟨x10, h11, h12, h⟩ := h
 refine g_join (n := 23) [(13, (.bool x10)), (0, (.pointer w1)), (1, b2.v)] (.succ (.succ (.succ (.succ (.succ (.succ (.succ (.zero _)))))))) ?_ ?_
 ·intro h5
  try clear h
  rcases Bool.eq_false_or_eq_true w1.isSome with h4 | h4
  ·replace H := H.ch (t := 6) (b := true) rfl h4
   replace h := h11 h4
   refine s_move H (wantG H rfl rfl) rfl (lt_ rfl) fun a H => ?_
   obtain ⟨a6, h9, h⟩ := h
   revert H
   subst h9
   intro H
   refine s_nil H (wantG H rfl rfl) rfl (lt_ rfl) fun a H => s_fld H (wantG H rfl rfl) rfl fld_180_0 (lt_ rfl) fun a H => s_fld H (wantG H rfl rfl) rfl fld_178_0 (lt_ rfl) fun a H => ?_
   obtain ⟨l7, hc8, h⟩ := h
   refine s_load (v := (.i l7)) H (wantG H rfl rfl) rfl one_40 hc8 (lt_ rfl) fun a H => s_bin H (wantG H rfl rfl) rfl rfl r_eql (lt_ rfl) fun a H => s_pickT H rfl rfl rfl (lt_ rfl) fun a H => ?_
   subst h
   exact h5 _ (H.weaken ⟨rfl, rfl, rfl, trivial⟩)
  ·replace H := H.ch (t := 6) (b := false) rfl h4
   iterate 6 refine s_skip H (wantN H rfl rfl rfl) rfl (lt_ rfl) fun a H => ?_
   refine s_pickF H rfl rfl rfl (lt_ rfl) fun a H => ?_
   replace h := h12 h4
   subst h
   exact h5 _ (H.weaken ⟨rfl, rfl, rfl, trivial⟩)
 ·clear H a
  clear h11 h12
  intro a H
  refine c_nil <| hK3 _ _ <| c_cond H rfl (fun h13 => ?_) (fun h13 => ?_)
  ·replace h := h.1 h13
   refine c_reg <| s_move H rfl rfl (lt_ rfl) fun a H => s_move H rfl rfl (lt_ rfl) fun a H => ?_
   obtain ⟨a14, h23, h⟩ := h
   revert H
   subst h23
   intro H
   refine s_nil H rfl rfl (lt_ rfl) fun a H => s_fld H rfl rfl fld_180_1 (lt_ rfl) fun a H => ?_
   obtain ⟨l15, hc16, h⟩ := h
   refine s_load (v := l15.v) H rfl rfl one_51 hc16 (lt_ rfl) fun a H => s_move H rfl rfl (lt_ rfl) fun a H => ?_
   obtain ⟨s17, w18, h19, h⟩ := h
   refine s_blt H rfl (H.args (vs := [l15.v, b2.v]) rfl) (lt_ rfl) (fun cs => b_app (z := s17) h19) ?_
   clear H a h19
   intro a H
   refine s_nil H rfl rfl (lt_ rfl) fun a H => s_fld H rfl rfl fld_180_1 (lt_ rfl) fun a H => ?_
   obtain ⟨h21, h22, h⟩ := h
   refine s_sto (p := a14.add 1) (v := s17.v) H rfl rfl rfl rfl one_51 rfl h21 h22 ?_
   clear H
   intro H
   generalize hww20 : World.setCell w18 (a14.add 1) s17.v = w20 at h ⊢
   have w20S : SetAt w18 (a14.add 1) s17.v w20 := ⟨hww20.symm⟩
   clear hww20 h21 h22
   refine c_nil ?_
   exact e_ret0 H rfl h
  ·replace h := h.2 h13
   refine c_skip ?_
   exact e_ret0 H rfl h

theorem sim_pack_Writer_Uint (w1 : Option Addr) (n2 : Int) (w : World) (Q : Ending → World → Prop) (h : vc_pack_Writer_Uint w1 n2 w Q) : Calls PP F_pack_Writer_Uint #[(.pointer w1), (.i n2)] w Q := by
 unfold vc_pack_Writer_Uint at h
 refine enter (n := 16) Tryz.func111 rfl rfl (Nat.le_of_ble_eq_true rfl) fun a H => c_seq fun K3 hK3 => c_seq fun K4 hK4 => c_reg <| s_move H rfl rfl (lt_ rfl) fun a H => s_bin H rfl rfl rfl r_lss (lt_ rfl) fun a H => c_nil <| hK4 _ _ <| c_cond H rfl (fun h5 => ?_) (fun h5 => ?_)
 ·replace h := h.1 h5
  refine c_seq fun K6 hK6 => ?_
  obtain ⟨R7, h, h19⟩ := h
  have h9 : ∀ (a : Act) (w8 : World), R7 w8 → Has 16 [] a [] → K6 a w8 := by
   clear h
   intro a w8 h H
   replace h := h19 w8 h
   refine hK6 _ _ <| c_ret ?_
   exact e_ret0 H rfl h
  clear h19
  refine c_seq fun K10 hK10 => c_reg <| s_move H rfl rfl (lt_ rfl) fun a H => s_bin H rfl rfl rfl (r_neP0 ptr_132) (lt_ rfl) fun a H => c_nil <| hK10 _ _ <| c_cond H rfl (fun h11 => ?_) (fun h11 => ?_)
  ·replace h := h.1 h11
   refine c_reg <| s_move H rfl rfl (lt_ rfl) fun a H => ?_
   obtain ⟨a12, h18, h⟩ := h
   revert H
   subst h18
   intro H
   refine s_nil H rfl rfl (lt_ rfl) fun a H => s_fld H rfl rfl fld_180_0 (lt_ rfl) fun a H => s_call H rfl body_150 (H.args (vs := [(.pointer (some (a12.add 0))), (.i 33)]) rfl) (lt_ rfl) h ?_ (fun c w' h H => e_panic (P := PP) (fn := Tryz.f111) H h)
   clear H h a
   rintro _ w13 a ⟨rfl, h⟩ H
   refine c_nil ?_
   exact h9 _ _ h (H.weaken trivial)
  ·replace h := h.2 h11
   refine c_skip ?_
   exact h9 _ _ h (H.weaken trivial)
 ·replace h := h.2 h5
  refine c_skip <| hK3 _ _ <| c_reg <| s_move H rfl rfl (lt_ rfl) fun a H => s_move H rfl rfl (lt_ rfl) fun a H => s_call H rfl body_151 (H.args (vs := [(.i n2)]) rfl) (lt_ rfl) h ?_ (fun c w' h H => e_panic (P := PP) (fn := Tryz.f111) H h)
  clear H h a
  rintro _ w20 a ⟨f21, rfl, h⟩ H
  refine s_call H rfl body_110 (H.args (vs := [(.pointer w1), f21.v]) rfl) (lt_ rfl) h ?_ (fun c w' h H => e_panic (P := PP) (fn := Tryz.f111) H h)
  clear H h a
  rintro _ w22 a ⟨rfl, h⟩ H
  refine c_nil ?_
  exact e_ret0 H rfl h

theorem sim_pack_Writer_Text (w1 : Option Addr) (s2 : ByteArray) (w : World) (Q : Ending → World → Prop) (h : vc_pack_Writer_Text w1 s2 w Q) : Calls PP F_pack_Writer_Text #[(.pointer w1), (.string s2)] w Q := by
 unfold vc_pack_Writer_Text at h
 refine enter (n := 8) Tryz.func112 rfl rfl (Nat.le_of_ble_eq_true rfl) fun a H => c_reg <| s_move H rfl rfl (lt_ rfl) fun a H => s_move H rfl rfl (lt_ rfl) fun a H => ?_
 obtain ⟨s3, w5, h4, h⟩ := h
 refine s_cv H rfl rfl h4 (lt_ rfl) ?_
 clear H a h4
 intro a H
 refine s_call H rfl body_70 (H.args (vs := [(.pointer w1), s3.v]) rfl) (lt_ rfl) h ?_ (fun c w' h H => e_panic (P := PP) (fn := Tryz.f112) H h)
 clear H h a
 rintro _ w6 a ⟨rfl, h⟩ H
 refine c_nil ?_
 exact e_ret0 H rfl h

theorem sim_pack_Writer_Bool (w1 : Option Addr) (b2 : Bool) (w : World) (Q : Ending → World → Prop) (h : vc_pack_Writer_Bool w1 b2 w Q) : Calls PP F_pack_Writer_Bool #[(.pointer w1), (.bool b2)] w Q := by
 unfold vc_pack_Writer_Bool at h
 refine enter (n := 11) Tryz.func113 rfl rfl (Nat.le_of_ble_eq_true rfl) fun a H => c_seq fun K3 hK3 => c_reg <| s_move H rfl rfl (lt_ rfl) fun a H => c_nil <| hK3 _ _ <| c_cond H rfl (fun h4 => ?_) (fun h4 => ?_)
 ·replace h := h.1 h4
  refine c_reg <| s_move H rfl rfl (lt_ rfl) fun a H => ?_
  replace h := h.get
  obtain ⟨b5, w6, n7, h⟩ := h
  refine s_bslc H rfl (by rw [H.parts (vs := [(0, (.int .u8 1))]) rfl]; exact bs_51_1_iu80 w 1) (lt_ rfl) ?_
  rw [← n7.at_]
  clear H a
  intro a H
  refine n7.go <| s_call H rfl body_110 (H.args (vs := [(.pointer w1), (Slc.v (Slc.mk (some (blk b5)) 1 1))]) rfl) (lt_ rfl) h ?_ (fun c w' h H => e_panic (P := PP) (fn := Tryz.f113) H h)
  clear H h a
  rintro _ w8 a ⟨rfl, h⟩ H
  refine c_nil ?_
  exact e_ret0 H rfl h
 ·replace h := h.2 h4
  refine c_reg <| s_move H rfl rfl (lt_ rfl) fun a H => ?_
  replace h := h.get
  obtain ⟨b13, w14, n15, h⟩ := h
  refine s_bslc H rfl (by rw [H.parts (vs := [(0, (.int .u8 0))]) rfl]; exact bs_51_1_iu80 w 0) (lt_ rfl) ?_
  rw [← n15.at_]
  clear H a
  intro a H
  refine n15.go <| s_call H rfl body_110 (H.args (vs := [(.pointer w1), (Slc.v (Slc.mk (some (blk b13)) 1 1))]) rfl) (lt_ rfl) h ?_ (fun c w' h H => e_panic (P := PP) (fn := Tryz.f113) H h)
  clear H h a
  rintro _ w16 a ⟨rfl, h⟩ H
  refine c_nil ?_
  exact e_ret0 H rfl h

theorem sim_sum_step (x1 b2 : Int) (w : World) (Q : Ending → World → Prop) (h : vc_sum_step x1 b2 w Q) : Calls PP F_sum_step #[(.int .u32 x1), (.int .u8 b2)] w Q := by
 unfold vc_sum_step at h
 refine enter (n := 23) Tryz.func114 rfl rfl (Nat.le_of_ble_eq_true rfl) fun a H => c_seq fun K3 hK3 => c_reg <| s_assign H rfl rfl (lt_ rfl) fun a H => c_nil <| hK3 _ _ <| c_seq fun K4 hK4 => c_reg <| s_move H rfl rfl (lt_ rfl) fun a H => s_move H rfl rfl (lt_ rfl) fun a H => s_cv H rfl rfl (r_cvI some_5 int_139) (lt_ rfl) fun a H => s_bin H rfl rfl rfl r_xor (lt_ rfl) fun a H => s_assign H rfl rfl (lt_ rfl) fun a H => c_nil <| hK4 _ _ <| c_seq fun K5 hK5 => c_reg ?_
 refine s_move H rfl rfl (lt_ rfl) fun a H => s_bin H rfl rfl rfl r_and (lt_ rfl) fun a H => ?_
 obtain ⟨h6, h7, h⟩ := h
 refine s_idxA H rfl rfl rfl arr_225 h6 h7 (lt_ rfl) fun a H => ?_
 obtain ⟨l8, hc9, h⟩ := h
 refine s_load (v := (.int .u32 l8)) H rfl rfl one_139 hc9 (lt_ rfl) fun a H => s_move H rfl rfl (lt_ rfl) fun a H => s_bin H rfl rfl rfl (r_shr (by decide)) (lt_ rfl) fun a H => s_bin H rfl rfl rfl r_xor (lt_ rfl) fun a H => s_assign H rfl rfl (lt_ rfl) fun a H => c_nil <| hK5 _ _ <| c_seq fun K10 hK10 => c_reg <| s_move H rfl rfl (lt_ rfl) fun a H => s_bin H rfl rfl rfl r_and (lt_ rfl) fun a H => ?_
 obtain ⟨h11, h12, h⟩ := h
 refine s_idxA H rfl rfl rfl arr_225 h11 h12 (lt_ rfl) fun a H => ?_
 obtain ⟨l13, hc14, h⟩ := h
 refine s_load (v := (.int .u32 l13)) H rfl rfl one_139 hc14 (lt_ rfl) fun a H => s_move H rfl rfl (lt_ rfl) fun a H => s_bin H rfl rfl rfl (r_shr (by decide)) (lt_ rfl) fun a H => s_bin H rfl rfl rfl r_xor (lt_ rfl) fun a H => s_assign H rfl rfl (lt_ rfl) fun a H => c_nil <| hK10 _ _ <| c_ret ?_
 exact e_ret1 H rfl rfl h

theorem sim_slices_Grow (s1 : Slc) (n2 : Int) (w : World) (Q : Ending → World → Prop) (h : vc_slices_Grow s1 n2 w Q) : Calls PP F_slices_Grow #[s1.v, (.i n2)] w Q := by
 unfold vc_slices_Grow at h
 refine enter (n := 27) Tryz.func115 rfl rfl (Nat.le_of_ble_eq_true rfl) fun a H => c_seq fun K3 hK3 => c_reg <| s_assign H rfl rfl (lt_ rfl) fun a H => c_nil <| hK3 _ _ <| c_seq fun K4 hK4 => ?_
 obtain ⟨R5, h, h29⟩ := h
 have h26 : ∀ (a : Act) (w6 : World), R5 w6 → Has 27 [] a [(0, s1.v), (1, (.i n2))] → K4 a w6 := by
  clear h
  intro a w6 h H
  replace h := h29 w6 h
  refine hK4 _ _ <| c_seq fun K7 hK7 => ?_
  obtain ⟨R9, h, h25⟩ := h
  have h12 : ∀ (a : Act) (s8 : Slc) (w10 : World), R9 s8 w10 → Has 27 [] a [(0, s8.v)] → K7 a w10 := by
   clear h
   intro a s8 w10 h H
   replace h := h25 s8 w10 h
   refine hK7 _ _ <| c_seq fun K11 hK11 => c_reg <| s_move H rfl rfl (lt_ rfl) fun a H => s_assign H rfl rfl (lt_ rfl) fun a H => c_nil <| hK11 _ _ <| c_ret ?_
   exact e_ret1 H rfl rfl h
  clear h25
  refine c_seq fun K13 hK13 => c_reg <| s_move H rfl rfl (lt_ rfl) fun a H => s_move H rfl rfl (lt_ rfl) fun a H => s_blt H rfl (H.args (vs := [s1.v]) rfl) (lt_ rfl) (fun cs => b_capS (z := s1) sl_51) fun a H => s_move H rfl rfl (lt_ rfl) fun a H => s_blt H rfl (H.args (vs := [s1.v]) rfl) (lt_ rfl) (fun cs => b_lenS (z := s1) sl_51) fun a H => s_bin H rfl rfl rfl r_sub (lt_ rfl) fun a H => s_bin H rfl rfl rfl r_sub (lt_ rfl) fun a H => s_assign H rfl rfl (lt_ rfl) fun a H => c_nil ?_
  refine hK13 _ _ <| c_seq fun K14 hK14 => c_reg <| s_move H rfl rfl (lt_ rfl) fun a H => s_bin H rfl rfl rfl r_gtr (lt_ rfl) fun a H => c_nil <| hK14 _ _ <| c_cond H rfl (fun h15 => ?_) (fun h15 => ?_)
  ·replace h := h.1 h15
   refine c_reg <| s_move H rfl rfl (lt_ rfl) fun a H => s_move H rfl rfl (lt_ rfl) fun a H => s_blt H rfl (H.args (vs := [s1.v]) rfl) (lt_ rfl) (fun cs => b_capS (z := s1) sl_51) fun a H => ?_
   obtain ⟨h16, h17, h18, h⟩ := h
   refine s_slice (v := (Slc.v (s1.cut 1 (Int.toNat (0)) (Int.toNat ((s1.c : Int)))))) H rfl rfl ⟨rfl, rfl⟩ ⟨rfl, rfl⟩ ⟨rfl, rfl⟩ (r_sliceSlc (lo := none) (hi := (some (.i64, (s1.c : Int)))) slc_51 rfl rfl h16 h17 h18) (lt_ rfl) fun a H => s_move H rfl rfl (lt_ rfl) fun a H => ?_
   obtain ⟨s19, w20, h21, h⟩ := h
   refine s_blt H rfl (H.args (vs := [(Slc.v (s1.cut 1 (Int.toNat (0)) (Int.toNat ((s1.c : Int))))), (.i (wr .i64 (n2 - (wr .i64 ((s1.c : Int) - (s1.l : Int))))))]) rfl) (lt_ rfl) (fun cs => b_app (z := s19) h21) ?_
   clear H a h21
   intro a H
   refine s_move H rfl rfl (lt_ rfl) fun a H => s_blt H rfl (H.args (vs := [s1.v]) rfl) (lt_ rfl) (fun cs => b_lenS (z := s1) sl_51) fun a H => ?_
   obtain ⟨h22, h23, h24, h⟩ := h
   refine s_slice (v := (Slc.v (s19.cut 1 (Int.toNat (0)) (Int.toNat ((s1.l : Int)))))) H rfl rfl ⟨rfl, rfl⟩ ⟨rfl, rfl⟩ ⟨rfl, rfl⟩ (r_sliceSlc (lo := none) (hi := (some (.i64, (s1.l : Int)))) slc_51 rfl rfl h22 h23 h24) (lt_ rfl) fun a H => s_assign H rfl rfl (lt_ rfl) fun a H => c_nil ?_
   exact h12 _ _ _ h (H.weaken ⟨rfl, trivial⟩)
  ·replace h := h.2 h15
   refine c_skip ?_
   exact h12 _ _ _ h (H.weaken ⟨rfl, trivial⟩)
 clear h29
 refine c_seq fun K27 hK27 => c_reg <| s_move H rfl rfl (lt_ rfl) fun a H => s_bin H rfl rfl rfl r_lss (lt_ rfl) fun a H => c_nil <| hK27 _ _ <| c_cond H rfl (fun h28 => ?_) (fun h28 => ?_)
 ·replace h := h.1 h28
  refine c_reg <| s_iface H rfl rfl ni_9 (lt_ rfl) fun a H => ?_
  exact s_panic H rfl rfl (fun H => e_panic (P := PP) (fn := Tryz.f115) H h)
 ·replace h := h.2 h28
  refine c_skip ?_
  exact h26 _ _ h (H.weaken ⟨rfl, rfl, trivial⟩)

theorem sim_disk_appending_c1 (s1 : Option Addr) (c2 : Addr) (w : World) (Q : Ending → World → Prop) (h : vc_disk_appending_c1 s1 c2 w Q) : Calls PP F_disk_appending_c1 #[(.pointer s1), (.pointer (some c2))] w Q := by
 unfold vc_disk_appending_c1 at h
 refine enter (n := 12) Tryz.func116 rfl rfl (Nat.le_of_ble_eq_true rfl) fun a H => c_seq fun K3 hK3 => c_reg ?_
 obtain ⟨l4, hc5, h⟩ := h
 refine s_load (v := l4.v) H rfl rfl one_51 hc5 (lt_ rfl) fun a H => s_blt H rfl (H.args (vs := [l4.v]) rfl) (lt_ rfl) (fun cs => b_lenS (z := l4) sl_51) fun a H => s_bin H rfl rfl rfl r_gtr (lt_ rfl) fun a H => c_nil <| hK3 _ _ <| c_cond H rfl (fun h6 => ?_) (fun h6 => ?_)
 ·replace h := h.1 h6
  refine c_reg <| s_move H rfl rfl (lt_ rfl) fun a H => ?_
  obtain ⟨l7, hc8, h⟩ := h
  refine s_load (v := l7.v) H rfl rfl one_51 hc8 (lt_ rfl) fun a H => s_blt H rfl (H.args (vs := [l7.v]) rfl) (lt_ rfl) (fun cs => b_lenS (z := l7) sl_51) fun a H => s_mkf H rfl (H.args (vs := [(.pointer (some c2))]) rfl) (lt_ rfl) fun a H => ?_
  refine s_build H rfl (by rw [H.parts (vs := [(1, (.i (l7.l : Int))), (0, (.func (.func F_disk_appending_c1_c1) #[] #[(.pointer (some c2))]))]) rfl]; exact bd_112_ii641_v0_funcfuncF_disk_appending_c1_c1 w (l7.l : Int) (#[(.pointer (some c2))])) (lt_ rfl) fun a H => ?_
  refine s_call H rfl body_117 (H.args (vs := [(.pointer s1), (.agg #[(.func (.func F_disk_appending_c1_c1) #[] #[(.pointer (some c2))]), (.i (l7.l : Int))])]) rfl) (lt_ rfl) h ?_ (fun c w' h H => e_panic (P := PP) (fn := Tryz.f116) H h)
  clear H h a
  rintro _ w9 a ⟨rfl, h⟩ H
  refine c_nil ?_
  exact e_ret0 H rfl h
 ·replace h := h.2 h6
  refine c_skip ?_
  exact e_ret0 H rfl h

theorem sim_disk_slot_do (s1 : Option Addr) (a2 : Value) (s3 : Int) (w : World) (Q : Ending → World → Prop) (h : vc_disk_slot_do s1 a2 s3 w Q) : Calls PP F_disk_slot_do #[(.pointer s1), (.agg #[a2, (.i s3)])] w Q := by
 unfold vc_disk_slot_do at h
 refine enter (n := 26) Tryz.func117 rfl rfl (Nat.le_of_ble_eq_true rfl) fun a H => c_seq fun K4 hK4 => c_reg ?_
 replace h := h.get
 obtain ⟨b5, w6, n7, h⟩ := h
 refine s_box H rfl rfl (lt_ rfl) ?_
 rw [← n7.at_]
 clear H a
 intro a H
 refine n7.go <| c_nil <| hK4 _ _ <| c_seq fun K8 hK8 => ?_
 replace H := H.weaken (L' := [(0, (.pointer s1)), (3, (.pointer (some (blk b5))))]) ⟨rfl, rfl, trivial⟩
 obtain ⟨l9, hc10, a11, h12, h⟩ := h
 revert H
 subst h12
 intro H
 obtain ⟨l13, hc14, l15, hc16, h⟩ := h
 refine c_any (V := [(0, (.pointer (some a11))), (1, (.pointer (some ((blk b5).add 0)))), (2, l9), (3, (.pointer (some a11))), (4, (.pointer (some a11))), (5, (.pointer (some (a11.add 1)))), (6, l13.v), (7, (.pointer (some ((blk b5).add 1)))), (8, (.i l15))]) (⟨[[], [], [1], [], [3], [4], [5], [], [7], [2, 6, 8], [0, 1, 2, 3, 4, 5, 6, 7, 8, 9], [0, 1, 2, 3, 4, 5, 6, 7, 8, 9, 10], [0, 1, 2, 3, 4, 5, 6, 7, 8, 9, 11]], [some 4, some 5, some 6, some 7, some 8, some 9, some 10, some 11, some 12, some 13, some 14, some 15, none], [9, 12], [0, 0, 0, 0, 0, 0, 0, 0, 0, 0, 1, 1, 1], [1, 0, 0, 0, 0, 0, 0, 0, 0, 1, 1, 1, 2]⟩ : Rg) [(0, (.pointer (some a11))), (3, (.pointer (some (blk b5))))] mixed (by kernel_rfl) H ?_
 refine Stg.eff [0, 1, 2, 3, 4, 5, 6, 7, 8] (by kernel_rfl) rfl (.cons ?_ (.cons ?_ (.cons ?_ (.cons ?_ (.cons ?_ (.cons ?_ (.cons ?_ (.cons ?_ (.cons ?_ .nil))))))))) ?_
 ·refine Ans.mk rfl rfl fun a H => s_move H rfl rfl (lt_ rfl) fun a H => ?_
  exact Ans.fin H rfl
 ·refine Ans.mk rfl rfl fun a H => s_fld H rfl rfl fld_112_0 (lt_ rfl) fun a H => ?_
  exact Ans.fin H rfl
 ·refine Ans.mk rfl rfl fun a H => s_load (v := l9) H rfl rfl one_110 hc10 (lt_ rfl) fun a H => ?_
  exact Ans.fin H rfl
 ·refine Ans.mk rfl rfl fun a H => s_move H rfl rfl (lt_ rfl) fun a H => ?_
  exact Ans.fin H rfl
 ·refine Ans.mk rfl rfl fun a H => s_nil H rfl rfl (lt_ rfl) fun a H => ?_
  exact Ans.fin H rfl
 ·refine Ans.mk rfl rfl fun a H => s_fld H rfl rfl fld_78_1 (lt_ rfl) fun a H => ?_
  exact Ans.fin H rfl
 ·refine Ans.mk rfl rfl fun a H => s_load (v := l13.v) H rfl rfl one_51 hc14 (lt_ rfl) fun a H => ?_
  exact Ans.fin H rfl
 ·refine Ans.mk rfl rfl fun a H => s_fld H rfl rfl fld_112_1 (lt_ rfl) fun a H => ?_
  exact Ans.fin H rfl
 ·refine Ans.mk rfl rfl fun a H => s_load (v := (.i l15)) H rfl rfl one_3 hc16 (lt_ rfl) fun a H => ?_
  exact Ans.fin H rfl
 ·intro a H
  replace H := H.weaken (L' := [(6, l9), (10, l13.v), (12, (.i l15))]) ⟨rfl, rfl, rfl, trivial⟩
  refine s_callV H rfl rfl (H.args (vs := [l13.v, (.i l15)]) rfl) (lt_ rfl) h ?_ (fun c w' h H => e_panic (P := PP) (fn := Tryz.f117) H h)
  clear H h a
  rintro _ w17 a ⟨r18, rfl, h⟩ H
  refine c_nil <| effQ.go [(10, (.pointer (some a11))), (11, (.pointer (some (a11.add 1))))] H rfl rfl <| Stg.eff [0, 10, 11] (by kernel_rfl) rfl (.cons ?_ (.cons ?_ (.cons ?_ .nil))) ?_
  ·refine Ans.mk rfl rfl fun a H => s_move H rfl rfl (lt_ rfl) fun a H => ?_
   exact Ans.fin H rfl
  ·refine Ans.mk rfl rfl fun a H => s_nil H rfl rfl (lt_ rfl) fun a H => ?_
   exact Ans.fin H rfl
  ·refine Ans.mk rfl rfl fun a H => s_fld H rfl rfl fld_78_1 (lt_ rfl) fun a H => ?_
   exact Ans.fin H rfl
  ·intro a H
   replace H := H.weaken (L' := [(13, r18.v), (15, (.pointer (some (a11.add 1))))]) ⟨rfl, rfl, trivial⟩
   obtain ⟨h20, h21, h⟩ := h
   refine s_sto (p := a11.add 1) (v := r18.v) H rfl rfl rfl rfl one_51 rfl h20 h21 ?_
   clear H
   intro H
   generalize hww19 : World.setCell w17 (a11.add 1) r18.v = w19 at h ⊢
   have w19S : SetAt w17 (a11.add 1) r18.v w19 := ⟨hww19.symm⟩
   clear hww19 h20 h21
   refine c_nil <| effQ.go0 [] H rfl rfl <| Stg.fin [] (by kernel_rfl) .nil ?_
   ·intro a H
    replace H := H.weaken (L' := [(0, (.pointer (some a11))), (3, (.pointer (some (blk b5))))]) ⟨rfl, rfl, trivial⟩
    refine hK8 _ _ ?_
    replace H := H.weaken (L' := [(0, (.pointer (some a11))), (3, (.pointer (some (blk b5))))]) ⟨rfl, rfl, trivial⟩
    obtain ⟨l22, hc23, a24, hc25, s26, hc27, h⟩ := h
    refine c_any (V := [(0, (.pointer (some a11))), (1, (.pointer (some a11))), (2, (.pointer (some a11))), (3, (.pointer (some (a11.add 2)))), (4, l22.v), (5, (.agg #[a24, (.i s26)]))]) (⟨[[], [], [1], [2], [3], [], [5], [4, 6], [0, 1, 2, 3, 4, 5, 6, 7], [0, 1, 2, 3, 4, 5, 6, 7, 8], [0, 1, 2, 3, 4, 5, 6, 7, 9]], [some 16, some 17, some 18, some 19, some 20, some 21, some 22, some 23, some 24, some 25, none], [6, 7, 10], [0, 0, 0, 0, 0, 0, 0, 1, 2, 2, 2], [2, 1, 1, 1, 1, 0, 1, 2, 2, 2, 3]⟩ : Rg) [(0, (.pointer (some a11))), (3, (.pointer (some (blk b5))))] mixed (by kernel_rfl) H ?_
    refine Stg.eff [0, 1, 2, 3, 4, 5] (by kernel_rfl) rfl (.cons ?_ (.cons ?_ (.cons ?_ (.cons ?_ (.cons ?_ (.cons ?_ .nil)))))) ?_
    ·refine Ans.mk rfl rfl fun a H => s_move H rfl rfl (lt_ rfl) fun a H => ?_
     exact Ans.fin H rfl
    ·refine Ans.mk rfl rfl fun a H => s_move H rfl rfl (lt_ rfl) fun a H => ?_
     exact Ans.fin H rfl
    ·refine Ans.mk rfl rfl fun a H => s_nil H rfl rfl (lt_ rfl) fun a H => ?_
     exact Ans.fin H rfl
    ·refine Ans.mk rfl rfl fun a H => s_fld H rfl rfl fld_78_2 (lt_ rfl) fun a H => ?_
     exact Ans.fin H rfl
    ·refine Ans.mk rfl rfl fun a H => s_load (v := l22.v) H rfl rfl one_76 hc23 (lt_ rfl) fun a H => ?_
     exact Ans.fin H rfl
    ·refine Ans.mk rfl rfl fun a H => s_loadN (l := [a24, (.i s26)]) H rfl rfl agg_112 rfl ⟨hc25, hc27, trivial⟩ (lt_ rfl) fun a H => ?_
     exact Ans.fin H rfl
    ·intro a H
     replace H := H.weaken (L' := [(21, (.agg #[a24, (.i s26)]))]) ⟨rfl, trivial⟩
     replace h := h.get
     obtain ⟨b28, w29, n30, h⟩ := h
     refine s_bslc H rfl (by rw [H.parts (vs := [(0, (.agg #[a24, (.i s26)]))]) rfl]; exact bs_76_1_vii640 (w19.drewN 1) a24 s26) (lt_ rfl) ?_
     rw [← n30.at_]
     clear H a
     intro a H
     refine n30.go <| c_nil ?_
     obtain ⟨hc31, h⟩ := h
     refine effQ.go [] H rfl rfl <| Stg.eff [0, 1, 2, 3, 4] (by kernel_rfl) rfl (.cons ?_ (.cons ?_ (.cons ?_ (.cons ?_ (.cons ?_ .nil))))) ?_
     ·refine Ans.mk rfl rfl fun a H => s_move H rfl rfl (lt_ rfl) fun a H => ?_
      exact Ans.fin H rfl
     ·refine Ans.mk rfl rfl fun a H => s_move H rfl rfl (lt_ rfl) fun a H => ?_
      exact Ans.fin H rfl
     ·refine Ans.mk rfl rfl fun a H => s_nil H rfl rfl (lt_ rfl) fun a H => ?_
      exact Ans.fin H rfl
     ·refine Ans.mk rfl rfl fun a H => s_fld H rfl rfl fld_78_2 (lt_ rfl) fun a H => ?_
      exact Ans.fin H rfl
     ·refine Ans.mk rfl rfl fun a H => s_load (v := l22.v) H rfl rfl one_76 hc31 (lt_ rfl) fun a H => ?_
      exact Ans.fin H rfl
     ·intro a H
      replace H := H.weaken (L' := [(20, l22.v), (22, (Slc.v (Slc.mk (some (blk b28)) 1 1)))]) ⟨rfl, rfl, trivial⟩
      obtain ⟨s32, w33, h34, h⟩ := h
      refine s_blt H rfl (H.args (vs := [l22.v, (Slc.v (Slc.mk (some (blk b28)) 1 1))]) rfl) (lt_ rfl) (fun cs => b_app (z := s32) h34) ?_
      clear H a h34
      intro a H
      refine c_nil <| effQ.go [(8, (.pointer (some a11))), (9, (.pointer (some (a11.add 2))))] H rfl rfl <| Stg.eff [0, 8, 9] (by kernel_rfl) rfl (.cons ?_ (.cons ?_ (.cons ?_ .nil))) ?_
      ·refine Ans.mk rfl rfl fun a H => s_move H rfl rfl (lt_ rfl) fun a H => ?_
       exact Ans.fin H rfl
      ·refine Ans.mk rfl rfl fun a H => s_nil H rfl rfl (lt_ rfl) fun a H => ?_
       exact Ans.fin H rfl
      ·refine Ans.mk rfl rfl fun a H => s_fld H rfl rfl fld_78_2 (lt_ rfl) fun a H => ?_
       exact Ans.fin H rfl
      ·intro a H
       replace H := H.weaken (L' := [(23, s32.v), (25, (.pointer (some (a11.add 2))))]) ⟨rfl, rfl, trivial⟩
       obtain ⟨h36, h37, h⟩ := h
       refine s_sto (p := a11.add 2) (v := s32.v) H rfl rfl rfl rfl one_76 rfl h36 h37 ?_
       clear H
       intro H
       generalize hww35 : World.setCell w33 (a11.add 2) s32.v = w35 at h ⊢
       have w35S : SetAt w33 (a11.add 2) s32.v w35 := ⟨hww35.symm⟩
       clear hww35 h36 h37
       refine c_nil <| effQ.go0 [] H rfl rfl <| Stg.fin [] (by kernel_rfl) .nil ?_
       ·intro a H
        replace H := H.weaken (L' := []) trivial
        exact e_ret0 H rfl h

theorem sim_disk_appending_c1_c1 (o1 : Slc) (f2 : Int) (c3 : Addr) (w : World) (Q : Ending → World → Prop) (h : vc_disk_appending_c1_c1 o1 f2 c3 w Q) : Calls PP F_disk_appending_c1_c1 #[o1.v, (.i f2), (.pointer (some c3))] w Q := by
 unfold vc_disk_appending_c1_c1 at h
 refine enter (n := 12) Tryz.func118 rfl rfl (Nat.le_of_ble_eq_true rfl) fun a H => c_seq fun K4 hK4 => c_reg <| s_assign H rfl rfl (lt_ rfl) fun a H => c_nil <| hK4 _ _ <| c_seq fun K5 hK5 => ?_
 replace H := H.weaken (L' := [(0, o1.v), (1, (.i f2)), (2, (.pointer (some c3))), (5, Slc.nil.v)]) ⟨rfl, rfl, rfl, rfl, trivial⟩
 obtain ⟨l6, hc7, h8, h9, h10, h⟩ := h
 refine c_any (V := [(0, o1.v), (2, l6.v), (3, (.i f2)), (4, (Slc.v (l6.cut 1 (Int.toNat (0)) (Int.toNat (f2)))))]) (⟨[[], [0], [], [], [2, 3], [1, 4], [0, 1, 2, 3, 4, 5]], [some 6, some 7, some 8, some 9, some 10, some 11, some 5], [1, 5], [0, 0, 0, 0, 0, 1, 2], [0, 1, 1, 1, 1, 2, 2]⟩ : Rg) [(0, o1.v), (1, (.i f2)), (2, (.pointer (some c3))), (5, Slc.nil.v)] mixed (by kernel_rfl) H <| Stg.eff [0, 2, 3, 4] (by kernel_rfl) rfl (.cons ?_ (.cons ?_ (.cons ?_ (.cons ?_ .nil)))) ?_
 ·refine Ans.mk rfl rfl fun a H => s_move H rfl rfl (lt_ rfl) fun a H => ?_
  exact Ans.fin H rfl
 ·refine Ans.mk rfl rfl fun a H => s_load (v := l6.v) H rfl rfl one_51 hc7 (lt_ rfl) fun a H => ?_
  exact Ans.fin H rfl
 ·refine Ans.mk rfl rfl fun a H => s_move H rfl rfl (lt_ rfl) fun a H => ?_
  exact Ans.fin H rfl
 ·refine Ans.mk rfl rfl fun a H => s_slice (v := (Slc.v (l6.cut 1 (Int.toNat (0)) (Int.toNat (f2))))) H rfl rfl ⟨rfl, rfl⟩ ⟨rfl, rfl⟩ ⟨rfl, rfl⟩ (r_sliceSlc (lo := none) (hi := (some (.i64, f2))) slc_51 rfl rfl h8 h9 h10) (lt_ rfl) fun a H => ?_
  exact Ans.fin H rfl
 ·intro a H
  replace H := H.weaken (L' := [(6, o1.v)]) ⟨rfl, trivial⟩
  refine s_call H rfl body_47 (H.args (vs := [o1.v]) rfl) (lt_ rfl) h ?_ (fun c w' h H => e_panic (P := PP) (fn := Tryz.f118) H h)
  clear H h a
  rintro _ w11 a ⟨C12, rfl, h⟩ H
  refine c_nil ?_
  obtain ⟨hc13, h⟩ := h
  refine effQ.go [] H rfl rfl <| Stg.eff [2, 3, 4] (by kernel_rfl) rfl (.cons ?_ (.cons ?_ (.cons ?_ .nil))) ?_
  ·refine Ans.mk rfl rfl fun a H => s_load (v := l6.v) H rfl rfl one_51 hc13 (lt_ rfl) fun a H => ?_
   exact Ans.fin H rfl
  ·refine Ans.mk rfl rfl fun a H => s_move H rfl rfl (lt_ rfl) fun a H => ?_
   exact Ans.fin H rfl
  ·refine Ans.mk rfl rfl fun a H => s_slice (v := (Slc.v (l6.cut 1 (Int.toNat (0)) (Int.toNat (f2))))) H rfl rfl ⟨rfl, rfl⟩ ⟨rfl, rfl⟩ ⟨rfl, rfl⟩ (r_sliceSlc (lo := none) (hi := (some (.i64, f2))) slc_51 rfl rfl h8 h9 h10) (lt_ rfl) fun a H => ?_
   exact Ans.fin H rfl
  ·intro a H
   replace H := H.weaken (L' := [(7, C12.v), (10, (Slc.v (l6.cut 1 (Int.toNat (0)) (Int.toNat (f2)))))]) ⟨rfl, rfl, trivial⟩
   obtain ⟨s14, w15, h16, h⟩ := h
   refine s_blt H rfl (H.args (vs := [C12.v, (Slc.v (l6.cut 1 (Int.toNat (0)) (Int.toNat (f2))))]) rfl) (lt_ rfl) (fun cs => b_app (z := s14) h16) ?_
   clear H a h16
   intro a H
   refine c_nil <| effQ.go [(6, s14.v)] H rfl rfl <| Stg.fin [6] (by kernel_rfl) (.cons ?_ .nil) ?_
   ·refine Ans.mk rfl rfl fun a H => s_assign H rfl rfl (lt_ rfl) fun a H => ?_
    exact Ans.fin H rfl
   ·intro a H
    replace H := H.weaken (L' := [(5, s14.v)]) ⟨rfl, trivial⟩
    refine hK5 _ _ <| c_ret ?_
    exact e_ret1 H rfl rfl h

end Go.Proofs.YtflcdgkckfcofaaGreatDoor
