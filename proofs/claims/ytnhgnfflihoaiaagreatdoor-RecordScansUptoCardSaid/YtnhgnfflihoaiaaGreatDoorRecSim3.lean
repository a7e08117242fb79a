/-
  The conditions give the machine's calls; printed by vcgen.py.
-/
import Derived.Test.YtnhgnfflihoaiaaGreatDoorRecVc
namespace Go.Proofs.YtnhgnfflihoaiaaGreatDoor
open Go Go.Vc
set_option maxRecDepth 100000
set_option maxHeartbeats 4000000
theorem sim_sherdref07_Reader_Uint (r1 : Option Addr) (m2 : Int) (w : World) (Q : Ending → World → Prop) (h : vc_sherdref07_Reader_Uint r1 m2 w Q) : Calls PP F_sherdref07_Reader_Uint #[(.pointer r1), (.i m2)] w Q := by
 unfold vc_sherdref07_Reader_Uint at h
 refine enter (n := 42) Tryz.func42 rfl rfl (Nat.le_of_ble_eq_true rfl) fun a H => c_seq fun K3 hK3 => c_reg <| s_assign H rfl rfl (lt_ rfl) fun a H => c_nil <| hK3 _ _ <| c_seq fun K4 hK4 => c_seq fun K5 hK5 => c_reg <| s_move H rfl rfl (lt_ rfl) fun a H => ?_
 obtain ⟨a6, h38, h⟩ := h
 subst h38
 refine s_nil H rfl rfl (lt_ rfl) fun a H => s_fld H rfl rfl fld_116_2 (lt_ rfl) fun a H => ?_
 obtain ⟨l7, hc8, h⟩ := h
 refine s_load (v := (.i l7)) H rfl rfl one_30 hc8 (lt_ rfl) fun a H => s_bin H rfl rfl rfl r_neq (lt_ rfl) fun a H => c_nil <| hK5 _ _ <| c_cond H rfl (fun h9 => ?_) (fun h9 => ?_)
 ·replace h := h.1 h9
  refine c_seq fun K10 hK10 => c_reg <| s_assign H rfl rfl (lt_ rfl) fun a H => c_nil <| hK10 _ _ <| c_ret ?_
  exact e_ret1 H rfl rfl h
 ·replace h := h.2 h9
  refine c_skip <| hK4 _ _ <| c_seq fun K11 hK11 => ?_
  replace H := H.weaken (L' := [(0, (.pointer (some a6))), (1, (.i m2))]) ⟨rfl, rfl, trivial⟩
  obtain ⟨l12, hc13, l14, hc15, h16, h17, h18, h⟩ := h
  refine c_any (V := [(0, (.pointer (some a6))), (1, (.pointer (some a6))), (2, (.pointer (some (a6.add 0)))), (3, l12.v), (4, (.pointer (some a6))), (5, (.pointer (some a6))), (6, (.pointer (some (a6.add 1)))), (7, (.i l14)), (8, (Slc.v (l12.cut 1 (Int.toNat (l14)) (Int.toNat ((l12.l : Int)))))), (9, (.i m2))]) (⟨[[], [0], [1], [2], [], [4], [5], [6], [3, 7], [], [8, 9], [10], [11], [11], [11], [0, 1, 2, 3, 4, 5, 6, 7, 8, 9, 10, 11, 12], [0, 1, 2, 3, 4, 5, 6, 7, 8, 9, 10, 11, 12, 13, 15], [0, 1, 2, 3, 4, 5, 6, 7, 8, 9, 10, 11, 12, 13, 14, 15, 16]], [some 14, some 15, some 16, some 17, some 18, some 19, some 20, some 21, some 22, some 23, some 24, some 13, some 25, some 26, some 27, some 5, some 6, some 7], [10], [0, 0, 0, 0, 0, 0, 0, 0, 0, 0, 0, 1, 1, 1, 1, 1, 1, 1], [0, 0, 0, 0, 0, 0, 0, 0, 0, 0, 1, 1, 1, 1, 1, 1, 1, 1]⟩ : Rg) [(0, (.pointer (some a6))), (1, (.i m2))] mixed (by kernel_rfl) H ?_
  refine Stg.eff [0, 1, 2, 3, 4, 5, 6, 7, 8, 9] (by kernel_rfl) rfl (.cons ?_ (.cons ?_ (.cons ?_ (.cons ?_ (.cons ?_ (.cons ?_ (.cons ?_ (.cons ?_ (.cons ?_ (.cons ?_ .nil)))))))))) ?_
  ·refine Ans.mk rfl rfl fun a H => ?_
   replace H := H.weaken (L' := [(0, (.pointer (some a6)))]) ⟨rfl, trivial⟩
   refine s_move H rfl rfl (lt_ rfl) fun a H => c_nil ⟨rfl, rfl, H.weaken (L' := [(14, (.pointer (some a6)))]) ⟨rfl, trivial⟩⟩
  ·refine Ans.mk rfl rfl fun a H => ?_
   replace H := H.weaken (L' := [(14, (.pointer (some a6)))]) ⟨rfl, trivial⟩
   refine s_nil H rfl rfl (lt_ rfl) fun a H => c_nil ⟨rfl, rfl, H.weaken (L' := [(15, (.pointer (some a6)))]) ⟨rfl, trivial⟩⟩
  ·refine Ans.mk rfl rfl fun a H => ?_
   replace H := H.weaken (L' := [(15, (.pointer (some a6)))]) ⟨rfl, trivial⟩
   refine s_fld H rfl rfl fld_116_0 (lt_ rfl) fun a H => c_nil ⟨rfl, rfl, H.weaken (L' := [(16, (.pointer (some (a6.add 0))))]) ⟨rfl, trivial⟩⟩
  ·refine Ans.mk rfl rfl fun a H => ?_
   replace H := H.weaken (L' := [(16, (.pointer (some (a6.add 0))))]) ⟨rfl, trivial⟩
   refine s_load (v := l12.v) H rfl rfl one_22 hc13 (lt_ rfl) fun a H => c_nil ⟨rfl, rfl, H.weaken (L' := [(17, l12.v)]) ⟨rfl, trivial⟩⟩
  ·refine Ans.mk rfl rfl fun a H => ?_
   replace H := H.weaken (L' := [(0, (.pointer (some a6)))]) ⟨rfl, trivial⟩
   refine s_move H rfl rfl (lt_ rfl) fun a H => c_nil ⟨rfl, rfl, H.weaken (L' := [(18, (.pointer (some a6)))]) ⟨rfl, trivial⟩⟩
  ·refine Ans.mk rfl rfl fun a H => ?_
   replace H := H.weaken (L' := [(18, (.pointer (some a6)))]) ⟨rfl, trivial⟩
   refine s_nil H rfl rfl (lt_ rfl) fun a H => c_nil ⟨rfl, rfl, H.weaken (L' := [(19, (.pointer (some a6)))]) ⟨rfl, trivial⟩⟩
  ·refine Ans.mk rfl rfl fun a H => ?_
   replace H := H.weaken (L' := [(19, (.pointer (some a6)))]) ⟨rfl, trivial⟩
   refine s_fld H rfl rfl fld_116_1 (lt_ rfl) fun a H => c_nil ⟨rfl, rfl, H.weaken (L' := [(20, (.pointer (some (a6.add 1))))]) ⟨rfl, trivial⟩⟩
  ·refine Ans.mk rfl rfl fun a H => ?_
   replace H := H.weaken (L' := [(20, (.pointer (some (a6.add 1))))]) ⟨rfl, trivial⟩
   refine s_load (v := (.i l14)) H rfl rfl one_3 hc15 (lt_ rfl) fun a H => c_nil ⟨rfl, rfl, H.weaken (L' := [(21, (.i l14))]) ⟨rfl, trivial⟩⟩
  ·refine Ans.mk rfl rfl fun a H => ?_
   replace H := H.weaken (L' := [(17, l12.v), (21, (.i l14))]) ⟨rfl, rfl, trivial⟩
   refine s_slice (v := (Slc.v (l12.cut 1 (Int.toNat (l14)) (Int.toNat ((l12.l : Int)))))) H rfl rfl ⟨rfl, rfl⟩ ⟨rfl, rfl⟩ ⟨rfl, rfl⟩ (r_sliceSlc (lo := (some (.i64, l14))) (hi := none) slc_22 rfl rfl h16 h17 h18) (lt_ rfl) fun a H => c_nil ⟨rfl, rfl, H.weaken (L' := [(22, (Slc.v (l12.cut 1 (Int.toNat (l14)) (Int.toNat ((l12.l : Int))))))]) ⟨rfl, trivial⟩⟩
  ·refine Ans.mk rfl rfl fun a H => ?_
   replace H := H.weaken (L' := [(1, (.i m2))]) ⟨rfl, trivial⟩
   refine s_move H rfl rfl (lt_ rfl) fun a H => c_nil ⟨rfl, rfl, H.weaken (L' := [(23, (.i m2))]) ⟨rfl, trivial⟩⟩
  ·intro a H
   replace H := H.weaken (L' := [(22, (Slc.v (l12.cut 1 (Int.toNat (l14)) (Int.toNat ((l12.l : Int)))))), (23, (.i m2))]) ⟨rfl, rfl, trivial⟩
   refine s_call H rfl body_65 (H.args (vs := [(Slc.v (l12.cut 1 (Int.toNat (l14)) (Int.toNat ((l12.l : Int))))), (.i m2)]) rfl) (lt_ rfl) h ?_ (fun c w' h H => e_panic (P := PP) (fn := Tryz.f42) H h)
   clear H h a
   rintro _ w19 a ⟨n20, n21, n22, rfl, h⟩ H
   refine c_nil ?_
   refine effQ.ok (v := (.tuple #[(.i n20), (.i n21), (.i n22)])) (H.weaken (L' := [(24, (.tuple #[(.i n20), (.i n21), (.i n22)]))]) ⟨rfl, trivial⟩) ⟨[(0, (.pointer (some a6))), (1, (.pointer (some a6))), (2, (.pointer (some (a6.add 0)))), (3, l12.v), (4, (.pointer (some a6))), (5, (.pointer (some a6))), (6, (.pointer (some (a6.add 1)))), (7, (.i l14)), (8, (Slc.v (l12.cut 1 (Int.toNat (l14)) (Int.toNat ((l12.l : Int)))))), (9, (.i m2)), (10, (.tuple #[(.i n20), (.i n21), (.i n22)])), (11, (.tuple #[(.i n20), (.i n21), (.i n22)])), (12, (.i n20)), (13, (.i n21)), (14, (.i n22)), (15, (.i n20)), (16, (.i n21)), (17, (.i n22))], ⟨rfl, rfl, rfl, rfl, rfl, rfl, rfl, rfl, rfl, rfl, rfl, trivial⟩, ?_⟩
   refine Stg.fin [11, 12, 13, 14, 15, 16, 17] (by kernel_rfl) (.cons ?_ (.cons ?_ (.cons ?_ (.cons ?_ (.cons ?_ (.cons ?_ (.cons ?_ .nil))))))) ?_
   ·refine Ans.mk rfl rfl fun a H => ?_
    replace H := H.weaken (L' := [(24, (.tuple #[(.i n20), (.i n21), (.i n22)]))]) ⟨rfl, trivial⟩
    refine s_move H rfl rfl (lt_ rfl) fun a H => c_nil ⟨rfl, rfl, H.weaken (L' := [(13, (.tuple #[(.i n20), (.i n21), (.i n22)]))]) ⟨rfl, trivial⟩⟩
   ·refine Ans.mk rfl rfl fun a H => ?_
    replace H := H.weaken (L' := [(13, (.tuple #[(.i n20), (.i n21), (.i n22)]))]) ⟨rfl, trivial⟩
    refine s_ext H rfl rfl rfl (lt_ rfl) fun a H => c_nil ⟨rfl, rfl, H.weaken (L' := [(25, (.i n20))]) ⟨rfl, trivial⟩⟩
   ·refine Ans.mk rfl rfl fun a H => ?_
    replace H := H.weaken (L' := [(13, (.tuple #[(.i n20), (.i n21), (.i n22)]))]) ⟨rfl, trivial⟩
    refine s_ext H rfl rfl rfl (lt_ rfl) fun a H => c_nil ⟨rfl, rfl, H.weaken (L' := [(26, (.i n21))]) ⟨rfl, trivial⟩⟩
   ·refine Ans.mk rfl rfl fun a H => ?_
    replace H := H.weaken (L' := [(13, (.tuple #[(.i n20), (.i n21), (.i n22)]))]) ⟨rfl, trivial⟩
    refine s_ext H rfl rfl rfl (lt_ rfl) fun a H => c_nil ⟨rfl, rfl, H.weaken (L' := [(27, (.i n22))]) ⟨rfl, trivial⟩⟩
   ·refine Ans.mk rfl rfl fun a H => ?_
    replace H := H.weaken (L' := [(25, (.i n20))]) ⟨rfl, trivial⟩
    refine s_assign H rfl rfl (lt_ rfl) fun a H => c_nil ⟨rfl, rfl, H.weaken (L' := [(5, (.i n20))]) ⟨rfl, trivial⟩⟩
   ·refine Ans.mk rfl rfl fun a H => ?_
    replace H := H.weaken (L' := [(26, (.i n21))]) ⟨rfl, trivial⟩
    refine s_assign H rfl rfl (lt_ rfl) fun a H => c_nil ⟨rfl, rfl, H.weaken (L' := [(6, (.i n21))]) ⟨rfl, trivial⟩⟩
   ·refine Ans.mk rfl rfl fun a H => ?_
    replace H := H.weaken (L' := [(27, (.i n22))]) ⟨rfl, trivial⟩
    refine s_assign H rfl rfl (lt_ rfl) fun a H => c_nil ⟨rfl, rfl, H.weaken (L' := [(7, (.i n22))]) ⟨rfl, trivial⟩⟩
   ·intro a H
    replace H := H.weaken (L' := [(0, (.pointer (some a6))), (5, (.i n20)), (6, (.i n21)), (7, (.i n22))]) ⟨rfl, rfl, rfl, rfl, trivial⟩
    refine hK11 _ _ <| c_seq fun K23 hK23 => c_reg <| s_move H rfl rfl (lt_ rfl) fun a H => s_move H rfl rfl (lt_ rfl) fun a H => s_nil H rfl rfl (lt_ rfl) fun a H => s_fld H rfl rfl fld_116_2 (lt_ rfl) fun a H => ?_
    obtain ⟨h25, h26, h⟩ := h
    refine s_sto (p := a6.add 2) (v := (.i n22)) H rfl rfl rfl rfl one_30 rfl h25 h26 ?_
    clear H
    intro H
    generalize hww24 : World.setCell w19 (a6.add 2) (.i n22) = w24 at h ⊢
    have w24S : SetAt w19 (a6.add 2) (.i n22) w24 := ⟨hww24.symm⟩
    clear hww24 h25 h26
    refine c_nil <| hK23 _ _ <| c_seq fun K27 hK27 => c_reg <| s_move H rfl rfl (lt_ rfl) fun a H => s_move H rfl rfl (lt_ rfl) fun a H => s_nil H rfl rfl (lt_ rfl) fun a H => s_fld H rfl rfl fld_116_1 (lt_ rfl) fun a H => ?_
    obtain ⟨l28, hc29, h⟩ := h
    refine s_load (v := (.i l28)) H rfl rfl one_3 hc29 (lt_ rfl) fun a H => s_move H rfl rfl (lt_ rfl) fun a H => s_bin H rfl rfl rfl r_add (lt_ rfl) fun a H => s_nil H rfl rfl (lt_ rfl) fun a H => s_fld H rfl rfl fld_116_1 (lt_ rfl) fun a H => ?_
    obtain ⟨h31, h32, h⟩ := h
    refine s_sto (p := a6.add 1) (v := (.i (wr .i64 (l28 + n21)))) H rfl rfl rfl rfl one_3 rfl h31 h32 ?_
    clear H
    intro H
    generalize hww30 : World.setCell w24 (a6.add 1) (.i (wr .i64 (l28 + n21))) = w30 at h ⊢
    have w30S : SetAt w24 (a6.add 1) (.i (wr .i64 (l28 + n21))) w30 := ⟨hww30.symm⟩
    clear hww30 h31 h32
    refine c_nil <| hK27 _ _ <| c_seq fun K33 hK33 => c_reg <| s_move H rfl rfl (lt_ rfl) fun a H => s_assign H rfl rfl (lt_ rfl) fun a H => c_nil <| hK33 _ _ <| c_ret ?_
    exact e_ret1 H rfl rfl h

theorem sim_sherdref07_Reader_Err (r1 : Option Addr) (w : World) (Q : Ending → World → Prop) (h : vc_sherdref07_Reader_Err r1 w Q) : Calls PP F_sherdref07_Reader_Err #[(.pointer r1)] w Q := by
 unfold vc_sherdref07_Reader_Err at h
 refine enter (n := 7) Tryz.func43 rfl rfl (Nat.le_of_ble_eq_true rfl) fun a H => c_seq fun K2 hK2 => c_reg <| s_assign H rfl rfl (lt_ rfl) fun a H => c_nil <| hK2 _ _ <| c_seq fun K3 hK3 => c_reg <| s_move H rfl rfl (lt_ rfl) fun a H => ?_
 obtain ⟨a4, h7, h⟩ := h
 subst h7
 refine s_nil H rfl rfl (lt_ rfl) fun a H => s_fld H rfl rfl fld_116_2 (lt_ rfl) fun a H => ?_
 obtain ⟨l5, hc6, h⟩ := h
 refine s_load (v := (.i l5)) H rfl rfl one_30 hc6 (lt_ rfl) fun a H => s_assign H rfl rfl (lt_ rfl) fun a H => c_nil <| hK3 _ _ <| c_ret ?_
 exact e_ret1 H rfl rfl h

theorem sim_sherdref11_CheckHead (N1 K2 D3 S4 : Int) (w : World) (Q : Ending → World → Prop) (h : vc_sherdref11_CheckHead N1 K2 D3 S4 w Q) : Calls PP F_sherdref11_CheckHead #[(.agg #[(.i N1), (.i K2), (.i D3), (.i S4)])] w Q := by
 unfold vc_sherdref11_CheckHead at h
 refine enter (n := 21) Tryz.func44 rfl rfl (Nat.le_of_ble_eq_true rfl) fun a H => c_seq fun K5 hK5 => c_reg ?_
 replace h := h.get
 obtain ⟨b6, w7, n8, h⟩ := h
 refine s_box H rfl rfl (lt_ rfl) ?_
 rw [← n8.at_]
 clear H a
 intro a H
 refine n8.go <| s_assign H rfl rfl (lt_ rfl) fun a H => c_nil <| hK5 _ _ <| c_seq fun K9 hK9 => c_reg <| s_fld H rfl rfl fld_36_0 (lt_ rfl) fun a H => s_loadN (l := [(.i N1), (.i K2), (.i D3)]) H rfl rfl agg_34 rfl ⟨(n8.cell (i := 0) rfl), (n8.cell (i := 1) rfl), (n8.cell (i := 2) rfl), trivial⟩ (lt_ rfl) fun a H => s_call H rfl body_66 (H.args (vs := [(.agg #[(.i N1), (.i K2), (.i D3)])]) rfl) (lt_ rfl) h ?_ (fun c w' h H => e_panic (P := PP) (fn := Tryz.f44) H h)
 clear H h a
 rintro _ w10 a ⟨C11, rfl, h⟩ H
 refine s_assign H rfl rfl (lt_ rfl) fun a H => c_nil <| hK9 _ _ <| c_seq fun K12 hK12 => c_seq fun K13 hK13 => c_reg <| s_move H rfl rfl (lt_ rfl) fun a H => s_bin H rfl rfl rfl r_neq (lt_ rfl) fun a H => c_nil <| hK13 _ _ <| c_cond H rfl (fun h14 => ?_) (fun h14 => ?_)
 ·replace h := h.1 h14
  refine c_seq fun K15 hK15 => c_reg <| s_move H rfl rfl (lt_ rfl) fun a H => s_assign H rfl rfl (lt_ rfl) fun a H => c_nil <| hK15 _ _ <| c_ret ?_
  exact e_ret1 H rfl rfl h
 ·replace h := h.2 h14
  refine c_skip <| hK12 _ _ <| c_seq fun K16 hK16 => c_seq fun K17 hK17 => c_reg <| s_fld H rfl rfl fld_36_1 (lt_ rfl) fun a H => ?_
  obtain ⟨l18, hc19, h⟩ := h
  refine s_load (v := (.i l18)) H rfl rfl one_3 hc19 (lt_ rfl) fun a H => s_bin H rfl rfl rfl r_lss (lt_ rfl) fun a H => s_move H rfl rfl (lt_ rfl) fun a H => ?_
  obtain ⟨x26, h27, h28, h⟩ := h
  refine g_join (n := 21) [(20, (.bool x26))] (.succ (.succ (.succ (.succ (.succ (.succ (.succ (.zero _)))))))) ?_ ?_
  ·intro h21
   try clear h
   rcases Bool.eq_false_or_eq_true (decide (l18 < 0)) with h20 | h20
   ·replace H := H.ch (t := 13) (b := true) rfl h20
    iterate 6 refine s_skip H (wantN H rfl rfl rfl) rfl (lt_ rfl) fun a H => ?_
    refine s_pickT H rfl rfl rfl (lt_ rfl) fun a H => ?_
    replace h := h28 h20
    subst h
    exact h21 _ (H.weaken ⟨rfl, trivial⟩)
   ·replace H := H.ch (t := 13) (b := false) rfl h20
    replace h := h27 h20
    refine s_fld H (wantG H rfl rfl) rfl fld_36_1 (lt_ rfl) fun a H => ?_
    obtain ⟨l22, hc23, h⟩ := h
    refine s_load (v := (.i l22)) H (wantG H rfl rfl) rfl one_3 hc23 (lt_ rfl) fun a H => s_fld H (wantG H rfl rfl) rfl fld_36_0 (lt_ rfl) fun a H => s_fld H (wantG H rfl rfl) rfl fld_34_0 (lt_ rfl) fun a H => ?_
    obtain ⟨l24, hc25, h⟩ := h
    refine s_load (v := (.i l24)) H (wantG H rfl rfl) rfl one_3 hc25 (lt_ rfl) fun a H => s_bin H (wantG H rfl rfl) rfl rfl r_geq (lt_ rfl) fun a H => s_pickF H rfl rfl rfl (lt_ rfl) fun a H => ?_
    subst h
    exact h21 _ (H.weaken ⟨rfl, trivial⟩)
  ·clear H a
   clear h27 h28
   intro a H
   refine c_nil <| hK17 _ _ <| c_cond H rfl (fun h29 => ?_) (fun h29 => ?_)
   ·replace h := h.1 h29
    refine c_seq fun K30 hK30 => c_reg <| s_assign H rfl rfl (lt_ rfl) fun a H => c_nil <| hK30 _ _ <| c_ret ?_
    exact e_ret1 H rfl rfl h
   ·replace h := h.2 h29
    refine c_skip <| hK16 _ _ <| c_seq fun K31 hK31 => c_reg <| s_assign H rfl rfl (lt_ rfl) fun a H => c_nil <| hK31 _ _ <| c_ret ?_
    exact e_ret1 H rfl rfl h

theorem sim_sherdref11_headBytes (N1 K2 D3 S4 : Int) (w : World) (Q : Ending → World → Prop) (h : vc_sherdref11_headBytes N1 K2 D3 S4 w Q) : Calls PP F_sherdref11_headBytes #[(.agg #[(.i N1), (.i K2), (.i D3), (.i S4)])] w Q := by
 unfold vc_sherdref11_headBytes at h
 refine enter (n := 33) Tryz.func45 rfl rfl (Nat.le_of_ble_eq_true rfl) fun a H => c_seq fun K5 hK5 => c_reg ?_
 replace h := h.get
 obtain ⟨b6, w7, n8, h⟩ := h
 refine s_box H rfl rfl (lt_ rfl) ?_
 rw [← n8.at_]
 clear H a
 intro a H
 refine n8.go <| s_assign H rfl rfl (lt_ rfl) fun a H => c_nil <| hK5 _ _ <| c_seq fun K9 hK9 => c_reg <| s_call H rfl body_57 (H.args (vs := []) rfl) (lt_ rfl) h ?_ (fun c w' h H => e_panic (P := PP) (fn := Tryz.f45) H h)
 clear H h a
 rintro _ w10 a ⟨N11, rfl, h⟩ H
 refine s_assign H rfl rfl (lt_ rfl) fun a H => c_nil <| hK9 _ _ <| c_seq fun K12 hK12 => c_reg <| s_move H rfl rfl (lt_ rfl) fun a H => s_call H rfl body_58 (H.args (vs := [(.pointer N11), (.int .u8 72)]) rfl) (lt_ rfl) h ?_ (fun c w' h H => e_panic (P := PP) (fn := Tryz.f45) H h)
 clear H h a
 rintro _ w13 a ⟨rfl, h⟩ H
 refine c_nil <| hK12 _ _ <| c_seq fun K14 hK14 => c_reg <| s_move H rfl rfl (lt_ rfl) fun a H => s_fld H rfl rfl fld_36_0 (lt_ rfl) fun a H => s_fld H rfl rfl fld_34_0 (lt_ rfl) fun a H => ?_
 obtain ⟨l15, hc16, h⟩ := h
 refine s_load (v := (.i l15)) H rfl rfl one_3 hc16 (lt_ rfl) fun a H => s_call H rfl body_67 (H.args (vs := [(.pointer N11), (.i l15)]) rfl) (lt_ rfl) h ?_ (fun c w' h H => e_panic (P := PP) (fn := Tryz.f45) H h)
 clear H h a
 rintro _ w17 a ⟨rfl, h⟩ H
 refine c_nil <| hK14 _ _ <| c_seq fun K18 hK18 => c_reg <| s_move H rfl rfl (lt_ rfl) fun a H => s_fld H rfl rfl fld_36_0 (lt_ rfl) fun a H => s_fld H rfl rfl fld_34_1 (lt_ rfl) fun a H => ?_
 obtain ⟨l19, hc20, h⟩ := h
 refine s_load (v := (.i l19)) H rfl rfl one_3 hc20 (lt_ rfl) fun a H => s_call H rfl body_67 (H.args (vs := [(.pointer N11), (.i l19)]) rfl) (lt_ rfl) h ?_ (fun c w' h H => e_panic (P := PP) (fn := Tryz.f45) H h)
 clear H h a
 rintro _ w21 a ⟨rfl, h⟩ H
 refine c_nil <| hK18 _ _ <| c_seq fun K22 hK22 => c_reg <| s_move H rfl rfl (lt_ rfl) fun a H => s_fld H rfl rfl fld_36_0 (lt_ rfl) fun a H => s_fld H rfl rfl fld_34_2 (lt_ rfl) fun a H => ?_
 obtain ⟨l23, hc24, h⟩ := h
 refine s_load (v := (.i l23)) H rfl rfl one_3 hc24 (lt_ rfl) fun a H => s_call H rfl body_67 (H.args (vs := [(.pointer N11), (.i l23)]) rfl) (lt_ rfl) h ?_ (fun c w' h H => e_panic (P := PP) (fn := Tryz.f45) H h)
 clear H h a
 rintro _ w25 a ⟨rfl, h⟩ H
 refine c_nil <| hK22 _ _ <| c_seq fun K26 hK26 => c_reg <| s_move H rfl rfl (lt_ rfl) fun a H => s_fld H rfl rfl fld_36_1 (lt_ rfl) fun a H => ?_
 obtain ⟨l27, hc28, h⟩ := h
 refine s_load (v := (.i l27)) H rfl rfl one_3 hc28 (lt_ rfl) fun a H => s_call H rfl body_67 (H.args (vs := [(.pointer N11), (.i l27)]) rfl) (lt_ rfl) h ?_ (fun c w' h H => e_panic (P := PP) (fn := Tryz.f45) H h)
 clear H h a
 rintro _ w29 a ⟨rfl, h⟩ H
 refine c_nil <| hK26 _ _ <| c_seq fun K30 hK30 => c_reg <| s_move H rfl rfl (lt_ rfl) fun a H => s_call H rfl body_61 (H.args (vs := [(.pointer N11)]) rfl) (lt_ rfl) h ?_ (fun c w' h H => e_panic (P := PP) (fn := Tryz.f45) H h)
 clear H h a
 rintro _ w31 a ⟨D32, rfl, h⟩ H
 refine s_assign H rfl rfl (lt_ rfl) fun a H => c_nil <| hK30 _ _ <| c_seq fun K33 hK33 => c_reg <| s_move H rfl rfl (lt_ rfl) fun a H => s_move H rfl rfl (lt_ rfl) fun a H => s_call H rfl body_48 (H.args (vs := [Slc.nil.v, D32.v]) rfl) (lt_ rfl) h ?_ (fun c w' h H => e_panic (P := PP) (fn := Tryz.f45) H h)
 clear H h a
 rintro _ w34 a ⟨S35, rfl, h⟩ H
 obtain ⟨s36, w37, h38, h⟩ := h
 refine s_blt H rfl (H.args (vs := [D32.v, S35.v]) rfl) (lt_ rfl) (fun cs => b_app (z := s36) h38) ?_
 clear H a h38
 intro a H
 refine s_assign H rfl rfl (lt_ rfl) fun a H => c_nil <| hK33 _ _ <| c_ret ?_
 exact e_ret1 H rfl rfl h

theorem sim_sherdref11_equal (a1 b2 : Slc) (w : World) (Q : Ending → World → Prop) (h : vc_sherdref11_equal a1 b2 w Q) : Calls PP F_sherdref11_equal #[a1.v, b2.v] w Q := by
 unfold vc_sherdref11_equal at h
 refine enter (n := 26) Tryz.func46 rfl rfl (Nat.le_of_ble_eq_true rfl) fun a H => c_seq fun K3 hK3 => c_reg <| s_assign H rfl rfl (lt_ rfl) fun a H => c_nil <| hK3 _ _ <| c_seq fun K4 hK4 => c_seq fun K5 hK5 => c_reg <| s_move H rfl rfl (lt_ rfl) fun a H => s_blt H rfl (H.args (vs := [a1.v]) rfl) (lt_ rfl) (fun cs => b_lenS (z := a1) sl_22) fun a H => s_move H rfl rfl (lt_ rfl) fun a H => s_blt H rfl (H.args (vs := [b2.v]) rfl) (lt_ rfl) (fun cs => b_lenS (z := b2) sl_22) fun a H => ?_
 refine s_bin H rfl rfl rfl r_neq (lt_ rfl) fun a H => c_nil <| hK5 _ _ <| c_cond H rfl (fun h6 => ?_) (fun h6 => ?_)
 ·replace h := h.1 h6
  refine c_seq fun K7 hK7 => c_reg <| s_assign H rfl rfl (lt_ rfl) fun a H => c_nil <| hK7 _ _ <| c_ret ?_
  exact e_ret1 H rfl rfl h
 ·replace h := h.2 h6
  refine c_skip <| hK4 _ _ <| c_seq fun K8 hK8 => c_seq fun K9 hK9 => c_reg <| s_assign H rfl rfl (lt_ rfl) fun a H => c_nil <| hK9 _ _ <| c_block ?_
  obtain ⟨I12, m13, h35, h36⟩ := h
  refine c_loop (σ := Int) (fun z w => I12 z w) (fun z w => m13 z w) (fun z => [(0, a1.v), (1, b2.v), (5, (.i z))]) 0 h35 (H.weaken ⟨rfl, rfl, rfl, trivial⟩) ?_
  clear H h35
  rintro i10 a w11 h H
  replace h := h36 i10 w11 h
  clear h36
  replace H : Has 26 [] a [(0, a1.v), (1, b2.v), (5, (.i i10))] := H
  refine c_seq fun K14 hK14 => c_seq fun K15 hK15 => c_reg <| s_move H rfl rfl (lt_ rfl) fun a H => s_move H rfl rfl (lt_ rfl) fun a H => s_blt H rfl (H.args (vs := [a1.v]) rfl) (lt_ rfl) (fun cs => b_lenS (z := a1) sl_22) fun a H => s_bin H rfl rfl rfl r_lss (lt_ rfl) fun a H => c_nil <| hK15 _ _ <| c_cond H rfl (fun h16 => ?_) (fun h16 => ?_)
  ·replace h := h.1 h16
   refine c_skip <| hK14 _ _ <| c_seq fun K17 hK17 => c_block <| c_seq fun K18 hK18 => c_regD mixed (by kernel_rfl) <| z_move H rfl rfl (lt_ rfl) fun a H => z_move H rfl rfl (lt_ rfl) fun a H => ?_
   obtain ⟨a20, h21, h22, h23, h⟩ := h
   refine z_idxS (s := a1) H rfl rfl rfl slc_22 h21 h22 h23 (lt_ rfl) fun a H => ?_
   obtain ⟨l24, hc25, h⟩ := h
   refine z_load (v := (.int .u8 l24)) H rfl rfl one_5 hc25 (lt_ rfl) fun a H => z_move H rfl rfl (lt_ rfl) fun a H => z_move H rfl rfl (lt_ rfl) fun a H => ?_
   obtain ⟨a26, h27, h28, h29, h⟩ := h
   refine z_idxS (s := b2) H rfl rfl rfl slc_22 h27 h28 h29 (lt_ rfl) fun a H => ?_
   obtain ⟨l30, hc31, h⟩ := h
   refine z_load (v := (.int .u8 l30)) H rfl rfl one_5 hc31 (lt_ rfl) fun a H => z_bin H rfl rfl rfl r_neq (lt_ rfl) fun a H => wpQuiet_nil ?_
   rintro _ ⟨k19, rfl⟩
   replace h := h k19
   refine hK18 _ _ <| c_cond H rfl (fun h32 => ?_) (fun h32 => ?_)
   ·replace h := h.1 h32
    refine c_seq fun K33 hK33 => c_reg <| s_assign H rfl rfl (lt_ rfl) fun a H => c_nil <| hK33 _ _ <| c_ret ?_
    exact e_ret1 H rfl rfl h
   ·replace h := h.2 h32
    refine c_skip <| hK17 _ _ <| c_reg <| s_move H rfl rfl (lt_ rfl) fun a H => s_bin H rfl rfl rfl r_add (lt_ rfl) fun a H => s_assign H rfl rfl (lt_ rfl) fun a H => c_nil <| Exists.intro (wr .i64 (i10 + 1)) ⟨h.1, h.2, H.weaken ⟨rfl, rfl, rfl, trivial⟩⟩
  ·replace h := h.2 h16
   refine c_exit ?_
   first | (simp only [Exit.then, Exit.inBlock, ↓reduceIte]; fail_if_success simp only [Nat.reduceEqDiff]) | simp only [Exit.then, Exit.inBlock, ↓reduceIte, Nat.reduceEqDiff]
   refine hK8 _ _ <| c_seq fun K34 hK34 => c_reg <| s_assign H rfl rfl (lt_ rfl) fun a H => c_nil <| hK34 _ _ <| c_ret ?_
   exact e_ret1 H rfl rfl h

theorem sim_sherdref07_Reader_At (r1 : Option Addr) (w : World) (Q : Ending → World → Prop) (h : vc_sherdref07_Reader_At r1 w Q) : Calls PP F_sherdref07_Reader_At #[(.pointer r1)] w Q := by
 unfold vc_sherdref07_Reader_At at h
 refine enter (n := 7) Tryz.func47 rfl rfl (Nat.le_of_ble_eq_true rfl) fun a H => c_seq fun K2 hK2 => c_reg <| s_assign H rfl rfl (lt_ rfl) fun a H => c_nil <| hK2 _ _ <| c_seq fun K3 hK3 => c_reg <| s_move H rfl rfl (lt_ rfl) fun a H => ?_
 obtain ⟨a4, h7, h⟩ := h
 subst h7
 refine s_nil H rfl rfl (lt_ rfl) fun a H => s_fld H rfl rfl fld_116_1 (lt_ rfl) fun a H => ?_
 obtain ⟨l5, hc6, h⟩ := h
 refine s_load (v := (.i l5)) H rfl rfl one_3 hc6 (lt_ rfl) fun a H => s_assign H rfl rfl (lt_ rfl) fun a H => c_nil <| hK3 _ _ <| c_ret ?_
 exact e_ret1 H rfl rfl h

theorem sim_sherdref11_Summed (a1 b2 : Slc) (w : World) (Q : Ending → World → Prop) (h : vc_sherdref11_Summed a1 b2 w Q) : Calls PP F_sherdref11_Summed #[a1.v, b2.v] w Q := by
 unfold vc_sherdref11_Summed at h
 refine enter (n := 15) Tryz.func48 rfl rfl (Nat.le_of_ble_eq_true rfl) fun a H => c_seq fun K3 hK3 => c_reg <| s_assign H rfl rfl (lt_ rfl) fun a H => c_nil <| hK3 _ _ <| c_seq fun K4 hK4 => c_reg ?_
 replace h := h.get
 obtain ⟨b5, w6, n7, h⟩ := h
 refine s_bslc H rfl (by rw [H.parts (vs := []) rfl]; exact bs_22_0 w) (lt_ rfl) ?_
 rw [← n7.at_]
 clear H a
 intro a H
 refine n7.go <| s_move H rfl rfl (lt_ rfl) fun a H => ?_
 obtain ⟨s8, w9, h10, h⟩ := h
 refine s_blt H rfl (H.args (vs := [(Slc.v (Slc.mk (some (blk b5)) 0 0)), a1.v]) rfl) (lt_ rfl) (fun cs => b_app (z := s8) h10) ?_
 clear H a h10
 intro a H
 refine s_move H rfl rfl (lt_ rfl) fun a H => ?_
 obtain ⟨s11, w12, h13, h⟩ := h
 refine s_blt H rfl (H.args (vs := [s8.v, b2.v]) rfl) (lt_ rfl) (fun cs => b_app (z := s11) h13) ?_
 clear H a h13
 intro a H
 refine s_assign H rfl rfl (lt_ rfl) fun a H => c_nil <| hK4 _ _ <| c_seq fun K14 hK14 => c_reg <| s_move H rfl rfl (lt_ rfl) fun a H => ?_
 replace h := h.get
 obtain ⟨b15, w16, n17, h⟩ := h
 refine s_bslc H rfl (by rw [H.parts (vs := [(0, s11.v)]) rfl]; exact bs_55_1_s0 w12 s11) (lt_ rfl) ?_
 rw [← n17.at_]
 clear H a
 intro a H
 refine n17.go <| s_call H rfl body_69 (H.args (vs := [(Slc.v (Slc.mk (some (blk b15)) 1 1))]) rfl) (lt_ rfl) h ?_ (fun c w' h H => e_panic (P := PP) (fn := Tryz.f48) H h)
 clear H h a
 rintro _ w18 a ⟨O19, rfl, h⟩ H
 refine s_call H rfl body_68 (H.args (vs := [(.int .u32 O19)]) rfl) (lt_ rfl) h ?_ (fun c w' h H => e_panic (P := PP) (fn := Tryz.f48) H h)
 clear H h a
 rintro _ w20 a ⟨f21, rfl, h⟩ H
 refine s_assign H rfl rfl (lt_ rfl) fun a H => c_nil <| hK14 _ _ <| c_ret ?_
 exact e_ret1 H rfl rfl h

theorem sim_sherdref11_update (l1 : Slc) (w : World) (Q : Ending → World → Prop) (h : vc_sherdref11_update l1 w Q) : Calls PP F_sherdref11_update #[l1.v] w Q := by
 unfold vc_sherdref11_update at h
 refine enter (n := 67) Tryz.func49 rfl rfl (Nat.le_of_ble_eq_true rfl) fun a H => c_seq fun K2 hK2 => c_reg ?_
 replace h := h.get
 obtain ⟨b3, w4, n5, h⟩ := h
 refine s_alloc H rfl zero_28 (lt_ rfl) ?_
 rw [← n5.at_]
 clear H a
 intro a H
 refine n5.go <| s_assign H rfl rfl (lt_ rfl) fun a H => c_nil <| hK2 _ _ <| c_seq fun K6 hK6 => c_reg <| s_move H rfl rfl (lt_ rfl) fun a H => s_call H rfl body_40 (H.args (vs := [l1.v]) rfl) (lt_ rfl) h ?_ (fun c w' h H => e_panic (P := PP) (fn := Tryz.f49) H h)
 clear H h a
 rintro _ w7 a ⟨N8, rfl, h⟩ H
 refine s_assign H rfl rfl (lt_ rfl) fun a H => c_nil <| hK6 _ _ <| c_seq fun K9 hK9 => c_reg ?_
 replace h := h.get
 obtain ⟨b10, w11, n12, h⟩ := h
 refine s_alloc H rfl zero_28 (lt_ rfl) ?_
 rw [← n12.at_]
 clear H a
 intro a H
 refine n12.go <| c_nil <| hK9 _ _ <| c_seq fun K13 hK13 => c_reg <| s_move H rfl rfl (lt_ rfl) fun a H => s_call H rfl body_41 (H.args (vs := [(.pointer N8)]) rfl) (lt_ rfl) h ?_ (fun c w' h H => e_panic (P := PP) (fn := Tryz.f49) H h)
 clear H h a
 rintro _ w14 a ⟨B15, rfl, h⟩ H
 refine s_cv H rfl rfl (r_cvI some_5 int_3) (lt_ rfl) fun a H => s_fld H rfl rfl fld_28_0 (lt_ rfl) fun a H => ?_
 obtain ⟨h17, h18, h⟩ := h
 refine s_sto (p := (blk b10).add 0) (v := (.i (wr .i64 B15))) H rfl rfl rfl rfl one_3 rfl h17 h18 ?_
 clear H
 intro H
 generalize hww16 : World.setCell w14 ((blk b10).add 0) (.i (wr .i64 B15)) = w16 at h ⊢
 have w16S : SetAt w14 ((blk b10).add 0) (.i (wr .i64 B15)) w16 := ⟨hww16.symm⟩
 clear hww16 h17 h18
 refine c_nil <| hK13 _ _ <| c_seq fun K19 hK19 => c_reg <| s_move H rfl rfl (lt_ rfl) fun a H => s_call H rfl body_70 (H.args (vs := [(.pointer N8), (.i 64)]) rfl) (lt_ rfl) h ?_ (fun c w' h H => e_panic (P := PP) (fn := Tryz.f49) H h)
 clear H h a
 rintro _ w20 a ⟨T21, rfl, h⟩ H
 refine s_fld H rfl rfl fld_28_1 (lt_ rfl) fun a H => ?_
 obtain ⟨h23, h24, h⟩ := h
 refine s_sto (p := (blk b10).add 1) (v := (.string T21)) H rfl rfl rfl rfl one_9 rfl h23 h24 ?_
 clear H
 intro H
 generalize hww22 : World.setCell w20 ((blk b10).add 1) (.string T21) = w22 at h ⊢
 have w22S : SetAt w20 ((blk b10).add 1) (.string T21) w22 := ⟨hww22.symm⟩
 clear hww22 h23 h24
 refine c_nil <| hK19 _ _ <| c_seq fun K25 hK25 => c_reg <| s_move H rfl rfl (lt_ rfl) fun a H => s_call H rfl body_42 (H.args (vs := [(.pointer N8), (.i 4611686018427387903)]) rfl) (lt_ rfl) h ?_ (fun c w' h H => e_panic (P := PP) (fn := Tryz.f49) H h)
 clear H h a
 rintro _ w26 a ⟨U27, rfl, h⟩ H
 refine s_fld H rfl rfl fld_28_2 (lt_ rfl) fun a H => s_fld H rfl rfl fld_26_0 (lt_ rfl) fun a H => s_fld H rfl rfl fld_24_0 (lt_ rfl) fun a H => ?_
 obtain ⟨h29, h30, h⟩ := h
 refine s_sto (p := (((blk b10).add 2).add 0).add 0) (v := (.i U27)) H rfl rfl rfl rfl one_2 rfl h29 h30 ?_
 clear H
 intro H
 generalize hww28 : World.setCell w26 ((((blk b10).add 2).add 0).add 0) (.i U27) = w28 at h ⊢
 have w28S : SetAt w26 ((((blk b10).add 2).add 0).add 0) (.i U27) w28 := ⟨hww28.symm⟩
 clear hww28 h29 h30
 refine c_nil <| hK25 _ _ <| c_seq fun K31 hK31 => c_reg <| s_move H rfl rfl (lt_ rfl) fun a H => s_call H rfl body_42 (H.args (vs := [(.pointer N8), (.i 65535)]) rfl) (lt_ rfl) h ?_ (fun c w' h H => e_panic (P := PP) (fn := Tryz.f49) H h)
 clear H h a
 rintro _ w32 a ⟨U33, rfl, h⟩ H
 refine s_fld H rfl rfl fld_28_2 (lt_ rfl) fun a H => s_fld H rfl rfl fld_26_0 (lt_ rfl) fun a H => s_fld H rfl rfl fld_24_1 (lt_ rfl) fun a H => ?_
 obtain ⟨h35, h36, h⟩ := h
 refine s_sto (p := (((blk b10).add 2).add 0).add 1) (v := (.i U33)) H rfl rfl rfl rfl one_3 rfl h35 h36 ?_
 clear H
 intro H
 generalize hww34 : World.setCell w32 ((((blk b10).add 2).add 0).add 1) (.i U33) = w34 at h ⊢
 have w34S : SetAt w32 ((((blk b10).add 2).add 0).add 1) (.i U33) w34 := ⟨hww34.symm⟩
 clear hww34 h35 h36
 refine c_nil <| hK31 _ _ <| c_seq fun K37 hK37 => ?_
 obtain ⟨R38, h, h208⟩ := h
 have h184 : ∀ (a : Act) (w39 : World), R38 w39 → Has 67 [] a [(0, l1.v), (2, (.pointer (some (blk b3)))), (4, (.pointer N8)), (5, (.pointer (some (blk b10))))] → K37 a w39 := by
  clear h
  intro a w39 h H
  replace h := h208 w39 h
  refine hK37 _ _ <| c_seq fun K40 hK40 => ?_
  obtain ⟨R41, h, h183⟩ := h
  have h162 : ∀ (a : Act) (w42 : World), R41 w42 → Has 67 [] a [(0, l1.v), (2, (.pointer (some (blk b3)))), (4, (.pointer N8)), (5, (.pointer (some (blk b10))))] → K40 a w42 := by
   clear h
   intro a w42 h H
   replace h := h183 w42 h
   refine hK40 _ _ <| c_seq fun K43 hK43 => c_reg <| s_move H rfl rfl (lt_ rfl) fun a H => s_call H rfl body_73 (H.args (vs := [(.pointer N8)]) rfl) (lt_ rfl) h ?_ (fun c w' h H => e_panic (P := PP) (fn := Tryz.f49) H h)
   clear H h a
   rintro _ w44 a ⟨rfl, h⟩ H
   refine c_nil <| hK43 _ _ <| c_seq fun K45 hK45 => c_seq fun K46 hK46 => c_reg <| s_move H rfl rfl (lt_ rfl) fun a H => s_call H rfl body_43 (H.args (vs := [(.pointer N8)]) rfl) (lt_ rfl) h ?_ (fun c w' h H => e_panic (P := PP) (fn := Tryz.f49) H h)
   clear H h a
   rintro _ w47 a ⟨E48, rfl, h⟩ H
   refine s_bin H rfl rfl rfl r_neq (lt_ rfl) fun a H => s_move H rfl rfl (lt_ rfl) fun a H => ?_
   obtain ⟨R51, h, h153⟩ := h
   refine g_joinW (n := 67) R51 (fun x52 => [(57, (.bool x52)), (0, l1.v), (2, (.pointer (some (blk b3)))), (5, (.pointer (some (blk b10))))]) (.succ (.succ (.succ (.succ (.zero _))))) ?_ ?_
   ·intro h50
    clear h153
    rcases Bool.eq_false_or_eq_true (decide (E48 ≠ 0)) with h49 | h49
    ·replace H := H.ch (t := 53) (b := true) rfl h49
     replace h := h.2 h49
     iterate 3 refine s_skip H (wantN H rfl rfl rfl) rfl (lt_ rfl) fun a H => ?_
     refine s_pickT H rfl rfl rfl (lt_ rfl) fun a H => ?_
     exact h50 _ _ _ h (H.weaken ⟨rfl, rfl, rfl, rfl, trivial⟩)
    ·replace H := H.ch (t := 53) (b := false) rfl h49
     replace h := h.1 h49
     obtain ⟨K54, hc55, K56, hc57, C58, hc59, C60, hc61, F62, hc63, H64, hc65, D66, hc67, h⟩ := h
     refine s_loadN (l := [(.i K54), (.string K56), (.i C58), (.i C60), (.bool F62), (.bool H64), D66.v]) H (wantG H rfl rfl) rfl agg_28 rfl ⟨hc55, hc57, hc59, hc61, hc63, hc65, hc67, trivial⟩ (lt_ rfl) fun a H => s_call H (wantG H rfl rfl) body_56 (H.args (vs := [(.agg #[(.i K54), (.string K56), (.i C58), (.i C60), (.bool F62), (.bool H64), D66.v])]) rfl) (lt_ rfl) h ?_ (fun c w' h H => e_panic (P := PP) (fn := Tryz.f49) H h)
     clear H h a
     rintro _ w68 a ⟨C69, rfl, h⟩ H
     refine s_bin H (wantG H rfl rfl) rfl rfl r_neq (lt_ rfl) fun a H => s_pickF H rfl rfl rfl (lt_ rfl) fun a H => ?_
     exact h50 _ _ _ h (H.weaken ⟨rfl, rfl, rfl, rfl, trivial⟩)
   ·clear H a h
    intro a x52 w53 h H
    replace h := h153 x52 w53 h
    clear h153
    refine s_move H rfl rfl (lt_ rfl) fun a H => ?_
    obtain ⟨R76, h, h152⟩ := h
    refine g_joinW (n := 67) R76 (fun x77 => [(64, (.bool x77)), (2, (.pointer (some (blk b3)))), (5, (.pointer (some (blk b10))))]) (.succ (.succ (.succ (.succ (.succ (.succ (.zero _))))))) ?_ ?_
    ·intro h75
     clear h152
     rcases Bool.eq_false_or_eq_true x52 with h74 | h74
     ·replace H := H.ch (t := 58) (b := true) rfl h74
      replace h := h.2 h74
      iterate 5 refine s_skip H (wantN H rfl rfl rfl) rfl (lt_ rfl) fun a H => ?_
      refine s_pickT H rfl rfl rfl (lt_ rfl) fun a H => ?_
      exact h75 _ _ _ h (H.weaken ⟨rfl, rfl, rfl, trivial⟩)
     ·replace H := H.ch (t := 58) (b := false) rfl h74
      replace h := h.1 h74
      obtain ⟨K79, hc80, K81, hc82, C83, hc84, C85, hc86, F87, hc88, H89, hc90, D91, hc92, h⟩ := h
      refine s_loadN (l := [(.i K79), (.string K81), (.i C83), (.i C85), (.bool F87), (.bool H89), D91.v]) H (wantG H rfl rfl) rfl agg_28 rfl ⟨hc80, hc82, hc84, hc86, hc88, hc90, hc92, trivial⟩ (lt_ rfl) fun a H => s_call H (wantG H rfl rfl) body_60 (H.args (vs := [(.agg #[(.i K79), (.string K81), (.i C83), (.i C85), (.bool F87), (.bool H89), D91.v])]) rfl) (lt_ rfl) h ?_ (fun c w' h H => e_panic (P := PP) (fn := Tryz.f49) H h)
      clear H h a
      rintro _ w93 a ⟨b94, rfl, h⟩ H
      refine s_move H (wantG H rfl rfl) rfl (lt_ rfl) fun a H => s_call H (wantG H rfl rfl) body_46 (H.args (vs := [b94.v, l1.v]) rfl) (lt_ rfl) h ?_ (fun c w' h H => e_panic (P := PP) (fn := Tryz.f49) H h)
      clear H h a
      rintro _ w95 a ⟨e96, rfl, h⟩ H
      refine s_un H (wantG H rfl rfl) rfl r_not (lt_ rfl) fun a H => s_pickF H rfl rfl rfl (lt_ rfl) fun a H => ?_
      exact h75 _ _ _ h (H.weaken ⟨rfl, rfl, rfl, trivial⟩)
    ·clear H a h
     intro a x77 w78 h H
     replace h := h152 x77 w78 h
     clear h152
     refine c_nil <| hK46 _ _ <| c_cond H rfl (fun h105 => ?_) (fun h105 => ?_)
     ·replace h := h.1 h105
      refine c_seq fun K106 hK106 => c_reg <| s_build H rfl (by rw [H.parts (vs := []) rfl]; exact bd_28 w78) (lt_ rfl) fun a H => s_stoN (l := [(.i 0), (.string ⟨#[]⟩), (.i 0), (.i 0), (.bool false), (.bool false), Slc.nil.v]) H rfl rfl rfl rfl agg_28 rfl rfl h ?_
      clear h H
      intro w107 h H
      refine s_assign H rfl rfl (lt_ rfl) fun a H => c_nil <| hK106 _ _ <| c_ret ?_
      obtain ⟨K108, hc109, K110, hc111, C112, hc113, C114, hc115, F116, hc117, H118, hc119, D120, hc121, h⟩ := h
      exact e_ret2 H rfl ⟨_, rfl, run_loadN (l := [(.i K108), (.string K110), (.i C112), (.i C114), (.bool F116), (.bool H118), D120.v]) agg_28 rfl ⟨hc109, hc111, hc113, hc115, hc117, hc119, hc121, trivial⟩⟩ rfl h
     ·replace h := h.2 h105
      refine c_skip <| hK45 _ _ <| c_seq fun K122 hK122 => c_reg ?_
      obtain ⟨K123, hc124, K125, hc126, C127, hc128, C129, hc130, F131, hc132, H133, hc134, D135, hc136, h⟩ := h
      refine s_loadN (l := [(.i K123), (.string K125), (.i C127), (.i C129), (.bool F131), (.bool H133), D135.v]) H rfl rfl agg_28 rfl ⟨hc124, hc126, hc128, hc130, hc132, hc134, hc136, trivial⟩ (lt_ rfl) fun a H => s_stoN (l := [(.i K123), (.string K125), (.i C127), (.i C129), (.bool F131), (.bool H133), D135.v]) H rfl rfl rfl rfl agg_28 rfl rfl h ?_
      clear h H
      intro w137 h H
      refine s_assign H rfl rfl (lt_ rfl) fun a H => c_nil <| hK122 _ _ <| c_ret ?_
      obtain ⟨K138, hc139, K140, hc141, C142, hc143, C144, hc145, F146, hc147, H148, hc149, D150, hc151, h⟩ := h
      exact e_ret2 H rfl ⟨_, rfl, run_loadN (l := [(.i K138), (.string K140), (.i C142), (.i C144), (.bool F146), (.bool H148), D150.v]) agg_28 rfl ⟨hc139, hc141, hc143, hc145, hc147, hc149, hc151, trivial⟩⟩ rfl h
  clear h183
  refine c_seq fun K163 hK163 => c_reg <| s_fld H rfl rfl fld_28_0 (lt_ rfl) fun a H => ?_
  obtain ⟨l164, hc165, h⟩ := h
  refine s_load (v := (.i l164)) H rfl rfl one_3 hc165 (lt_ rfl) fun a H => s_bin H rfl rfl rfl r_eql (lt_ rfl) fun a H => s_move H rfl rfl (lt_ rfl) fun a H => ?_
  obtain ⟨x170, h171, h172, h⟩ := h
  refine g_join (n := 67) [(43, (.bool x170)), (0, l1.v), (2, (.pointer (some (blk b3)))), (4, (.pointer N8)), (5, (.pointer (some (blk b10))))] (.succ (.succ (.succ (.succ (.zero _))))) ?_ ?_
  ·intro h167
   try clear h
   rcases Bool.eq_false_or_eq_true (decide (l164 = 1)) with h166 | h166
   ·replace H := H.ch (t := 39) (b := true) rfl h166
    iterate 3 refine s_skip H (wantN H rfl rfl rfl) rfl (lt_ rfl) fun a H => ?_
    refine s_pickT H rfl rfl rfl (lt_ rfl) fun a H => ?_
    replace h := h172 h166
    subst h
    exact h167 _ (H.weaken ⟨rfl, rfl, rfl, rfl, rfl, trivial⟩)
   ·replace H := H.ch (t := 39) (b := false) rfl h166
    replace h := h171 h166
    refine s_fld H (wantG H rfl rfl) rfl fld_28_2 (lt_ rfl) fun a H => s_fld H (wantG H rfl rfl) rfl fld_26_2 (lt_ rfl) fun a H => ?_
    obtain ⟨l168, hc169, h⟩ := h
    refine s_load (v := (.bool l168)) H (wantG H rfl rfl) rfl one_4 hc169 (lt_ rfl) fun a H => s_pickF H rfl rfl rfl (lt_ rfl) fun a H => ?_
    subst h
    exact h167 _ (H.weaken ⟨rfl, rfl, rfl, rfl, rfl, trivial⟩)
  ·clear H a
   clear h171 h172
   intro a H
   refine c_nil <| hK163 _ _ <| c_cond H rfl (fun h173 => ?_) (fun h173 => ?_)
   ·replace h := h.1 h173
    refine c_reg <| s_move H rfl rfl (lt_ rfl) fun a H => s_call H rfl body_72 (H.args (vs := [(.pointer N8), (.i 65540)]) rfl) (lt_ rfl) h ?_ (fun c w' h H => e_panic (P := PP) (fn := Tryz.f49) H h)
    clear H h a
    rintro _ w174 a ⟨B175, rfl, h⟩ H
    refine s_fld H rfl rfl fld_28_2 (lt_ rfl) fun a H => s_fld H rfl rfl fld_26_3 (lt_ rfl) fun a H => ?_
    obtain ⟨h177, h178, h⟩ := h
    refine s_sto (p := ((blk b10).add 2).add 4) (v := B175.v) H rfl rfl rfl rfl one_22 rfl h177 h178 ?_
    clear H
    intro H
    generalize hww176 : World.setCell w174 (((blk b10).add 2).add 4) B175.v = w176 at h ⊢
    have w176S : SetAt w174 (((blk b10).add 2).add 4) B175.v w176 := ⟨hww176.symm⟩
    clear hww176 h177 h178
    refine c_nil ?_
    exact h162 _ _ h (H.weaken ⟨rfl, rfl, rfl, rfl, trivial⟩)
   ·replace h := h.2 h173
    refine c_skip ?_
    exact h162 _ _ h (H.weaken ⟨rfl, rfl, rfl, rfl, trivial⟩)
 clear h208
 refine c_seq fun K185 hK185 => c_reg <| s_fld H rfl rfl fld_28_0 (lt_ rfl) fun a H => ?_
 obtain ⟨l186, hc187, h⟩ := h
 refine s_load (v := (.i l186)) H rfl rfl one_3 hc187 (lt_ rfl) fun a H => s_bin H rfl rfl rfl r_eql (lt_ rfl) fun a H => c_nil <| hK185 _ _ <| c_cond H rfl (fun h188 => ?_) (fun h188 => ?_)
 ·replace h := h.1 h188
  refine c_seq fun K189 hK189 => c_reg <| s_move H rfl rfl (lt_ rfl) fun a H => s_call H rfl body_71 (H.args (vs := [(.pointer N8)]) rfl) (lt_ rfl) h ?_ (fun c w' h H => e_panic (P := PP) (fn := Tryz.f49) H h)
  clear H h a
  rintro _ w190 a ⟨B191, rfl, h⟩ H
  refine s_fld H rfl rfl fld_28_2 (lt_ rfl) fun a H => s_fld H rfl rfl fld_26_1 (lt_ rfl) fun a H => ?_
  obtain ⟨h193, h194, h⟩ := h
  refine s_sto (p := ((blk b10).add 2).add 2) (v := (.bool B191)) H rfl rfl rfl rfl one_4 rfl h193 h194 ?_
  clear H
  intro H
  generalize hww192 : World.setCell w190 (((blk b10).add 2).add 2) (.bool B191) = w192 at h ⊢
  have w192S : SetAt w190 (((blk b10).add 2).add 2) (.bool B191) w192 := ⟨hww192.symm⟩
  clear hww192 h193 h194
  refine c_nil <| hK189 _ _ <| c_reg <| s_move H rfl rfl (lt_ rfl) fun a H => s_call H rfl body_71 (H.args (vs := [(.pointer N8)]) rfl) (lt_ rfl) h ?_ (fun c w' h H => e_panic (P := PP) (fn := Tryz.f49) H h)
  clear H h a
  rintro _ w195 a ⟨B196, rfl, h⟩ H
  refine s_fld H rfl rfl fld_28_2 (lt_ rfl) fun a H => s_fld H rfl rfl fld_26_2 (lt_ rfl) fun a H => ?_
  obtain ⟨h198, h199, h⟩ := h
  refine s_sto (p := ((blk b10).add 2).add 3) (v := (.bool B196)) H rfl rfl rfl rfl one_4 rfl h198 h199 ?_
  clear H
  intro H
  generalize hww197 : World.setCell w195 (((blk b10).add 2).add 3) (.bool B196) = w197 at h ⊢
  have w197S : SetAt w195 (((blk b10).add 2).add 3) (.bool B196) w197 := ⟨hww197.symm⟩
  clear hww197 h198 h199
  refine c_nil ?_
  exact h184 _ _ h (H.weaken ⟨rfl, rfl, rfl, rfl, trivial⟩)
 ·replace h := h.2 h188
  refine c_skip ?_
  exact h184 _ _ h (H.weaken ⟨rfl, rfl, rfl, rfl, trivial⟩)

theorem sim_record_Scan_c1 (c1 c2 c3 : Addr) (w : World) (Q : Ending → World → Prop) (h : vc_record_Scan_c1 c1 c2 c3 w Q) : Calls PP F_record_Scan_c1 #[(.pointer (some c1)), (.pointer (some c2)), (.pointer (some c3))] w Q := by
 unfold vc_record_Scan_c1 at h
 refine enter (n := 8) Tryz.func51 rfl rfl (Nat.le_of_ble_eq_true rfl) fun a H => c_reg ?_
 obtain ⟨l4, hc5, h⟩ := h
 refine s_load (v := l4.v) H rfl rfl one_22 hc5 (lt_ rfl) fun a H => s_call H rfl body_52 (H.args (vs := [l4.v]) rfl) (lt_ rfl) h ?_ (fun c w' h H => e_panic (P := PP) (fn := Tryz.f51) H h)
 clear H h a
 rintro _ w6 a ⟨N7, K8, D9, S10, r11, rfl, h⟩ H
 refine s_move H rfl rfl (lt_ rfl) fun a H => s_ext H rfl rfl rfl (lt_ rfl) fun a H => s_ext H rfl rfl rfl (lt_ rfl) fun a H => s_stoN (l := [(.i N7), (.i K8), (.i D9), (.i S10)]) H rfl rfl rfl rfl agg_36 rfl rfl h ?_
 clear h H
 intro w12 h H
 obtain ⟨h14, h15, h⟩ := h
 refine s_sto (p := c3) (v := (.i r11)) H rfl rfl rfl rfl one_3 rfl h14 h15 ?_
 clear H
 intro H
 generalize hww13 : World.setCell w12 (c3) (.i r11) = w13 at h ⊢
 have w13S : SetAt w12 (c3) (.i r11) w13 := ⟨hww13.symm⟩
 clear hww13 h14 h15
 refine c_nil ?_
 exact e_ret0 H rfl h

theorem sim_record_readHead (d1 : Slc) (w : World) (Q : Ending → World → Prop) (h : vc_record_readHead d1 w Q) : Calls PP F_record_readHead #[d1.v] w Q := by
 unfold vc_record_readHead at h
 refine enter (n := 64) Tryz.func52 rfl rfl (Nat.le_of_ble_eq_true rfl) fun a H => c_seq fun K2 hK2 => c_reg ?_
 replace h := h.get
 obtain ⟨b3, w4, n5, h⟩ := h
 refine s_alloc H rfl zero_36 (lt_ rfl) ?_
 rw [← n5.at_]
 clear H a
 intro a H
 refine n5.go <| s_assign H rfl rfl (lt_ rfl) fun a H => c_nil <| hK2 _ _ <| c_seq fun K6 hK6 => c_reg <| s_move H rfl rfl (lt_ rfl) fun a H => s_call H rfl body_75 (H.args (vs := [d1.v]) rfl) (lt_ rfl) h ?_ (fun c w' h H => e_panic (P := PP) (fn := Tryz.f52) H h)
 clear H h a
 rintro _ w7 a ⟨N8, rfl, h⟩ H
 refine s_assign H rfl rfl (lt_ rfl) fun a H => c_nil <| hK6 _ _ <| c_seq fun K9 hK9 => c_reg <| s_move H rfl rfl (lt_ rfl) fun a H => s_call H rfl body_76 (H.args (vs := [(.pointer N8)]) rfl) (lt_ rfl) h ?_ (fun c w' h H => e_panic (P := PP) (fn := Tryz.f52) H h)
 clear H h a
 rintro _ w10 a ⟨B11, rfl, h⟩ H
 refine s_assign H rfl rfl (lt_ rfl) fun a H => c_nil <| hK9 _ _ <| c_seq fun K12 hK12 => c_reg ?_
 replace h := h.get
 obtain ⟨b13, w14, n15, h⟩ := h
 refine s_alloc H rfl zero_125 (lt_ rfl) ?_
 rw [← n15.at_]
 clear H a
 intro a H
 refine n15.go <| c_nil <| hK12 _ _ <| c_seq fun K16 hK16 => c_seq fun K17 hK17 => c_reg <| s_move H rfl rfl (lt_ rfl) fun a H => c_nil <| hK17 _ _ <| c_block ?_
 obtain ⟨I20, m21, h139, h140⟩ := h
 refine c_loop (σ := Int) (fun z w => I20 z w) (fun z w => m21 z w) (fun z => [(0, d1.v), (2, (.pointer (some (blk b3)))), (4, (.pointer N8)), (5, (.int .u8 B11)), (6, (.pointer (some (blk b13)))), (14, (.i z))]) 0 h139 (H.weaken ⟨rfl, rfl, rfl, rfl, rfl, rfl, trivial⟩) ?_
 clear H h139
 rintro s18 a w19 h H
 replace h := h140 s18 w19 h
 clear h140
 replace H : Has 64 [] a [(0, d1.v), (2, (.pointer (some (blk b3)))), (4, (.pointer N8)), (5, (.int .u8 B11)), (6, (.pointer (some (blk b13)))), (14, (.i s18))] := H
 refine c_seq fun K22 hK22 => c_reg <| s_bin H rfl rfl rfl r_lss (lt_ rfl) fun a H => c_nil <| hK22 _ _ <| c_seq fun K23 hK23 => c_cond H rfl (fun h24 => ?_) (fun h24 => ?_)
 ·replace h := h.1 h24
  refine c_skip <| hK23 _ _ <| c_seq fun K25 hK25 => c_block <| c_seq fun K26 hK26 => c_reg <| s_move H rfl rfl (lt_ rfl) fun a H => s_assign H rfl rfl (lt_ rfl) fun a H => c_nil <| hK26 _ _ <| c_reg <| s_move H rfl rfl (lt_ rfl) fun a H => s_move H rfl rfl (lt_ rfl) fun a H => s_call H rfl body_77 (H.args (vs := [(.pointer N8), (.i 4611686018427387903)]) rfl) (lt_ rfl) h ?_ (fun c w' h H => e_panic (P := PP) (fn := Tryz.f52) H h)
  clear H h a
  rintro _ w27 a ⟨U28, rfl, h⟩ H
  obtain ⟨h29, h30, h⟩ := h
  refine s_idxA H rfl rfl rfl arr_125 h29 h30 (lt_ rfl) fun a H => ?_
  obtain ⟨h32, h33, h⟩ := h
  refine s_sto (p := (blk b13).add (Int.toNat (s18) * 1)) (v := (.i U28)) H rfl rfl rfl rfl one_3 rfl h32 h33 ?_
  clear H
  intro H
  generalize hww31 : World.setCell w27 ((blk b13).add (Int.toNat (s18) * 1)) (.i U28) = w31 at h ⊢
  have w31S : SetAt w27 ((blk b13).add (Int.toNat (s18) * 1)) (.i U28) w31 := ⟨hww31.symm⟩
  clear hww31 h32 h33
  refine c_nil <| hK25 _ _ <| c_reg <| s_bin H rfl rfl rfl r_add (lt_ rfl) fun a H => s_move H rfl rfl (lt_ rfl) fun a H => c_nil <| Exists.intro (wr .i64 (s18 + 1)) ⟨h.1, h.2, H.weaken ⟨rfl, rfl, rfl, rfl, rfl, rfl, trivial⟩⟩
 ·replace h := h.2 h24
  refine c_exit ?_
  first | (simp only [Exit.then, Exit.inBlock, ↓reduceIte]; fail_if_success simp only [Nat.reduceEqDiff]) | simp only [Exit.then, Exit.inBlock, ↓reduceIte, Nat.reduceEqDiff]
  refine hK16 _ _ <| c_seq fun K38 hK38 => c_reg <| s_idxA (i := 0) (len := 4) (size := 1) H rfl rfl rfl arr_125 (by decide) (by decide) (lt_ rfl) fun a H => ?_
  obtain ⟨l39, hc40, h⟩ := h
  refine s_load (v := (.i l39)) H rfl rfl one_3 hc40 (lt_ rfl) fun a H => s_idxA (i := 1) (len := 4) (size := 1) H rfl rfl rfl arr_125 (by decide) (by decide) (lt_ rfl) fun a H => ?_
  obtain ⟨l41, hc42, h⟩ := h
  refine s_load (v := (.i l41)) H rfl rfl one_3 hc42 (lt_ rfl) fun a H => s_idxA (i := 2) (len := 4) (size := 1) H rfl rfl rfl arr_125 (by decide) (by decide) (lt_ rfl) fun a H => ?_
  obtain ⟨l43, hc44, h⟩ := h
  refine s_load (v := (.i l43)) H rfl rfl one_3 hc44 (lt_ rfl) fun a H => s_build H rfl (by rw [H.parts (vs := [(0, (.i l39)), (1, (.i l41)), (2, (.i l43))]) rfl]; exact bd_34_ii640_ii641_ii642 w19 l39 l41 l43) (lt_ rfl) fun a H => s_idxA (i := 3) (len := 4) (size := 1) H rfl rfl rfl arr_125 (by decide) (by decide) (lt_ rfl) fun a H => ?_
  obtain ⟨l45, hc46, h⟩ := h
  refine s_load (v := (.i l45)) H rfl rfl one_3 hc46 (lt_ rfl) fun a H => s_build H rfl (by rw [H.parts (vs := [(0, (.agg #[(.i l39), (.i l41), (.i l43)])), (1, (.i l45))]) rfl]; exact bd_36_ii64ii64ii640_ii641 w19 l39 l41 l43 l45) (lt_ rfl) fun a H => ?_
  replace h := h.get
  obtain ⟨b47, w48, n49, h⟩ := h
  refine s_alloc H rfl zero_36 (lt_ rfl) ?_
  rw [← n49.at_]
  clear H a
  intro a H
  refine n49.go <| s_stoN (l := [(.i l39), (.i l41), (.i l43), (.i l45)]) H rfl rfl rfl rfl agg_36 rfl rfl h ?_
  clear h H
  intro w50 h H
  refine c_nil <| hK38 _ _ <| c_seq fun K51 hK51 => c_reg <| s_move H rfl rfl (lt_ rfl) fun a H => s_call H rfl body_79 (H.args (vs := [(.pointer N8)]) rfl) (lt_ rfl) h ?_ (fun c w' h H => e_panic (P := PP) (fn := Tryz.f52) H h)
  clear H h a
  rintro _ w52 a ⟨E53, rfl, h⟩ H
  refine s_bin H rfl rfl rfl r_eql (lt_ rfl) fun a H => s_move H rfl rfl (lt_ rfl) fun a H => g_join (n := 64) [(38, (.bool ((decide (E53 = 0)) && (decide (B11 = 72))))), (0, d1.v), (2, (.pointer (some (blk b3)))), (8, (.pointer (some (blk b47))))] (.succ (.succ (.succ (.zero _)))) ?_ ?_
  ·intro h55
   try clear h
   rcases Bool.eq_false_or_eq_true (decide (E53 = 0)) with h54 | h54
   ·replace H := H.ch (t := 35) (b := true) rfl h54
    refine s_move H (wantG H rfl rfl) rfl (lt_ rfl) fun a H => s_bin H (wantG H rfl rfl) rfl rfl r_eql (lt_ rfl) fun a H => s_pickT H rfl rfl rfl (lt_ rfl) fun a H => ?_
    exact h55 _ (H.weaken ⟨by rw [h54]; rfl, rfl, rfl, rfl, trivial⟩)
   ·replace H := H.ch (t := 35) (b := false) rfl h54
    refine s_skip H (wantN H rfl rfl rfl) rfl (lt_ rfl) fun a H => s_skip H (wantN H rfl rfl rfl) rfl (lt_ rfl) fun a H => s_pickF H rfl rfl rfl (lt_ rfl) fun a H => ?_
    exact h55 _ (H.weaken ⟨by rw [h54]; rfl, rfl, rfl, rfl, trivial⟩)
  ·clear H a
   intro a H
   refine s_move H rfl rfl (lt_ rfl) fun a H => ?_
   obtain ⟨R58, h, h134⟩ := h
   refine g_joinW (n := 64) R58 (fun x59 => [(43, (.bool x59)), (0, d1.v), (2, (.pointer (some (blk b3)))), (8, (.pointer (some (blk b47))))]) (.succ (.succ (.succ (.succ (.zero _))))) ?_ ?_
   ·intro h57
    clear h134
    rcases Bool.eq_false_or_eq_true ((decide (E53 = 0)) && (decide (B11 = 72))) with h56 | h56
    ·replace H := H.ch (t := 39) (b := true) rfl h56
     replace h := h.1 h56
     obtain ⟨N61, hc62, K63, hc64, D65, hc66, S67, hc68, h⟩ := h
     refine s_loadN (l := [(.i N61), (.i K63), (.i D65), (.i S67)]) H (wantG H rfl rfl) rfl agg_36 rfl ⟨hc62, hc64, hc66, hc68, trivial⟩ (lt_ rfl) fun a H => s_call H (wantG H rfl rfl) body_6 (H.args (vs := [(.agg #[(.i N61), (.i K63), (.i D65), (.i S67)])]) rfl) (lt_ rfl) h ?_ (fun c w' h H => e_panic (P := PP) (fn := Tryz.f52) H h)
     clear H h a
     rintro _ w69 a ⟨m70, rfl, h⟩ H
     refine s_bin H (wantG H rfl rfl) rfl rfl r_eql (lt_ rfl) fun a H => s_pickT H rfl rfl rfl (lt_ rfl) fun a H => ?_
     exact h57 _ _ _ h (H.weaken ⟨rfl, rfl, rfl, rfl, trivial⟩)
    ·replace H := H.ch (t := 39) (b := false) rfl h56
     replace h := h.2 h56
     iterate 3 refine s_skip H (wantN H rfl rfl rfl) rfl (lt_ rfl) fun a H => ?_
     refine s_pickF H rfl rfl rfl (lt_ rfl) fun a H => ?_
     exact h57 _ _ _ h (H.weaken ⟨rfl, rfl, rfl, rfl, trivial⟩)
   ·clear H a h
    intro a x59 w60 h H
    replace h := h134 x59 w60 h
    clear h134
    refine s_call H rfl body_78 (H.args (vs := [(.bool x59), (.i 63)]) rfl) (lt_ rfl) h ?_ (fun c w' h H => e_panic (P := PP) (fn := Tryz.f52) H h)
    clear H h a
    rintro _ w75 a ⟨rfl, h⟩ H
    refine c_nil <| hK51 _ _ <| c_seq fun K76 hK76 => c_reg ?_
    obtain ⟨N77, hc78, K79, hc80, D81, hc82, S83, hc84, h⟩ := h
    refine s_loadN (l := [(.i N77), (.i K79), (.i D81), (.i S83)]) H rfl rfl agg_36 rfl ⟨hc78, hc80, hc82, hc84, trivial⟩ (lt_ rfl) fun a H => s_call H rfl body_7 (H.args (vs := [(.agg #[(.i N77), (.i K79), (.i D81), (.i S83)])]) rfl) (lt_ rfl) h ?_ (fun c w' h H => e_panic (P := PP) (fn := Tryz.f52) H h)
    clear H h a
    rintro _ w85 a ⟨h86, rfl, h⟩ H
    refine s_assign H rfl rfl (lt_ rfl) fun a H => c_nil <| hK76 _ _ <| c_seq fun K87 hK87 => c_reg <| s_move H rfl rfl (lt_ rfl) fun a H => s_blt H rfl (H.args (vs := [d1.v]) rfl) (lt_ rfl) (fun cs => b_lenS (z := d1) sl_22) fun a H => s_move H rfl rfl (lt_ rfl) fun a H => s_blt H rfl (H.args (vs := [h86.v]) rfl) (lt_ rfl) (fun cs => b_lenS (z := h86) sl_22) fun a H => s_bin H rfl rfl rfl r_geq (lt_ rfl) fun a H => s_move H rfl rfl (lt_ rfl) fun a H => ?_
    obtain ⟨R90, h, h125⟩ := h
    refine g_joinW (n := 64) R90 (fun x91 => [(59, (.bool x91)), (2, (.pointer (some (blk b3)))), (8, (.pointer (some (blk b47)))), (9, h86.v)]) (.succ (.succ (.succ (.succ (.succ (.succ (.succ (.zero _)))))))) ?_ ?_
    ·intro h89
     clear h125
     rcases Bool.eq_false_or_eq_true (decide ((h86.l : Int) ≤ (d1.l : Int))) with h88 | h88
     ·replace H := H.ch (t := 52) (b := true) rfl h88
      replace h := h.1 h88
      refine s_move H (wantG H rfl rfl) rfl (lt_ rfl) fun a H => s_move H (wantG H rfl rfl) rfl (lt_ rfl) fun a H => s_blt H (wantG H rfl rfl) (H.args (vs := [h86.v]) rfl) (lt_ rfl) (fun cs => b_lenS (z := h86) sl_22) fun a H => ?_
      obtain ⟨h93, h94, h95, h⟩ := h
      refine s_slice (v := (Slc.v (d1.cut 1 (Int.toNat (0)) (Int.toNat ((h86.l : Int)))))) H (wantG H rfl rfl) rfl ⟨rfl, rfl⟩ ⟨rfl, rfl⟩ ⟨rfl, rfl⟩ (r_sliceSlc (lo := none) (hi := (some (.i64, (h86.l : Int)))) slc_22 rfl rfl h93 h94 h95) (lt_ rfl) fun a H => s_move H (wantG H rfl rfl) rfl (lt_ rfl) fun a H => ?_
      refine s_call H (wantG H rfl rfl) body_80 (H.args (vs := [(Slc.v (d1.cut 1 (Int.toNat (0)) (Int.toNat ((h86.l : Int))))), h86.v]) rfl) (lt_ rfl) h ?_ (fun c w' h H => e_panic (P := PP) (fn := Tryz.f52) H h)
      clear H h a
      rintro _ w96 a ⟨E97, rfl, h⟩ H
      refine s_pickT H rfl rfl rfl (lt_ rfl) fun a H => ?_
      exact h89 _ _ _ h (H.weaken ⟨rfl, rfl, rfl, rfl, trivial⟩)
     ·replace H := H.ch (t := 52) (b := false) rfl h88
      replace h := h.2 h88
      iterate 6 refine s_skip H (wantN H rfl rfl rfl) rfl (lt_ rfl) fun a H => ?_
      refine s_pickF H rfl rfl rfl (lt_ rfl) fun a H => ?_
      exact h89 _ _ _ h (H.weaken ⟨rfl, rfl, rfl, rfl, trivial⟩)
    ·clear H a h
     intro a x91 w92 h H
     replace h := h125 x91 w92 h
     clear h125
     refine s_call H rfl body_78 (H.args (vs := [(.bool x91), (.i 63)]) rfl) (lt_ rfl) h ?_ (fun c w' h H => e_panic (P := PP) (fn := Tryz.f52) H h)
     clear H h a
     rintro _ w102 a ⟨rfl, h⟩ H
     refine c_nil <| hK87 _ _ <| c_seq fun K103 hK103 => c_reg ?_
     obtain ⟨N104, hc105, K106, hc107, D108, hc109, S110, hc111, h⟩ := h
     refine s_loadN (l := [(.i N104), (.i K106), (.i D108), (.i S110)]) H rfl rfl agg_36 rfl ⟨hc105, hc107, hc109, hc111, trivial⟩ (lt_ rfl) fun a H => s_move H rfl rfl (lt_ rfl) fun a H => s_blt H rfl (H.args (vs := [h86.v]) rfl) (lt_ rfl) (fun cs => b_lenS (z := h86) sl_22) fun a H => s_stoN (l := [(.i N104), (.i K106), (.i D108), (.i S110)]) H rfl rfl rfl rfl agg_36 rfl rfl h ?_
     clear h H
     intro w112 h H
     refine s_assign H rfl rfl (lt_ rfl) fun a H => c_nil <| hK103 _ _ <| c_ret ?_
     obtain ⟨N113, hc114, K115, hc116, D117, hc118, S119, hc120, h⟩ := h
     exact e_ret2 H rfl ⟨_, rfl, run_loadN (l := [(.i N113), (.i K115), (.i D117), (.i S119)]) agg_36 rfl ⟨hc114, hc116, hc118, hc120, trivial⟩⟩ rfl h

theorem sim_record_Scan_c2 (c1 c2 : Addr) (w : World) (Q : Ending → World → Prop) (h : vc_record_Scan_c2 c1 c2 w Q) : Calls PP F_record_Scan_c2 #[(.pointer (some c1)), (.pointer (some c2))] w Q := by
 unfold vc_record_Scan_c2 at h
 refine enter (n := 11) Tryz.func53 rfl rfl (Nat.le_of_ble_eq_true rfl) fun a H => c_block ?_
 obtain ⟨I4, m5, h25, h26⟩ := h
 refine c_loop (σ := Unit) (fun z w => I4 w) (fun z w => m5 w) (fun z => [(0, (.pointer (some c1))), (1, (.pointer (some c2)))]) () h25 (H.weaken ⟨rfl, rfl, trivial⟩) ?_
 clear H h25
 rintro _ a w3 h H
 replace h := h26 w3 h
 clear h26
 replace H : Has 11 [] a [(0, (.pointer (some c1))), (1, (.pointer (some c2)))] := H
 refine c_seq fun K6 hK6 => c_seq fun K7 hK7 => c_regD mixed (by kernel_rfl) ?_
 obtain ⟨l9, hc10, h⟩ := h
 refine z_load (v := (.pointer l9)) H rfl rfl one_104 hc10 (lt_ rfl) fun a H => ?_
 obtain ⟨a11, h24, h⟩ := h
 subst h24
 refine z_nil H rfl rfl (lt_ rfl) fun a H => z_fld H rfl rfl fld_106_1 (lt_ rfl) fun a H => ?_
 obtain ⟨l12, hc13, h⟩ := h
 refine z_load (v := (.i l12)) H rfl rfl one_3 hc13 (lt_ rfl) fun a H => ?_
 obtain ⟨l14, hc15, h⟩ := h
 refine z_load (v := l14.v) H rfl rfl one_22 hc15 (lt_ rfl) fun a H => z_blt H rfl (H.args (vs := [l14.v]) rfl) (lt_ rfl) (fun cs w => b_lenS (z := l14) sl_22) fun a H => z_bin H rfl rfl rfl r_lss (lt_ rfl) fun a H => wpQuiet_nil ?_
 rintro _ ⟨k8, rfl⟩
 replace h := h k8
 refine hK7 _ _ <| c_cond H rfl (fun h16 => ?_) (fun h16 => ?_)
 ·replace h := h.1 h16
  refine c_skip <| hK6 _ _ <| c_block <| c_reg ?_
  obtain ⟨l17, hc18, h⟩ := h
  refine s_load (v := (.pointer l17)) H rfl rfl one_104 hc18 (lt_ rfl) fun a H => s_call H rfl body_54 (H.args (vs := [(.pointer l17)]) rfl) (lt_ rfl) h ?_ (fun c w' h H => e_panic (P := PP) (fn := Tryz.f53) H h)
  clear H h a
  rintro _ w19 a ⟨rfl, h⟩ H
  refine c_nil <| Exists.intro () ⟨h.1, h.2, H.weaken ⟨rfl, rfl, trivial⟩⟩
 ·replace h := h.2 h16
  refine c_exit ?_
  first | (simp only [Exit.then, Exit.inBlock, ↓reduceIte]; fail_if_success simp only [Nat.reduceEqDiff]) | simp only [Exit.then, Exit.inBlock, ↓reduceIte, Nat.reduceEqDiff]
  exact e_ret0 H rfl h

theorem sim_record_scanner_next (s1 : Option Addr) (w : World) (Q : Ending → World → Prop) (h : vc_record_scanner_next s1 w Q) : Calls PP F_record_scanner_next #[(.pointer s1)] w Q := by
 unfold vc_record_scanner_next at h
 refine enter (n := 124) Tryz.func54 rfl rfl (Nat.le_of_ble_eq_true rfl) fun a H => c_seq fun K2 hK2 => c_regD mixed (by kernel_rfl) <| z_move H rfl rfl (lt_ rfl) fun a H => ?_
 obtain ⟨a4, h178, h⟩ := h
 subst h178
 refine z_nil H rfl rfl (lt_ rfl) fun a H => z_fld H rfl rfl fld_106_0 (lt_ rfl) fun a H => ?_
 obtain ⟨l5, hc6, h⟩ := h
 refine z_load (v := l5.v) H rfl rfl one_22 hc6 (lt_ rfl) fun a H => z_move H rfl rfl (lt_ rfl) fun a H => z_nil H rfl rfl (lt_ rfl) fun a H => z_fld H rfl rfl fld_106_1 (lt_ rfl) fun a H => ?_
 obtain ⟨l7, hc8, h⟩ := h
 refine z_load (v := (.i l7)) H rfl rfl one_3 hc8 (lt_ rfl) fun a H => ?_
 obtain ⟨h9, h10, h11, h⟩ := h
 refine z_slice (v := (Slc.v (l5.cut 1 (Int.toNat (l7)) (Int.toNat ((l5.l : Int)))))) H rfl rfl ⟨rfl, rfl⟩ ⟨rfl, rfl⟩ ⟨rfl, rfl⟩ (fun w => r_sliceSlc (lo := (some (.i64, l7))) (hi := none) slc_22 rfl rfl h9 h10 h11) (lt_ rfl) fun a H => z_assign H rfl rfl (lt_ rfl) fun a H => wpQuiet_nil ?_
 rintro _ ⟨k3, rfl⟩
 replace h := h k3
 refine hK2 _ _ <| c_seq fun K12 hK12 => c_reg <| s_move H rfl rfl (lt_ rfl) fun a H => ?_
 obtain ⟨a13, h14, h15, h16, h⟩ := h
 refine s_idxS (s := l5.cut 1 (Int.toNat (l7)) (Int.toNat ((l5.l : Int)))) H rfl rfl rfl slc_22 h14 h15 h16 (lt_ rfl) fun a H => ?_
 obtain ⟨l17, hc18, h⟩ := h
 refine s_load (v := (.int .u8 l17)) H rfl rfl one_5 hc18 (lt_ rfl) fun a H => s_bin H rfl rfl rfl r_eql (lt_ rfl) fun a H => s_call H rfl body_78 (H.args (vs := [(.bool (decide (l17 = 82))), (.i 32)]) rfl) (lt_ rfl) h ?_ (fun c w' h H => e_panic (P := PP) (fn := Tryz.f54) H h)
 clear H h a
 rintro _ w19 a ⟨rfl, h⟩ H
 refine c_nil <| hK12 _ _ <| c_seq fun K20 hK20 => c_reg <| s_move H rfl rfl (lt_ rfl) fun a H => s_move H rfl rfl (lt_ rfl) fun a H => s_blt H rfl (H.args (vs := [(Slc.v (l5.cut 1 (Int.toNat (l7)) (Int.toNat ((l5.l : Int)))))]) rfl) (lt_ rfl) (fun cs => b_lenS (z := l5.cut 1 (Int.toNat (l7)) (Int.toNat ((l5.l : Int)))) sl_22) fun a H => ?_
 refine s_blt H rfl (H.args (vs := [(.i ((l5.cut 1 (Int.toNat (l7)) (Int.toNat ((l5.l : Int)))).l : Int)), (.i 11)]) rfl) (lt_ rfl) (fun cs => b_min) fun a H => ?_
 obtain ⟨h21, h22, h23, h⟩ := h
 refine s_slice (v := (Slc.v ((l5.cut 1 (Int.toNat (l7)) (Int.toNat ((l5.l : Int)))).cut 1 (Int.toNat (1)) (Int.toNat (minI ((l5.cut 1 (Int.toNat (l7)) (Int.toNat ((l5.l : Int)))).l : Int) 11))))) H rfl rfl ⟨rfl, rfl⟩ ⟨rfl, rfl⟩ ⟨rfl, rfl⟩ (r_sliceSlc (lo := (some (.i64, 1))) (hi := (some (.i64, minI ((l5.cut 1 (Int.toNat (l7)) (Int.toNat ((l5.l : Int)))).l : Int) 11))) slc_22 rfl rfl h21 h22 h23) (lt_ rfl) fun a H => ?_
 refine s_call H rfl body_75 (H.args (vs := [(Slc.v ((l5.cut 1 (Int.toNat (l7)) (Int.toNat ((l5.l : Int)))).cut 1 (Int.toNat (1)) (Int.toNat (minI ((l5.cut 1 (Int.toNat (l7)) (Int.toNat ((l5.l : Int)))).l : Int) 11))))]) rfl) (lt_ rfl) h ?_ (fun c w' h H => e_panic (P := PP) (fn := Tryz.f54) H h)
 clear H h a
 rintro _ w24 a ⟨N25, rfl, h⟩ H
 refine s_assign H rfl rfl (lt_ rfl) fun a H => c_nil <| hK20 _ _ <| c_seq fun K26 hK26 => c_reg <| s_move H rfl rfl (lt_ rfl) fun a H => s_call H rfl body_77 (H.args (vs := [(.pointer N25), (.i 66000)]) rfl) (lt_ rfl) h ?_ (fun c w' h H => e_panic (P := PP) (fn := Tryz.f54) H h)
 clear H h a
 rintro _ w27 a ⟨U28, rfl, h⟩ H
 refine s_assign H rfl rfl (lt_ rfl) fun a H => c_nil <| hK26 _ _ <| c_seq fun K29 hK29 => ?_
 obtain ⟨R30, h, h165⟩ := h
 have h153 : ∀ (a : Act) (w31 : World), R30 w31 → Has 124 [] a [(0, (.pointer (some a4))), (2, (Slc.v (l5.cut 1 (Int.toNat (l7)) (Int.toNat ((l5.l : Int)))))), (3, (.pointer N25)), (4, (.i U28))] → K29 a w31 := by
  clear h
  intro a w31 h H
  replace h := h165 w31 h
  refine hK29 _ _ <| c_seq fun K32 hK32 => c_reg <| s_move H rfl rfl (lt_ rfl) fun a H => s_call H rfl body_81 (H.args (vs := [(.pointer N25)]) rfl) (lt_ rfl) h ?_ (fun c w' h H => e_panic (P := PP) (fn := Tryz.f54) H h)
  clear H h a
  rintro _ w33 a ⟨A34, rfl, h⟩ H
  refine s_bin H rfl rfl rfl r_add (lt_ rfl) fun a H => s_assign H rfl rfl (lt_ rfl) fun a H => c_nil <| hK32 _ _ <| c_seq fun K35 hK35 => c_reg <| s_move H rfl rfl (lt_ rfl) fun a H => s_move H rfl rfl (lt_ rfl) fun a H => s_bin H rfl rfl rfl r_add (lt_ rfl) fun a H => s_assign H rfl rfl (lt_ rfl) fun a H => c_nil <| hK35 _ _ <| c_seq fun K36 hK36 => c_reg <| s_move H rfl rfl (lt_ rfl) fun a H => ?_
  refine s_blt H rfl (H.args (vs := [(Slc.v (l5.cut 1 (Int.toNat (l7)) (Int.toNat ((l5.l : Int)))))]) rfl) (lt_ rfl) (fun cs => b_lenS (z := l5.cut 1 (Int.toNat (l7)) (Int.toNat ((l5.l : Int)))) sl_22) fun a H => s_move H rfl rfl (lt_ rfl) fun a H => s_bin H rfl rfl rfl r_add (lt_ rfl) fun a H => s_bin H rfl rfl rfl r_geq (lt_ rfl) fun a H => ?_
  refine s_call H rfl body_78 (H.args (vs := [(.bool (decide ((wr .i64 ((wr .i64 ((wr .i64 (1 + A34)) + U28)) + 4)) ≤ ((l5.cut 1 (Int.toNat (l7)) (Int.toNat ((l5.l : Int)))).l : Int)))), (.i 30)]) rfl) (lt_ rfl) h ?_ (fun c w' h H => e_panic (P := PP) (fn := Tryz.f54) H h)
  clear H h a
  rintro _ w37 a ⟨rfl, h⟩ H
  refine c_nil <| hK36 _ _ <| c_seq fun K38 hK38 => ?_
  replace H := H.weaken (L' := [(0, (.pointer (some a4))), (2, (Slc.v (l5.cut 1 (Int.toNat (l7)) (Int.toNat ((l5.l : Int)))))), (5, (.i (wr .i64 (1 + A34)))), (6, (.i (wr .i64 ((wr .i64 (1 + A34)) + U28))))]) ⟨rfl, rfl, rfl, rfl, trivial⟩
  obtain ⟨l39, hc40, a41, h42, h⟩ := h
  subst h42
  obtain ⟨l43, hc44, h45, h46, h47, h⟩ := h
  refine c_any (V := [(0, (.pointer (some a4))), (1, (.pointer (some a4))), (2, (.pointer (some (a4.add 2)))), (3, (.pointer (some a41))), (4, (.pointer (some a41))), (5, (.pointer (some (a41.add 0)))), (6, l43.v), (7, (Slc.v (l5.cut 1 (Int.toNat (l7)) (Int.toNat ((l5.l : Int)))))), (8, (.i (wr .i64 ((wr .i64 (1 + A34)) + U28)))), (9, (Slc.v ((l5.cut 1 (Int.toNat (l7)) (Int.toNat ((l5.l : Int)))).cut 1 (Int.toNat (0)) (Int.toNat (wr .i64 ((wr .i64 (1 + A34)) + U28))))))]) (⟨[[], [0], [1], [2], [3], [4], [5], [], [], [7, 8], [6, 9], [10], [11], [0, 1, 2, 3, 4, 5, 6, 7, 8, 9, 10, 11, 12]], [some 50, some 51, some 52, some 53, some 54, some 55, some 56, some 57, some 58, some 59, some 60, some 61, some 62, some 7], [10, 11, 12], [0, 0, 0, 0, 0, 0, 0, 0, 0, 0, 0, 1, 2, 3], [0, 0, 0, 0, 0, 0, 0, 0, 0, 0, 1, 2, 3, 3]⟩ : Rg) [(0, (.pointer (some a4))), (2, (Slc.v (l5.cut 1 (Int.toNat (l7)) (Int.toNat ((l5.l : Int)))))), (5, (.i (wr .i64 (1 + A34)))), (6, (.i (wr .i64 ((wr .i64 (1 + A34)) + U28))))] mixed (by kernel_rfl) H ?_
  refine Stg.eff [0, 1, 2, 3, 4, 5, 6, 7, 8, 9] (by kernel_rfl) rfl (.cons ?_ (.cons ?_ (.cons ?_ (.cons ?_ (.cons ?_ (.cons ?_ (.cons ?_ (.cons ?_ (.cons ?_ (.cons ?_ .nil)))))))))) ?_
  ·refine Ans.mk rfl rfl fun a H => ?_
   replace H := H.weaken (L' := [(0, (.pointer (some a4)))]) ⟨rfl, trivial⟩
   refine s_move H rfl rfl (lt_ rfl) fun a H => c_nil ⟨rfl, rfl, H.weaken (L' := [(50, (.pointer (some a4)))]) ⟨rfl, trivial⟩⟩
  ·refine Ans.mk rfl rfl fun a H => ?_
   replace H := H.weaken (L' := [(50, (.pointer (some a4)))]) ⟨rfl, trivial⟩
   refine s_nil H rfl rfl (lt_ rfl) fun a H => c_nil ⟨rfl, rfl, H.weaken (L' := [(51, (.pointer (some a4)))]) ⟨rfl, trivial⟩⟩
  ·refine Ans.mk rfl rfl fun a H => ?_
   replace H := H.weaken (L' := [(51, (.pointer (some a4)))]) ⟨rfl, trivial⟩
   refine s_fld H rfl rfl fld_106_2 (lt_ rfl) fun a H => c_nil ⟨rfl, rfl, H.weaken (L' := [(52, (.pointer (some (a4.add 2))))]) ⟨rfl, trivial⟩⟩
  ·refine Ans.mk rfl rfl fun a H => ?_
   replace H := H.weaken (L' := [(52, (.pointer (some (a4.add 2))))]) ⟨rfl, trivial⟩
   refine s_load (v := (.pointer (some a41))) H rfl rfl one_29 hc40 (lt_ rfl) fun a H => c_nil ⟨rfl, rfl, H.weaken (L' := [(53, (.pointer (some a41)))]) ⟨rfl, trivial⟩⟩
  ·refine Ans.mk rfl rfl fun a H => ?_
   replace H := H.weaken (L' := [(53, (.pointer (some a41)))]) ⟨rfl, trivial⟩
   refine s_nil H rfl rfl (lt_ rfl) fun a H => c_nil ⟨rfl, rfl, H.weaken (L' := [(54, (.pointer (some a41)))]) ⟨rfl, trivial⟩⟩
  ·refine Ans.mk rfl rfl fun a H => ?_
   replace H := H.weaken (L' := [(54, (.pointer (some a41)))]) ⟨rfl, trivial⟩
   refine s_fld H rfl rfl fld_42_0 (lt_ rfl) fun a H => c_nil ⟨rfl, rfl, H.weaken (L' := [(55, (.pointer (some (a41.add 0))))]) ⟨rfl, trivial⟩⟩
  ·refine Ans.mk rfl rfl fun a H => ?_
   replace H := H.weaken (L' := [(55, (.pointer (some (a41.add 0))))]) ⟨rfl, trivial⟩
   refine s_load (v := l43.v) H rfl rfl one_22 hc44 (lt_ rfl) fun a H => c_nil ⟨rfl, rfl, H.weaken (L' := [(56, l43.v)]) ⟨rfl, trivial⟩⟩
  ·refine Ans.mk rfl rfl fun a H => ?_
   replace H := H.weaken (L' := [(2, (Slc.v (l5.cut 1 (Int.toNat (l7)) (Int.toNat ((l5.l : Int))))))]) ⟨rfl, trivial⟩
   refine s_move H rfl rfl (lt_ rfl) fun a H => c_nil ⟨rfl, rfl, H.weaken (L' := [(57, (Slc.v (l5.cut 1 (Int.toNat (l7)) (Int.toNat ((l5.l : Int))))))]) ⟨rfl, trivial⟩⟩
  ·refine Ans.mk rfl rfl fun a H => ?_
   replace H := H.weaken (L' := [(6, (.i (wr .i64 ((wr .i64 (1 + A34)) + U28))))]) ⟨rfl, trivial⟩
   refine s_move H rfl rfl (lt_ rfl) fun a H => c_nil ⟨rfl, rfl, H.weaken (L' := [(58, (.i (wr .i64 ((wr .i64 (1 + A34)) + U28))))]) ⟨rfl, trivial⟩⟩
  ·refine Ans.mk rfl rfl fun a H => ?_
   replace H := H.weaken (L' := [(57, (Slc.v (l5.cut 1 (Int.toNat (l7)) (Int.toNat ((l5.l : Int)))))), (58, (.i (wr .i64 ((wr .i64 (1 + A34)) + U28))))]) ⟨rfl, rfl, trivial⟩
   refine s_slice (v := (Slc.v ((l5.cut 1 (Int.toNat (l7)) (Int.toNat ((l5.l : Int)))).cut 1 (Int.toNat (0)) (Int.toNat (wr .i64 ((wr .i64 (1 + A34)) + U28)))))) H rfl rfl ⟨rfl, rfl⟩ ⟨rfl, rfl⟩ ⟨rfl, rfl⟩ (r_sliceSlc (lo := none) (hi := (some (.i64, wr .i64 ((wr .i64 (1 + A34)) + U28)))) slc_22 rfl rfl h45 h46 h47) (lt_ rfl) fun a H => ?_
   refine c_nil ⟨rfl, rfl, H.weaken (L' := [(59, (Slc.v ((l5.cut 1 (Int.toNat (l7)) (Int.toNat ((l5.l : Int)))).cut 1 (Int.toNat (0)) (Int.toNat (wr .i64 ((wr .i64 (1 + A34)) + U28))))))]) ⟨rfl, trivial⟩⟩
  ·intro a H
   replace H := H.weaken (L' := [(56, l43.v), (59, (Slc.v ((l5.cut 1 (Int.toNat (l7)) (Int.toNat ((l5.l : Int)))).cut 1 (Int.toNat (0)) (Int.toNat (wr .i64 ((wr .i64 (1 + A34)) + U28))))))]) ⟨rfl, rfl, trivial⟩
   replace h := h.get
   obtain ⟨b48, w49, n50, h⟩ := h
   refine s_bslc H rfl (by rw [H.parts (vs := [(0, l43.v), (1, (Slc.v ((l5.cut 1 (Int.toNat (l7)) (Int.toNat ((l5.l : Int)))).cut 1 (Int.toNat (0)) (Int.toNat (wr .i64 ((wr .i64 (1 + A34)) + U28))))))]) rfl]; exact bs_55_2_s0_s1 (w37.drewN 1) l43 ((l5.cut 1 (Int.toNat (l7)) (Int.toNat ((l5.l : Int)))).cut 1 (Int.toNat (0)) (Int.toNat (wr .i64 ((wr .i64 (1 + A34)) + U28))))) (lt_ rfl) ?_
   rw [← n50.at_]
   clear H a
   intro a H
   refine n50.go <| c_nil ?_
   refine effQ.ok (v := (Slc.v (Slc.mk (some (blk b48)) 2 2))) (H.weaken (L' := [(60, (Slc.v (Slc.mk (some (blk b48)) 2 2)))]) ⟨rfl, trivial⟩) ⟨[(0, (.pointer (some a4))), (1, (.pointer (some a4))), (2, (.pointer (some (a4.add 2)))), (3, (.pointer (some a41))), (4, (.pointer (some a41))), (5, (.pointer (some (a41.add 0)))), (6, l43.v), (7, (Slc.v (l5.cut 1 (Int.toNat (l7)) (Int.toNat ((l5.l : Int)))))), (8, (.i (wr .i64 ((wr .i64 (1 + A34)) + U28)))), (9, (Slc.v ((l5.cut 1 (Int.toNat (l7)) (Int.toNat ((l5.l : Int)))).cut 1 (Int.toNat (0)) (Int.toNat (wr .i64 ((wr .i64 (1 + A34)) + U28)))))), (10, (Slc.v (Slc.mk (some (blk b48)) 2 2)))], ⟨rfl, rfl, rfl, rfl, rfl, rfl, rfl, rfl, rfl, rfl, rfl, trivial⟩, ?_⟩
   refine Stg.eff [] (by kernel_rfl) rfl .nil ?_
   ·intro a H
    replace H := H.weaken (L' := [(60, (Slc.v (Slc.mk (some (blk b48)) 2 2)))]) ⟨rfl, trivial⟩
    refine s_call H rfl body_27 (H.args (vs := [(Slc.v (Slc.mk (some (blk b48)) 2 2))]) rfl) (lt_ rfl) h ?_ (fun c w' h H => e_panic (P := PP) (fn := Tryz.f54) H h)
    clear H h a
    rintro _ w51 a ⟨O52, rfl, h⟩ H
    refine c_nil ?_
    refine effQ.ok (v := (.int .u32 O52)) (H.weaken (L' := [(61, (.int .u32 O52))]) ⟨rfl, trivial⟩) ⟨[(0, (.pointer (some a4))), (1, (.pointer (some a4))), (2, (.pointer (some (a4.add 2)))), (3, (.pointer (some a41))), (4, (.pointer (some a41))), (5, (.pointer (some (a41.add 0)))), (6, l43.v), (7, (Slc.v (l5.cut 1 (Int.toNat (l7)) (Int.toNat ((l5.l : Int)))))), (8, (.i (wr .i64 ((wr .i64 (1 + A34)) + U28)))), (9, (Slc.v ((l5.cut 1 (Int.toNat (l7)) (Int.toNat ((l5.l : Int)))).cut 1 (Int.toNat (0)) (Int.toNat (wr .i64 ((wr .i64 (1 + A34)) + U28)))))), (10, (Slc.v (Slc.mk (some (blk b48)) 2 2))), (11, (.int .u32 O52))], ⟨rfl, rfl, rfl, rfl, rfl, rfl, rfl, rfl, rfl, rfl, rfl, rfl, trivial⟩, ?_⟩
    refine Stg.eff [] (by kernel_rfl) rfl .nil ?_
    ·intro a H
     replace H := H.weaken (L' := [(61, (.int .u32 O52))]) ⟨rfl, trivial⟩
     refine s_call H rfl body_26 (H.args (vs := [(.int .u32 O52)]) rfl) (lt_ rfl) h ?_ (fun c w' h H => e_panic (P := PP) (fn := Tryz.f54) H h)
     clear H h a
     rintro _ w53 a ⟨f54, rfl, h⟩ H
     refine c_nil ?_
     refine effQ.ok (v := f54.v) (H.weaken (L' := [(62, f54.v)]) ⟨rfl, trivial⟩) ⟨[(0, (.pointer (some a4))), (1, (.pointer (some a4))), (2, (.pointer (some (a4.add 2)))), (3, (.pointer (some a41))), (4, (.pointer (some a41))), (5, (.pointer (some (a41.add 0)))), (6, l43.v), (7, (Slc.v (l5.cut 1 (Int.toNat (l7)) (Int.toNat ((l5.l : Int)))))), (8, (.i (wr .i64 ((wr .i64 (1 + A34)) + U28)))), (9, (Slc.v ((l5.cut 1 (Int.toNat (l7)) (Int.toNat ((l5.l : Int)))).cut 1 (Int.toNat (0)) (Int.toNat (wr .i64 ((wr .i64 (1 + A34)) + U28)))))), (10, (Slc.v (Slc.mk (some (blk b48)) 2 2))), (11, (.int .u32 O52)), (12, f54.v), (13, f54.v)], ⟨rfl, rfl, rfl, rfl, rfl, rfl, rfl, rfl, rfl, rfl, rfl, rfl, rfl, trivial⟩, ?_⟩
     refine Stg.fin [13] (by kernel_rfl) (.cons ?_ .nil) ?_
     ·refine Ans.mk rfl rfl fun a H => ?_
      replace H := H.weaken (L' := [(62, f54.v)]) ⟨rfl, trivial⟩
      refine s_assign H rfl rfl (lt_ rfl) fun a H => c_nil ⟨rfl, rfl, H.weaken (L' := [(7, f54.v)]) ⟨rfl, trivial⟩⟩
     ·intro a H
      replace H := H.weaken (L' := [(0, (.pointer (some a4))), (2, (Slc.v (l5.cut 1 (Int.toNat (l7)) (Int.toNat ((l5.l : Int)))))), (5, (.i (wr .i64 (1 + A34)))), (6, (.i (wr .i64 ((wr .i64 (1 + A34)) + U28)))), (7, f54.v)]) ⟨rfl, rfl, rfl, rfl, rfl, trivial⟩
      refine hK38 _ _ <| c_seq fun K55 hK55 => c_reg ?_
      iterate 4 refine s_move H rfl rfl (lt_ rfl) fun a H => ?_
      refine s_bin H rfl rfl rfl r_add (lt_ rfl) fun a H => ?_
      obtain ⟨h56, h57, h58, h⟩ := h
      refine s_slice (v := (Slc.v ((l5.cut 1 (Int.toNat (l7)) (Int.toNat ((l5.l : Int)))).cut 1 (Int.toNat (wr .i64 ((wr .i64 (1 + A34)) + U28))) (Int.toNat (wr .i64 ((wr .i64 ((wr .i64 (1 + A34)) + U28)) + 4)))))) H rfl rfl ⟨rfl, rfl⟩ ⟨rfl, rfl⟩ ⟨rfl, rfl⟩ (r_sliceSlc (lo := (some (.i64, wr .i64 ((wr .i64 (1 + A34)) + U28)))) (hi := (some (.i64, wr .i64 ((wr .i64 ((wr .i64 (1 + A34)) + U28)) + 4)))) slc_22 rfl rfl h56 h57 h58) (lt_ rfl) fun a H => ?_
      refine s_call H rfl body_80 (H.args (vs := [f54.v, (Slc.v ((l5.cut 1 (Int.toNat (l7)) (Int.toNat ((l5.l : Int)))).cut 1 (Int.toNat (wr .i64 ((wr .i64 (1 + A34)) + U28))) (Int.toNat (wr .i64 ((wr .i64 ((wr .i64 (1 + A34)) + U28)) + 4)))))]) rfl) (lt_ rfl) h ?_ (fun c w' h H => e_panic (P := PP) (fn := Tryz.f54) H h)
      clear H h a
      rintro _ w59 a ⟨E60, rfl, h⟩ H
      refine s_call H rfl body_78 (H.args (vs := [(.bool E60), (.i 34)]) rfl) (lt_ rfl) h ?_ (fun c w' h H => e_panic (P := PP) (fn := Tryz.f54) H h)
      clear H h a
      rintro _ w61 a ⟨rfl, h⟩ H
      refine c_nil <| hK55 _ _ <| c_seq fun K62 hK62 => ?_
      replace H := H.weaken (L' := [(0, (.pointer (some a4))), (2, (Slc.v (l5.cut 1 (Int.toNat (l7)) (Int.toNat ((l5.l : Int)))))), (5, (.i (wr .i64 (1 + A34)))), (6, (.i (wr .i64 ((wr .i64 (1 + A34)) + U28)))), (7, f54.v)]) ⟨rfl, rfl, rfl, rfl, rfl, trivial⟩
      obtain ⟨l63, hc64, h65, h66, h67, h⟩ := h
      refine c_any (V := [(0, (.pointer (some a4))), (1, (.pointer (some a4))), (2, (.pointer (some a4))), (3, (.pointer (some (a4.add 3)))), (4, l63.v), (5, (Slc.v (l5.cut 1 (Int.toNat (l7)) (Int.toNat ((l5.l : Int)))))), (6, (.i (wr .i64 (1 + A34)))), (7, (.i (wr .i64 ((wr .i64 (1 + A34)) + U28)))), (8, (Slc.v ((l5.cut 1 (Int.toNat (l7)) (Int.toNat ((l5.l : Int)))).cut 1 (Int.toNat (wr .i64 (1 + A34))) (Int.toNat (wr .i64 ((wr .i64 (1 + A34)) + U28))))))]) (⟨[[], [], [1], [2], [3], [], [], [], [5, 6, 7], [8], [9], [4, 9, 10], [0, 1, 2, 3, 4, 5, 6, 7, 8, 9, 10, 11], [0, 1, 2, 3, 4, 5, 6, 7, 8, 9, 10, 11, 12], [0, 1, 2, 3, 4, 5, 6, 7, 8, 9, 10, 11, 13]], [some 71, some 72, some 73, some 74, some 75, some 76, some 77, some 78, some 79, some 80, some 81, some 82, some 83, some 84, none], [9, 10, 11, 14], [0, 0, 0, 0, 0, 0, 0, 0, 0, 0, 1, 2, 3, 3, 3], [3, 2, 2, 2, 2, 0, 0, 0, 0, 1, 2, 3, 3, 3, 4]⟩ : Rg) [(0, (.pointer (some a4))), (2, (Slc.v (l5.cut 1 (Int.toNat (l7)) (Int.toNat ((l5.l : Int)))))), (5, (.i (wr .i64 (1 + A34)))), (6, (.i (wr .i64 ((wr .i64 (1 + A34)) + U28)))), (7, f54.v)] mixed (by kernel_rfl) H ?_
      refine Stg.eff [0, 1, 2, 3, 4, 5, 6, 7, 8] (by kernel_rfl) rfl (.cons ?_ (.cons ?_ (.cons ?_ (.cons ?_ (.cons ?_ (.cons ?_ (.cons ?_ (.cons ?_ (.cons ?_ .nil))))))))) ?_
      ·refine Ans.mk rfl rfl fun a H => ?_
       replace H := H.weaken (L' := [(0, (.pointer (some a4)))]) ⟨rfl, trivial⟩
       refine s_move H rfl rfl (lt_ rfl) fun a H => c_nil ⟨rfl, rfl, H.weaken (L' := [(71, (.pointer (some a4)))]) ⟨rfl, trivial⟩⟩
      ·refine Ans.mk rfl rfl fun a H => ?_
       replace H := H.weaken (L' := [(0, (.pointer (some a4)))]) ⟨rfl, trivial⟩
       refine s_move H rfl rfl (lt_ rfl) fun a H => c_nil ⟨rfl, rfl, H.weaken (L' := [(72, (.pointer (some a4)))]) ⟨rfl, trivial⟩⟩
      ·refine Ans.mk rfl rfl fun a H => ?_
       replace H := H.weaken (L' := [(72, (.pointer (some a4)))]) ⟨rfl, trivial⟩
       refine s_nil H rfl rfl (lt_ rfl) fun a H => c_nil ⟨rfl, rfl, H.weaken (L' := [(73, (.pointer (some a4)))]) ⟨rfl, trivial⟩⟩
      ·refine Ans.mk rfl rfl fun a H => ?_
       replace H := H.weaken (L' := [(73, (.pointer (some a4)))]) ⟨rfl, trivial⟩
       refine s_fld H rfl rfl fld_106_3 (lt_ rfl) fun a H => c_nil ⟨rfl, rfl, H.weaken (L' := [(74, (.pointer (some (a4.add 3))))]) ⟨rfl, trivial⟩⟩
      ·refine Ans.mk rfl rfl fun a H => ?_
       replace H := H.weaken (L' := [(74, (.pointer (some (a4.add 3))))]) ⟨rfl, trivial⟩
       refine s_load (v := l63.v) H rfl rfl one_43 hc64 (lt_ rfl) fun a H => c_nil ⟨rfl, rfl, H.weaken (L' := [(75, l63.v)]) ⟨rfl, trivial⟩⟩
      ·refine Ans.mk rfl rfl fun a H => ?_
       replace H := H.weaken (L' := [(2, (Slc.v (l5.cut 1 (Int.toNat (l7)) (Int.toNat ((l5.l : Int))))))]) ⟨rfl, trivial⟩
       refine s_move H rfl rfl (lt_ rfl) fun a H => c_nil ⟨rfl, rfl, H.weaken (L' := [(76, (Slc.v (l5.cut 1 (Int.toNat (l7)) (Int.toNat ((l5.l : Int))))))]) ⟨rfl, trivial⟩⟩
      ·refine Ans.mk rfl rfl fun a H => ?_
       replace H := H.weaken (L' := [(5, (.i (wr .i64 (1 + A34))))]) ⟨rfl, trivial⟩
       refine s_move H rfl rfl (lt_ rfl) fun a H => c_nil ⟨rfl, rfl, H.weaken (L' := [(77, (.i (wr .i64 (1 + A34))))]) ⟨rfl, trivial⟩⟩
      ·refine Ans.mk rfl rfl fun a H => ?_
       replace H := H.weaken (L' := [(6, (.i (wr .i64 ((wr .i64 (1 + A34)) + U28))))]) ⟨rfl, trivial⟩
       refine s_move H rfl rfl (lt_ rfl) fun a H => c_nil ⟨rfl, rfl, H.weaken (L' := [(78, (.i (wr .i64 ((wr .i64 (1 + A34)) + U28))))]) ⟨rfl, trivial⟩⟩
      ·refine Ans.mk rfl rfl fun a H => ?_
       replace H := H.weaken (L' := [(76, (Slc.v (l5.cut 1 (Int.toNat (l7)) (Int.toNat ((l5.l : Int)))))), (77, (.i (wr .i64 (1 + A34)))), (78, (.i (wr .i64 ((wr .i64 (1 + A34)) + U28))))]) ⟨rfl, rfl, rfl, trivial⟩
       refine s_slice (v := (Slc.v ((l5.cut 1 (Int.toNat (l7)) (Int.toNat ((l5.l : Int)))).cut 1 (Int.toNat (wr .i64 (1 + A34))) (Int.toNat (wr .i64 ((wr .i64 (1 + A34)) + U28)))))) H rfl rfl ⟨rfl, rfl⟩ ⟨rfl, rfl⟩ ⟨rfl, rfl⟩ (r_sliceSlc (lo := (some (.i64, wr .i64 (1 + A34)))) (hi := (some (.i64, wr .i64 ((wr .i64 (1 + A34)) + U28)))) slc_22 rfl rfl h65 h66 h67) (lt_ rfl) fun a H => ?_
       refine c_nil ⟨rfl, rfl, H.weaken (L' := [(79, (Slc.v ((l5.cut 1 (Int.toNat (l7)) (Int.toNat ((l5.l : Int)))).cut 1 (Int.toNat (wr .i64 (1 + A34))) (Int.toNat (wr .i64 ((wr .i64 (1 + A34)) + U28))))))]) ⟨rfl, trivial⟩⟩
      ·intro a H
       replace H := H.weaken (L' := [(79, (Slc.v ((l5.cut 1 (Int.toNat (l7)) (Int.toNat ((l5.l : Int)))).cut 1 (Int.toNat (wr .i64 (1 + A34))) (Int.toNat (wr .i64 ((wr .i64 (1 + A34)) + U28))))))]) ⟨rfl, trivial⟩
       refine s_call H rfl body_82 (H.args (vs := [(Slc.v ((l5.cut 1 (Int.toNat (l7)) (Int.toNat ((l5.l : Int)))).cut 1 (Int.toNat (wr .i64 (1 + A34))) (Int.toNat (wr .i64 ((wr .i64 (1 + A34)) + U28)))))]) rfl) (lt_ rfl) h ?_ (fun c w' h H => e_panic (P := PP) (fn := Tryz.f54) H h)
       clear H h a
       rintro _ w68 a ⟨K69, K70, C71, C72, F73, H74, D75, rfl, h⟩ H
       refine c_nil ?_
       obtain ⟨hc76, h⟩ := h
       refine effQ.ok (v := (.agg #[(.i K69), (.string K70), (.i C71), (.i C72), (.bool F73), (.bool H74), D75.v])) (H.weaken (L' := [(80, (.agg #[(.i K69), (.string K70), (.i C71), (.i C72), (.bool F73), (.bool H74), D75.v]))]) ⟨rfl, trivial⟩) ⟨[(0, (.pointer (some a4))), (1, (.pointer (some a4))), (2, (.pointer (some a4))), (3, (.pointer (some (a4.add 3)))), (4, l63.v), (5, (Slc.v (l5.cut 1 (Int.toNat (l7)) (Int.toNat ((l5.l : Int)))))), (6, (.i (wr .i64 (1 + A34)))), (7, (.i (wr .i64 ((wr .i64 (1 + A34)) + U28)))), (8, (Slc.v ((l5.cut 1 (Int.toNat (l7)) (Int.toNat ((l5.l : Int)))).cut 1 (Int.toNat (wr .i64 (1 + A34))) (Int.toNat (wr .i64 ((wr .i64 (1 + A34)) + U28)))))), (9, (.agg #[(.i K69), (.string K70), (.i C71), (.i C72), (.bool F73), (.bool H74), D75.v]))], ⟨rfl, rfl, rfl, rfl, rfl, rfl, rfl, rfl, rfl, rfl, trivial⟩, ?_⟩
       refine Stg.eff [0, 1, 2, 3, 4] (by kernel_rfl) rfl (.cons ?_ (.cons ?_ (.cons ?_ (.cons ?_ (.cons ?_ .nil))))) ?_
       ·refine Ans.mk rfl rfl fun a H => ?_
        replace H := H.weaken (L' := [(0, (.pointer (some a4)))]) ⟨rfl, trivial⟩
        refine s_move H rfl rfl (lt_ rfl) fun a H => c_nil ⟨rfl, rfl, H.weaken (L' := [(71, (.pointer (some a4)))]) ⟨rfl, trivial⟩⟩
       ·refine Ans.mk rfl rfl fun a H => ?_
        replace H := H.weaken (L' := [(0, (.pointer (some a4)))]) ⟨rfl, trivial⟩
        refine s_move H rfl rfl (lt_ rfl) fun a H => c_nil ⟨rfl, rfl, H.weaken (L' := [(72, (.pointer (some a4)))]) ⟨rfl, trivial⟩⟩
       ·refine Ans.mk rfl rfl fun a H => ?_
        replace H := H.weaken (L' := [(72, (.pointer (some a4)))]) ⟨rfl, trivial⟩
        refine s_nil H rfl rfl (lt_ rfl) fun a H => c_nil ⟨rfl, rfl, H.weaken (L' := [(73, (.pointer (some a4)))]) ⟨rfl, trivial⟩⟩
       ·refine Ans.mk rfl rfl fun a H => ?_
        replace H := H.weaken (L' := [(73, (.pointer (some a4)))]) ⟨rfl, trivial⟩
        refine s_fld H rfl rfl fld_106_3 (lt_ rfl) fun a H => c_nil ⟨rfl, rfl, H.weaken (L' := [(74, (.pointer (some (a4.add 3))))]) ⟨rfl, trivial⟩⟩
       ·refine Ans.mk rfl rfl fun a H => ?_
        replace H := H.weaken (L' := [(74, (.pointer (some (a4.add 3))))]) ⟨rfl, trivial⟩
        refine s_load (v := l63.v) H rfl rfl one_43 hc76 (lt_ rfl) fun a H => c_nil ⟨rfl, rfl, H.weaken (L' := [(75, l63.v)]) ⟨rfl, trivial⟩⟩
       ·intro a H
        replace H := H.weaken (L' := [(80, (.agg #[(.i K69), (.string K70), (.i C71), (.i C72), (.bool F73), (.bool H74), D75.v]))]) ⟨rfl, trivial⟩
        replace h := h.get
        obtain ⟨b77, w78, n79, h⟩ := h
        refine s_bslc H rfl (by rw [H.parts (vs := [(0, (.agg #[(.i K69), (.string K70), (.i C71), (.i C72), (.bool F73), (.bool H74), D75.v]))]) rfl]; exact bs_43_1_ii64sii64ii64bbs0 w68 K69 K70 C71 C72 F73 H74 D75) (lt_ rfl) ?_
        rw [← n79.at_]
        clear H a
        intro a H
        refine n79.go <| c_nil ?_
        obtain ⟨hc80, h⟩ := h
        refine effQ.ok (v := (Slc.v (Slc.mk (some (blk b77)) 1 1))) (H.weaken (L' := [(81, (Slc.v (Slc.mk (some (blk b77)) 1 1)))]) ⟨rfl, trivial⟩) ⟨[(0, (.pointer (some a4))), (1, (.pointer (some a4))), (2, (.pointer (some a4))), (3, (.pointer (some (a4.add 3)))), (4, l63.v), (5, (Slc.v (l5.cut 1 (Int.toNat (l7)) (Int.toNat ((l5.l : Int)))))), (6, (.i (wr .i64 (1 + A34)))), (7, (.i (wr .i64 ((wr .i64 (1 + A34)) + U28)))), (8, (Slc.v ((l5.cut 1 (Int.toNat (l7)) (Int.toNat ((l5.l : Int)))).cut 1 (Int.toNat (wr .i64 (1 + A34))) (Int.toNat (wr .i64 ((wr .i64 (1 + A34)) + U28)))))), (9, (.agg #[(.i K69), (.string K70), (.i C71), (.i C72), (.bool F73), (.bool H74), D75.v])), (10, (Slc.v (Slc.mk (some (blk b77)) 1 1)))], ⟨rfl, rfl, rfl, rfl, rfl, rfl, rfl, rfl, rfl, rfl, rfl, trivial⟩, ?_⟩
        refine Stg.eff [0, 1, 2, 3, 4] (by kernel_rfl) rfl (.cons ?_ (.cons ?_ (.cons ?_ (.cons ?_ (.cons ?_ .nil))))) ?_
        ·refine Ans.mk rfl rfl fun a H => ?_
         replace H := H.weaken (L' := [(0, (.pointer (some a4)))]) ⟨rfl, trivial⟩
         refine s_move H rfl rfl (lt_ rfl) fun a H => c_nil ⟨rfl, rfl, H.weaken (L' := [(71, (.pointer (some a4)))]) ⟨rfl, trivial⟩⟩
        ·refine Ans.mk rfl rfl fun a H => ?_
         replace H := H.weaken (L' := [(0, (.pointer (some a4)))]) ⟨rfl, trivial⟩
         refine s_move H rfl rfl (lt_ rfl) fun a H => c_nil ⟨rfl, rfl, H.weaken (L' := [(72, (.pointer (some a4)))]) ⟨rfl, trivial⟩⟩
        ·refine Ans.mk rfl rfl fun a H => ?_
         replace H := H.weaken (L' := [(72, (.pointer (some a4)))]) ⟨rfl, trivial⟩
         refine s_nil H rfl rfl (lt_ rfl) fun a H => c_nil ⟨rfl, rfl, H.weaken (L' := [(73, (.pointer (some a4)))]) ⟨rfl, trivial⟩⟩
        ·refine Ans.mk rfl rfl fun a H => ?_
         replace H := H.weaken (L' := [(73, (.pointer (some a4)))]) ⟨rfl, trivial⟩
         refine s_fld H rfl rfl fld_106_3 (lt_ rfl) fun a H => c_nil ⟨rfl, rfl, H.weaken (L' := [(74, (.pointer (some (a4.add 3))))]) ⟨rfl, trivial⟩⟩
        ·refine Ans.mk rfl rfl fun a H => ?_
         replace H := H.weaken (L' := [(74, (.pointer (some (a4.add 3))))]) ⟨rfl, trivial⟩
         refine s_load (v := l63.v) H rfl rfl one_43 hc80 (lt_ rfl) fun a H => c_nil ⟨rfl, rfl, H.weaken (L' := [(75, l63.v)]) ⟨rfl, trivial⟩⟩
        ·intro a H
         replace H := H.weaken (L' := [(75, l63.v), (81, (Slc.v (Slc.mk (some (blk b77)) 1 1)))]) ⟨rfl, rfl, trivial⟩
         obtain ⟨s81, w82, h83, h⟩ := h
         refine s_blt H rfl (H.args (vs := [l63.v, (Slc.v (Slc.mk (some (blk b77)) 1 1))]) rfl) (lt_ rfl) (fun cs => b_app (z := s81) h83) ?_
         clear H a h83
         intro a H
         refine c_nil ?_
         refine effQ.ok (v := s81.v) (H.weaken (L' := [(82, s81.v)]) ⟨rfl, trivial⟩) ⟨[(0, (.pointer (some a4))), (1, (.pointer (some a4))), (2, (.pointer (some a4))), (3, (.pointer (some (a4.add 3)))), (4, l63.v), (5, (Slc.v (l5.cut 1 (Int.toNat (l7)) (Int.toNat ((l5.l : Int)))))), (6, (.i (wr .i64 (1 + A34)))), (7, (.i (wr .i64 ((wr .i64 (1 + A34)) + U28)))), (8, (Slc.v ((l5.cut 1 (Int.toNat (l7)) (Int.toNat ((l5.l : Int)))).cut 1 (Int.toNat (wr .i64 (1 + A34))) (Int.toNat (wr .i64 ((wr .i64 (1 + A34)) + U28)))))), (9, (.agg #[(.i K69), (.string K70), (.i C71), (.i C72), (.bool F73), (.bool H74), D75.v])), (10, (Slc.v (Slc.mk (some (blk b77)) 1 1))), (11, s81.v), (12, (.pointer (some a4))), (13, (.pointer (some (a4.add 3))))], ⟨rfl, rfl, rfl, rfl, rfl, rfl, rfl, rfl, rfl, rfl, rfl, rfl, trivial⟩, ?_⟩
         refine Stg.eff [0, 12, 13] (by kernel_rfl) rfl (.cons ?_ (.cons ?_ (.cons ?_ .nil))) ?_
         ·refine Ans.mk rfl rfl fun a H => ?_
          replace H := H.weaken (L' := [(0, (.pointer (some a4)))]) ⟨rfl, trivial⟩
          refine s_move H rfl rfl (lt_ rfl) fun a H => c_nil ⟨rfl, rfl, H.weaken (L' := [(71, (.pointer (some a4)))]) ⟨rfl, trivial⟩⟩
         ·refine Ans.mk rfl rfl fun a H => ?_
          replace H := H.weaken (L' := [(71, (.pointer (some a4)))]) ⟨rfl, trivial⟩
          refine s_nil H rfl rfl (lt_ rfl) fun a H => c_nil ⟨rfl, rfl, H.weaken (L' := [(83, (.pointer (some a4)))]) ⟨rfl, trivial⟩⟩
         ·refine Ans.mk rfl rfl fun a H => ?_
          replace H := H.weaken (L' := [(83, (.pointer (some a4)))]) ⟨rfl, trivial⟩
          refine s_fld H rfl rfl fld_106_3 (lt_ rfl) fun a H => c_nil ⟨rfl, rfl, H.weaken (L' := [(84, (.pointer (some (a4.add 3))))]) ⟨rfl, trivial⟩⟩
         ·intro a H
          replace H := H.weaken (L' := [(82, s81.v), (84, (.pointer (some (a4.add 3))))]) ⟨rfl, rfl, trivial⟩
          obtain ⟨h85, h86, h⟩ := h
          refine s_sto (p := a4.add 3) (v := s81.v) H rfl rfl rfl rfl one_43 rfl h85 h86 ?_
          clear H
          intro H
          generalize hww84 : World.setCell w82 (a4.add 3) s81.v = w84 at h ⊢
          have w84S : SetAt w82 (a4.add 3) s81.v w84 := ⟨hww84.symm⟩
          clear hww84 h85 h86
          refine c_nil ?_
          refine effQ.ok (v := undef) (H.weaken (L' := []) trivial) ⟨[(0, (.pointer (some a4))), (1, (.pointer (some a4))), (2, (.pointer (some a4))), (3, (.pointer (some (a4.add 3)))), (4, l63.v), (5, (Slc.v (l5.cut 1 (Int.toNat (l7)) (Int.toNat ((l5.l : Int)))))), (6, (.i (wr .i64 (1 + A34)))), (7, (.i (wr .i64 ((wr .i64 (1 + A34)) + U28)))), (8, (Slc.v ((l5.cut 1 (Int.toNat (l7)) (Int.toNat ((l5.l : Int)))).cut 1 (Int.toNat (wr .i64 (1 + A34))) (Int.toNat (wr .i64 ((wr .i64 (1 + A34)) + U28)))))), (9, (.agg #[(.i K69), (.string K70), (.i C71), (.i C72), (.bool F73), (.bool H74), D75.v])), (10, (Slc.v (Slc.mk (some (blk b77)) 1 1))), (11, s81.v), (12, (.pointer (some a4))), (13, (.pointer (some (a4.add 3)))), (14, undef)], ⟨rfl, rfl, rfl, rfl, rfl, rfl, rfl, rfl, rfl, rfl, rfl, rfl, rfl, rfl, rfl, trivial⟩, ?_⟩
          refine Stg.fin [] (by kernel_rfl) .nil ?_
          ·intro a H
           replace H := H.weaken (L' := [(0, (.pointer (some a4))), (6, (.i (wr .i64 ((wr .i64 (1 + A34)) + U28)))), (7, f54.v)]) ⟨rfl, rfl, rfl, trivial⟩
           refine hK62 _ _ <| c_seq fun K87 hK87 => c_reg <| s_move H rfl rfl (lt_ rfl) fun a H => s_nil H rfl rfl (lt_ rfl) fun a H => s_fld H rfl rfl fld_106_2 (lt_ rfl) fun a H => ?_
           obtain ⟨l88, hc89, h⟩ := h
           refine s_load (v := (.pointer l88)) H rfl rfl one_29 hc89 (lt_ rfl) fun a H => s_move H rfl rfl (lt_ rfl) fun a H => ?_
           obtain ⟨a90, h124, h⟩ := h
           subst h124
           refine s_nil H rfl rfl (lt_ rfl) fun a H => s_fld H rfl rfl fld_42_0 (lt_ rfl) fun a H => ?_
           obtain ⟨h92, h93, h⟩ := h
           refine s_sto (p := a90.add 0) (v := f54.v) H rfl rfl rfl rfl one_22 rfl h92 h93 ?_
           clear H
           intro H
           generalize hww91 : World.setCell w84 (a90.add 0) f54.v = w91 at h ⊢
           have w91S : SetAt w84 (a90.add 0) f54.v w91 := ⟨hww91.symm⟩
           clear hww91 h92 h93
           refine c_nil <| hK87 _ _ <| c_seq fun K94 hK94 => c_reg <| s_move H rfl rfl (lt_ rfl) fun a H => s_nil H rfl rfl (lt_ rfl) fun a H => s_fld H rfl rfl fld_106_2 (lt_ rfl) fun a H => ?_
           obtain ⟨l95, hc96, h⟩ := h
           refine s_load (v := (.pointer l95)) H rfl rfl one_29 hc96 (lt_ rfl) fun a H => ?_
           obtain ⟨a97, h123, h⟩ := h
           subst h123
           refine s_nil H rfl rfl (lt_ rfl) fun a H => s_fld H rfl rfl fld_42_1 (lt_ rfl) fun a H => ?_
           obtain ⟨l98, hc99, h⟩ := h
           refine s_load (v := (.i l98)) H rfl rfl one_3 hc99 (lt_ rfl) fun a H => s_bin H rfl rfl rfl r_add (lt_ rfl) fun a H => s_nil H rfl rfl (lt_ rfl) fun a H => s_fld H rfl rfl fld_42_1 (lt_ rfl) fun a H => ?_
           obtain ⟨h101, h102, h⟩ := h
           refine s_sto (p := a97.add 1) (v := (.i (wr .i64 (l98 + 1)))) H rfl rfl rfl rfl one_3 rfl h101 h102 ?_
           clear H
           intro H
           generalize hww100 : World.setCell w91 (a97.add 1) (.i (wr .i64 (l98 + 1))) = w100 at h ⊢
           have w100S : SetAt w91 (a97.add 1) (.i (wr .i64 (l98 + 1))) w100 := ⟨hww100.symm⟩
           clear hww100 h101 h102
           refine c_nil <| hK94 _ _ <| c_seq fun K103 hK103 => c_reg <| s_move H rfl rfl (lt_ rfl) fun a H => s_nil H rfl rfl (lt_ rfl) fun a H => s_fld H rfl rfl fld_106_1 (lt_ rfl) fun a H => ?_
           obtain ⟨l104, hc105, h⟩ := h
           refine s_load (v := (.i l104)) H rfl rfl one_3 hc105 (lt_ rfl) fun a H => s_move H rfl rfl (lt_ rfl) fun a H => s_bin H rfl rfl rfl r_add (lt_ rfl) fun a H => s_bin H rfl rfl rfl r_add (lt_ rfl) fun a H => s_nil H rfl rfl (lt_ rfl) fun a H => s_fld H rfl rfl fld_106_1 (lt_ rfl) fun a H => ?_
           obtain ⟨h107, h108, h⟩ := h
           refine s_sto (p := a4.add 1) (v := (.i (wr .i64 (l104 + (wr .i64 ((wr .i64 ((wr .i64 (1 + A34)) + U28)) + 4)))))) H rfl rfl rfl rfl one_3 rfl h107 h108 ?_
           clear H
           intro H
           generalize hww106 : World.setCell w100 (a4.add 1) (.i (wr .i64 (l104 + (wr .i64 ((wr .i64 ((wr .i64 (1 + A34)) + U28)) + 4))))) = w106 at h ⊢
           have w106S : SetAt w100 (a4.add 1) (.i (wr .i64 (l104 + (wr .i64 ((wr .i64 ((wr .i64 (1 + A34)) + U28)) + 4))))) w106 := ⟨hww106.symm⟩
           clear hww106 h107 h108
           refine c_nil <| hK103 _ _ ?_
           replace H := H.weaken (L' := [(0, (.pointer (some a4)))]) ⟨rfl, trivial⟩
           obtain ⟨l109, hc110, l111, hc112, h⟩ := h
           refine c_any (V := [(0, (.pointer (some a4))), (1, (.pointer (some a4))), (2, (.pointer (some a4))), (3, (.pointer (some (a4.add 4)))), (4, l109.v), (5, (.pointer (some a4))), (6, (.pointer (some a4))), (7, (.pointer (some (a4.add 1)))), (8, (.i l111))]) (⟨[[], [], [1], [2], [3], [], [5], [6], [7], [8], [4, 9], [0, 1, 2, 3, 4, 5, 6, 7, 8, 9, 10], [0, 1, 2, 3, 4, 5, 6, 7, 8, 9, 10, 11], [0, 1, 2, 3, 4, 5, 6, 7, 8, 9, 10, 12]], [some 111, some 112, some 113, some 114, some 115, some 116, some 117, some 118, some 119, some 120, some 121, some 122, some 123, none], [9, 10, 13], [0, 0, 0, 0, 0, 0, 0, 0, 0, 0, 1, 2, 2, 2], [2, 1, 1, 1, 1, 0, 0, 0, 0, 1, 2, 2, 2, 3]⟩ : Rg) [(0, (.pointer (some a4)))] mixed (by kernel_rfl) H ?_
           refine Stg.eff [0, 1, 2, 3, 4, 5, 6, 7, 8] (by kernel_rfl) rfl (.cons ?_ (.cons ?_ (.cons ?_ (.cons ?_ (.cons ?_ (.cons ?_ (.cons ?_ (.cons ?_ (.cons ?_ .nil))))))))) ?_
           ·refine Ans.mk rfl rfl fun a H => ?_
            replace H := H.weaken (L' := [(0, (.pointer (some a4)))]) ⟨rfl, trivial⟩
            refine s_move H rfl rfl (lt_ rfl) fun a H => c_nil ⟨rfl, rfl, H.weaken (L' := [(111, (.pointer (some a4)))]) ⟨rfl, trivial⟩⟩
           ·refine Ans.mk rfl rfl fun a H => ?_
            replace H := H.weaken (L' := [(0, (.pointer (some a4)))]) ⟨rfl, trivial⟩
            refine s_move H rfl rfl (lt_ rfl) fun a H => c_nil ⟨rfl, rfl, H.weaken (L' := [(112, (.pointer (some a4)))]) ⟨rfl, trivial⟩⟩
           ·refine Ans.mk rfl rfl fun a H => ?_
            replace H := H.weaken (L' := [(112, (.pointer (some a4)))]) ⟨rfl, trivial⟩
            refine s_nil H rfl rfl (lt_ rfl) fun a H => c_nil ⟨rfl, rfl, H.weaken (L' := [(113, (.pointer (some a4)))]) ⟨rfl, trivial⟩⟩
           ·refine Ans.mk rfl rfl fun a H => ?_
            replace H := H.weaken (L' := [(113, (.pointer (some a4)))]) ⟨rfl, trivial⟩
            refine s_fld H rfl rfl fld_106_4 (lt_ rfl) fun a H => c_nil ⟨rfl, rfl, H.weaken (L' := [(114, (.pointer (some (a4.add 4))))]) ⟨rfl, trivial⟩⟩
           ·refine Ans.mk rfl rfl fun a H => ?_
            replace H := H.weaken (L' := [(114, (.pointer (some (a4.add 4))))]) ⟨rfl, trivial⟩
            refine s_load (v := l109.v) H rfl rfl one_44 hc110 (lt_ rfl) fun a H => c_nil ⟨rfl, rfl, H.weaken (L' := [(115, l109.v)]) ⟨rfl, trivial⟩⟩
           ·refine Ans.mk rfl rfl fun a H => ?_
            replace H := H.weaken (L' := [(0, (.pointer (some a4)))]) ⟨rfl, trivial⟩
            refine s_move H rfl rfl (lt_ rfl) fun a H => c_nil ⟨rfl, rfl, H.weaken (L' := [(116, (.pointer (some a4)))]) ⟨rfl, trivial⟩⟩
           ·refine Ans.mk rfl rfl fun a H => ?_
            replace H := H.weaken (L' := [(116, (.pointer (some a4)))]) ⟨rfl, trivial⟩
            refine s_nil H rfl rfl (lt_ rfl) fun a H => c_nil ⟨rfl, rfl, H.weaken (L' := [(117, (.pointer (some a4)))]) ⟨rfl, trivial⟩⟩
           ·refine Ans.mk rfl rfl fun a H => ?_
            replace H := H.weaken (L' := [(117, (.pointer (some a4)))]) ⟨rfl, trivial⟩
            refine s_fld H rfl rfl fld_106_1 (lt_ rfl) fun a H => c_nil ⟨rfl, rfl, H.weaken (L' := [(118, (.pointer (some (a4.add 1))))]) ⟨rfl, trivial⟩⟩
           ·refine Ans.mk rfl rfl fun a H => ?_
            replace H := H.weaken (L' := [(118, (.pointer (some (a4.add 1))))]) ⟨rfl, trivial⟩
            refine s_load (v := (.i l111)) H rfl rfl one_3 hc112 (lt_ rfl) fun a H => c_nil ⟨rfl, rfl, H.weaken (L' := [(119, (.i l111))]) ⟨rfl, trivial⟩⟩
           ·intro a H
            replace H := H.weaken (L' := [(119, (.i l111))]) ⟨rfl, trivial⟩
            replace h := h.get
            obtain ⟨b113, w114, n115, h⟩ := h
            refine s_bslc H rfl (by rw [H.parts (vs := [(0, (.i l111))]) rfl]; exact bs_44_1_ii640 (w106.drewN 1) l111) (lt_ rfl) ?_
            rw [← n115.at_]
            clear H a
            intro a H
            refine n115.go <| c_nil ?_
            obtain ⟨hc116, h⟩ := h
            refine effQ.ok (v := (Slc.v (Slc.mk (some (blk b113)) 1 1))) (H.weaken (L' := [(120, (Slc.v (Slc.mk (some (blk b113)) 1 1)))]) ⟨rfl, trivial⟩) ⟨[(0, (.pointer (some a4))), (1, (.pointer (some a4))), (2, (.pointer (some a4))), (3, (.pointer (some (a4.add 4)))), (4, l109.v), (5, (.pointer (some a4))), (6, (.pointer (some a4))), (7, (.pointer (some (a4.add 1)))), (8, (.i l111)), (9, (Slc.v (Slc.mk (some (blk b113)) 1 1)))], ⟨rfl, rfl, rfl, rfl, rfl, rfl, rfl, rfl, rfl, rfl, trivial⟩, ?_⟩
            refine Stg.eff [0, 1, 2, 3, 4] (by kernel_rfl) rfl (.cons ?_ (.cons ?_ (.cons ?_ (.cons ?_ (.cons ?_ .nil))))) ?_
            ·refine Ans.mk rfl rfl fun a H => ?_
             replace H := H.weaken (L' := [(0, (.pointer (some a4)))]) ⟨rfl, trivial⟩
             refine s_move H rfl rfl (lt_ rfl) fun a H => c_nil ⟨rfl, rfl, H.weaken (L' := [(111, (.pointer (some a4)))]) ⟨rfl, trivial⟩⟩
            ·refine Ans.mk rfl rfl fun a H => ?_
             replace H := H.weaken (L' := [(0, (.pointer (some a4)))]) ⟨rfl, trivial⟩
             refine s_move H rfl rfl (lt_ rfl) fun a H => c_nil ⟨rfl, rfl, H.weaken (L' := [(112, (.pointer (some a4)))]) ⟨rfl, trivial⟩⟩
            ·refine Ans.mk rfl rfl fun a H => ?_
             replace H := H.weaken (L' := [(112, (.pointer (some a4)))]) ⟨rfl, trivial⟩
             refine s_nil H rfl rfl (lt_ rfl) fun a H => c_nil ⟨rfl, rfl, H.weaken (L' := [(113, (.pointer (some a4)))]) ⟨rfl, trivial⟩⟩
            ·refine Ans.mk rfl rfl fun a H => ?_
             replace H := H.weaken (L' := [(113, (.pointer (some a4)))]) ⟨rfl, trivial⟩
             refine s_fld H rfl rfl fld_106_4 (lt_ rfl) fun a H => c_nil ⟨rfl, rfl, H.weaken (L' := [(114, (.pointer (some (a4.add 4))))]) ⟨rfl, trivial⟩⟩
            ·refine Ans.mk rfl rfl fun a H => ?_
             replace H := H.weaken (L' := [(114, (.pointer (some (a4.add 4))))]) ⟨rfl, trivial⟩
             refine s_load (v := l109.v) H rfl rfl one_44 hc116 (lt_ rfl) fun a H => c_nil ⟨rfl, rfl, H.weaken (L' := [(115, l109.v)]) ⟨rfl, trivial⟩⟩
            ·intro a H
             replace H := H.weaken (L' := [(115, l109.v), (120, (Slc.v (Slc.mk (some (blk b113)) 1 1)))]) ⟨rfl, rfl, trivial⟩
             obtain ⟨s117, w118, h119, h⟩ := h
             refine s_blt H rfl (H.args (vs := [l109.v, (Slc.v (Slc.mk (some (blk b113)) 1 1))]) rfl) (lt_ rfl) (fun cs => b_app (z := s117) h119) ?_
             clear H a h119
             intro a H
             refine c_nil ?_
             refine effQ.ok (v := s117.v) (H.weaken (L' := [(121, s117.v)]) ⟨rfl, trivial⟩) ⟨[(0, (.pointer (some a4))), (1, (.pointer (some a4))), (2, (.pointer (some a4))), (3, (.pointer (some (a4.add 4)))), (4, l109.v), (5, (.pointer (some a4))), (6, (.pointer (some a4))), (7, (.pointer (some (a4.add 1)))), (8, (.i l111)), (9, (Slc.v (Slc.mk (some (blk b113)) 1 1))), (10, s117.v), (11, (.pointer (some a4))), (12, (.pointer (some (a4.add 4))))], ⟨rfl, rfl, rfl, rfl, rfl, rfl, rfl, rfl, rfl, rfl, rfl, trivial⟩, ?_⟩
             refine Stg.eff [0, 11, 12] (by kernel_rfl) rfl (.cons ?_ (.cons ?_ (.cons ?_ .nil))) ?_
             ·refine Ans.mk rfl rfl fun a H => ?_
              replace H := H.weaken (L' := [(0, (.pointer (some a4)))]) ⟨rfl, trivial⟩
              refine s_move H rfl rfl (lt_ rfl) fun a H => c_nil ⟨rfl, rfl, H.weaken (L' := [(111, (.pointer (some a4)))]) ⟨rfl, trivial⟩⟩
             ·refine Ans.mk rfl rfl fun a H => ?_
              replace H := H.weaken (L' := [(111, (.pointer (some a4)))]) ⟨rfl, trivial⟩
              refine s_nil H rfl rfl (lt_ rfl) fun a H => c_nil ⟨rfl, rfl, H.weaken (L' := [(122, (.pointer (some a4)))]) ⟨rfl, trivial⟩⟩
             ·refine Ans.mk rfl rfl fun a H => ?_
              replace H := H.weaken (L' := [(122, (.pointer (some a4)))]) ⟨rfl, trivial⟩
              refine s_fld H rfl rfl fld_106_4 (lt_ rfl) fun a H => c_nil ⟨rfl, rfl, H.weaken (L' := [(123, (.pointer (some (a4.add 4))))]) ⟨rfl, trivial⟩⟩
             ·intro a H
              replace H := H.weaken (L' := [(121, s117.v), (123, (.pointer (some (a4.add 4))))]) ⟨rfl, rfl, trivial⟩
              obtain ⟨h121, h122, h⟩ := h
              refine s_sto (p := a4.add 4) (v := s117.v) H rfl rfl rfl rfl one_44 rfl h121 h122 ?_
              clear H
              intro H
              generalize hww120 : World.setCell w118 (a4.add 4) s117.v = w120 at h ⊢
              have w120S : SetAt w118 (a4.add 4) s117.v w120 := ⟨hww120.symm⟩
              clear hww120 h121 h122
              refine c_nil ?_
              refine effQ.ok (v := undef) (H.weaken (L' := []) trivial) ⟨[(0, (.pointer (some a4))), (1, (.pointer (some a4))), (2, (.pointer (some a4))), (3, (.pointer (some (a4.add 4)))), (4, l109.v), (5, (.pointer (some a4))), (6, (.pointer (some a4))), (7, (.pointer (some (a4.add 1)))), (8, (.i l111)), (9, (Slc.v (Slc.mk (some (blk b113)) 1 1))), (10, s117.v), (11, (.pointer (some a4))), (12, (.pointer (some (a4.add 4)))), (13, undef)], ⟨rfl, rfl, rfl, rfl, rfl, rfl, rfl, rfl, rfl, rfl, rfl, rfl, rfl, rfl, trivial⟩, ?_⟩
              refine Stg.fin [] (by kernel_rfl) .nil ?_
              ·intro a H
               replace H := H.weaken (L' := []) trivial
               exact e_ret0 H rfl h
 clear h165
 refine c_seq fun K154 hK154 => c_reg <| s_move H rfl rfl (lt_ rfl) fun a H => s_call H rfl body_79 (H.args (vs := [(.pointer N25)]) rfl) (lt_ rfl) h ?_ (fun c w' h H => e_panic (P := PP) (fn := Tryz.f54) H h)
 clear H h a
 rintro _ w155 a ⟨E156, rfl, h⟩ H
 refine c_nil <| hK154 _ _ <| c_block <| c_seq fun K157 hK157 => c_reg <| s_bin H rfl rfl rfl r_eql (lt_ rfl) fun a H => s_assign H rfl rfl (lt_ rfl) fun a H => c_nil <| hK157 _ _ <| c_cond H rfl (fun h158 => ?_) (fun h158 => ?_)
 ·replace h := h.1 h158
  refine c_skip ?_
  exact h153 _ _ h (H.weaken ⟨rfl, rfl, rfl, rfl, trivial⟩)
 ·replace h := h.2 h158
  refine c_seq fun K159 hK159 => c_reg <| s_bin H rfl rfl rfl r_eql (lt_ rfl) fun a H => s_assign H rfl rfl (lt_ rfl) fun a H => c_nil <| hK159 _ _ <| c_cond H rfl (fun h160 => ?_) (fun h160 => ?_)
  ·replace h := h.1 h160
   refine c_reg <| s_iface H rfl rfl ni_30 (lt_ rfl) fun a H => ?_
   exact s_panic H rfl rfl (fun H => e_panic (P := PP) (fn := Tryz.f54) H h)
  ·replace h := h.2 h160
   refine c_reg <| s_iface H rfl rfl ni_30 (lt_ rfl) fun a H => ?_
   exact s_panic H rfl rfl (fun H => e_panic (P := PP) (fn := Tryz.f54) H h)

theorem sim_sherdlaw11_equal (K1 : Int) (K2 : ByteArray) (C3 C4 : Int) (F5 H6 : Bool) (D7 : Slc) (K8 : Int) (K9 : ByteArray) (C10 C11 : Int) (F12 H13 : Bool) (D14 : Slc) (w : World) (Q : Ending → World → Prop) (h : vc_sherdlaw11_equal K1 K2 C3 C4 F5 H6 D7 K8 K9 C10 C11 F12 H13 D14 w Q) : Calls PP F_sherdlaw11_equal #[(.agg #[(.i K1), (.string K2), (.i C3), (.i C4), (.bool F5), (.bool H6), D7.v]), (.agg #[(.i K8), (.string K9), (.i C10), (.i C11), (.bool F12), (.bool H13), D14.v])] w Q := by
 unfold vc_sherdlaw11_equal at h
 refine enter (n := 53) Tryz.func55 rfl rfl (Nat.le_of_ble_eq_true rfl) fun a H => c_seq fun K15 hK15 => c_reg ?_
 replace h := h.get
 obtain ⟨b16, w17, n18, h⟩ := h
 refine s_box H rfl rfl (lt_ rfl) ?_
 rw [← n18.at_]
 clear H a
 intro a H
 refine n18.go ?_
 replace h := h.get
 obtain ⟨b19, w20, n21, h⟩ := h
 refine s_box H rfl rfl (lt_ rfl) ?_
 rw [← n21.at_]
 clear H a
 intro a H
 refine n21.go <| s_assign H rfl rfl (lt_ rfl) fun a H => c_nil <| hK15 _ _ <| c_seq fun K22 hK22 => c_reg <| s_fld H rfl rfl fld_28_0 (lt_ rfl) fun a H => s_load (v := (.i K1)) H rfl rfl one_3 (n21.old (n18.cell (i := 0) rfl)) (lt_ rfl) fun a H => s_fld H rfl rfl fld_28_0 (lt_ rfl) fun a H => s_load (v := (.i K8)) H rfl rfl one_3 (n21.cell (i := 0) rfl) (lt_ rfl) fun a H => s_bin H rfl rfl rfl r_eql (lt_ rfl) fun a H => s_move H rfl rfl (lt_ rfl) fun a H => ?_
 refine g_join (n := 53) [(16, (.bool ((decide (K1 = K8)) && (decide (K2.toList = K9.toList))))), (2, (.pointer (some (blk b16)))), (3, (.pointer (some (blk b19))))] (.succ (.succ (.succ (.succ (.succ (.succ (.zero _))))))) ?_ ?_
 ·intro h24
  try clear h
  rcases Bool.eq_false_or_eq_true (decide (K1 = K8)) with h23 | h23
  ·replace H := H.ch (t := 10) (b := true) rfl h23
   refine s_fld H (wantG H rfl rfl) rfl fld_28_1 (lt_ rfl) fun a H => s_load (v := (.string K2)) H (wantG H rfl rfl) rfl one_9 (n21.old (n18.cell (i := 1) rfl)) (lt_ rfl) fun a H => s_fld H (wantG H rfl rfl) rfl fld_28_1 (lt_ rfl) fun a H => s_load (v := (.string K9)) H (wantG H rfl rfl) rfl one_9 (n21.cell (i := 1) rfl) (lt_ rfl) fun a H => s_bin H (wantG H rfl rfl) rfl rfl r_eqlS (lt_ rfl) fun a H => s_pickT H rfl rfl rfl (lt_ rfl) fun a H => ?_
   exact h24 _ (H.weaken ⟨by rw [h23]; rfl, rfl, rfl, trivial⟩)
  ·replace H := H.ch (t := 10) (b := false) rfl h23
   iterate 5 refine s_skip H (wantN H rfl rfl rfl) rfl (lt_ rfl) fun a H => ?_
   refine s_pickF H rfl rfl rfl (lt_ rfl) fun a H => ?_
   exact h24 _ (H.weaken ⟨by rw [h23]; rfl, rfl, rfl, trivial⟩)
 ·clear H a
  intro a H
  refine s_move H rfl rfl (lt_ rfl) fun a H => g_join (n := 53) [(25, (.bool (((decide (K1 = K8)) && (decide (K2.toList = K9.toList))) && (decide (C3 = C10) && (decide (C4 = C11)))))), (2, (.pointer (some (blk b16)))), (3, (.pointer (some (blk b19))))] (.succ (.succ (.succ (.succ (.succ (.succ (.succ (.succ (.zero _))))))))) ?_ ?_
  ·intro h26
   try clear h
   rcases Bool.eq_false_or_eq_true ((decide (K1 = K8)) && (decide (K2.toList = K9.toList))) with h25 | h25
   ·replace H := H.ch (t := 17) (b := true) rfl h25
    refine s_fld H (wantG H rfl rfl) rfl fld_28_2 (lt_ rfl) fun a H => s_fld H (wantG H rfl rfl) rfl fld_26_0 (lt_ rfl) fun a H => s_loadN (l := [(.i C3), (.i C4)]) H (wantG H rfl rfl) rfl agg_24 rfl ⟨(n21.old (n18.cell (i := 2) rfl)), (n21.old (n18.cell (i := 3) rfl)), trivial⟩ (lt_ rfl) fun a H => s_fld H (wantG H rfl rfl) rfl fld_28_2 (lt_ rfl) fun a H => s_fld H (wantG H rfl rfl) rfl fld_26_0 (lt_ rfl) fun a H => ?_
    refine s_loadN (l := [(.i C10), (.i C11)]) H (wantG H rfl rfl) rfl agg_24 rfl ⟨(n21.cell (i := 2) rfl), (n21.cell (i := 3) rfl), trivial⟩ (lt_ rfl) fun a H => s_bin H (wantG H rfl rfl) rfl rfl (r_eqst eqg_24 (eqst_24 0) rfl) (lt_ rfl) fun a H => s_pickT H rfl rfl rfl (lt_ rfl) fun a H => ?_
    exact h26 _ (H.weaken ⟨by rw [h25]; rfl, rfl, rfl, trivial⟩)
   ·replace H := H.ch (t := 17) (b := false) rfl h25
    iterate 7 refine s_skip H (wantN H rfl rfl rfl) rfl (lt_ rfl) fun a H => ?_
    refine s_pickF H rfl rfl rfl (lt_ rfl) fun a H => ?_
    exact h26 _ (H.weaken ⟨by rw [h25]; rfl, rfl, rfl, trivial⟩)
  ·clear H a
   intro a H
   refine s_move H rfl rfl (lt_ rfl) fun a H => g_join (n := 53) [(34, (.bool ((((decide (K1 = K8)) && (decide (K2.toList = K9.toList))) && (decide (C3 = C10) && (decide (C4 = C11)))) && (decide (F5 = F12))))), (2, (.pointer (some (blk b16)))), (3, (.pointer (some (blk b19))))] (.succ (.succ (.succ (.succ (.succ (.succ (.succ (.succ (.zero _))))))))) ?_ ?_
   ·intro h28
    try clear h
    rcases Bool.eq_false_or_eq_true (((decide (K1 = K8)) && (decide (K2.toList = K9.toList))) && (decide (C3 = C10) && (decide (C4 = C11)))) with h27 | h27
    ·replace H := H.ch (t := 26) (b := true) rfl h27
     refine s_fld H (wantG H rfl rfl) rfl fld_28_2 (lt_ rfl) fun a H => s_fld H (wantG H rfl rfl) rfl fld_26_1 (lt_ rfl) fun a H => s_load (v := (.bool F5)) H (wantG H rfl rfl) rfl one_4 (n21.old (n18.cell (i := 4) rfl)) (lt_ rfl) fun a H => s_fld H (wantG H rfl rfl) rfl fld_28_2 (lt_ rfl) fun a H => s_fld H (wantG H rfl rfl) rfl fld_26_1 (lt_ rfl) fun a H => s_load (v := (.bool F12)) H (wantG H rfl rfl) rfl one_4 (n21.cell (i := 4) rfl) (lt_ rfl) fun a H => ?_
     refine s_bin H (wantG H rfl rfl) rfl rfl (r_eqB bool_4) (lt_ rfl) fun a H => s_pickT H rfl rfl rfl (lt_ rfl) fun a H => ?_
     exact h28 _ (H.weaken ⟨by rw [h27]; rfl, rfl, rfl, trivial⟩)
    ·replace H := H.ch (t := 26) (b := false) rfl h27
     iterate 7 refine s_skip H (wantN H rfl rfl rfl) rfl (lt_ rfl) fun a H => ?_
     refine s_pickF H rfl rfl rfl (lt_ rfl) fun a H => ?_
     exact h28 _ (H.weaken ⟨by rw [h27]; rfl, rfl, rfl, trivial⟩)
   ·clear H a
    intro a H
    refine s_move H rfl rfl (lt_ rfl) fun a H => g_join (n := 53) [(43, (.bool (((((decide (K1 = K8)) && (decide (K2.toList = K9.toList))) && (decide (C3 = C10) && (decide (C4 = C11)))) && (decide (F5 = F12))) && (decide (H6 = H13))))), (2, (.pointer (some (blk b16)))), (3, (.pointer (some (blk b19))))] (.succ (.succ (.succ (.succ (.succ (.succ (.succ (.succ (.zero _))))))))) ?_ ?_
    ·intro h30
     try clear h
     rcases Bool.eq_false_or_eq_true ((((decide (K1 = K8)) && (decide (K2.toList = K9.toList))) && (decide (C3 = C10) && (decide (C4 = C11)))) && (decide (F5 = F12))) with h29 | h29
     ·replace H := H.ch (t := 35) (b := true) rfl h29
      refine s_fld H (wantG H rfl rfl) rfl fld_28_2 (lt_ rfl) fun a H => s_fld H (wantG H rfl rfl) rfl fld_26_2 (lt_ rfl) fun a H => s_load (v := (.bool H6)) H (wantG H rfl rfl) rfl one_4 (n21.old (n18.cell (i := 5) rfl)) (lt_ rfl) fun a H => s_fld H (wantG H rfl rfl) rfl fld_28_2 (lt_ rfl) fun a H => s_fld H (wantG H rfl rfl) rfl fld_26_2 (lt_ rfl) fun a H => s_load (v := (.bool H13)) H (wantG H rfl rfl) rfl one_4 (n21.cell (i := 5) rfl) (lt_ rfl) fun a H => ?_
      refine s_bin H (wantG H rfl rfl) rfl rfl (r_eqB bool_4) (lt_ rfl) fun a H => s_pickT H rfl rfl rfl (lt_ rfl) fun a H => ?_
      exact h30 _ (H.weaken ⟨by rw [h29]; rfl, rfl, rfl, trivial⟩)
     ·replace H := H.ch (t := 35) (b := false) rfl h29
      iterate 7 refine s_skip H (wantN H rfl rfl rfl) rfl (lt_ rfl) fun a H => ?_
      refine s_pickF H rfl rfl rfl (lt_ rfl) fun a H => ?_
      exact h30 _ (H.weaken ⟨by rw [h29]; rfl, rfl, rfl, trivial⟩)
    ·clear H a
     intro a H
     refine s_move H rfl rfl (lt_ rfl) fun a H => ?_
     obtain ⟨R33, h, h42⟩ := h
     refine g_joinW (n := 53) R33 (fun x34 => [(52, (.bool x34))]) (.succ (.succ (.succ (.succ (.succ (.succ (.succ (.succ (.zero _))))))))) ?_ ?_
     ·intro h32
      clear h42
      rcases Bool.eq_false_or_eq_true (((((decide (K1 = K8)) && (decide (K2.toList = K9.toList))) && (decide (C3 = C10) && (decide (C4 = C11)))) && (decide (F5 = F12))) && (decide (H6 = H13))) with h31 | h31
      ·replace H := H.ch (t := 44) (b := true) rfl h31
       replace h := h.1 h31
       refine s_fld H (wantG H rfl rfl) rfl fld_28_2 (lt_ rfl) fun a H => s_fld H (wantG H rfl rfl) rfl fld_26_3 (lt_ rfl) fun a H => s_load (v := D7.v) H (wantG H rfl rfl) rfl one_22 (n21.old (n18.cell (i := 6) rfl)) (lt_ rfl) fun a H => s_fld H (wantG H rfl rfl) rfl fld_28_2 (lt_ rfl) fun a H => s_fld H (wantG H rfl rfl) rfl fld_26_3 (lt_ rfl) fun a H => s_load (v := D14.v) H (wantG H rfl rfl) rfl one_22 (n21.cell (i := 6) rfl) (lt_ rfl) fun a H => ?_
       refine s_call H (wantG H rfl rfl) body_13 (H.args (vs := [D7.v, D14.v]) rfl) (lt_ rfl) h ?_ (fun c w' h H => e_panic (P := PP) (fn := Tryz.f55) H h)
       clear H h a
       rintro _ w36 a ⟨s37, rfl, h⟩ H
       refine s_pickT H rfl rfl rfl (lt_ rfl) fun a H => ?_
       exact h32 _ _ _ h (H.weaken ⟨rfl, trivial⟩)
      ·replace H := H.ch (t := 44) (b := false) rfl h31
       replace h := h.2 h31
       iterate 7 refine s_skip H (wantN H rfl rfl rfl) rfl (lt_ rfl) fun a H => ?_
       refine s_pickF H rfl rfl rfl (lt_ rfl) fun a H => ?_
       exact h32 _ _ _ h (H.weaken ⟨rfl, trivial⟩)
     ·clear H a h
      intro a x34 w35 h H
      replace h := h42 x34 w35 h
      clear h42
      refine s_assign H rfl rfl (lt_ rfl) fun a H => c_nil <| hK22 _ _ <| c_ret ?_
      exact e_ret1 H rfl rfl h
end Go.Proofs.YtnhgnfflihoaiaaGreatDoor
