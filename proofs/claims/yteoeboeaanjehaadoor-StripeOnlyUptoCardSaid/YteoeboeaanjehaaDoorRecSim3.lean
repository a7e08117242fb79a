/-
  The conditions give the machine's calls; printed by vcgen.py.
-/
import Derived.Test.YteoeboeaanjehaaDoorRecVc
namespace Go.Proofs.YteoeboeaanjehaaDoor
open Go Go.Vc
set_option maxRecDepth 100000
set_option maxHeartbeats 4000000
theorem sim_slices_IndexFunc_api_Part_api_Part (s1 : Slc) (f2 : Value) (w : World) (Q : Ending → World → Prop) (h : vc_slices_IndexFunc_api_Part_api_Part s1 f2 w Q) : Calls PP F_slices_IndexFunc_api_Part_api_Part #[s1.v, f2] w Q := by
 unfold vc_slices_IndexFunc_api_Part_api_Part at h
 refine enter (n := 19) Tryd.func61 rfl rfl (Nat.le_of_ble_eq_true rfl) fun a H => c_seq fun K3 hK3 => c_reg <| s_assign H rfl rfl (lt_ rfl) fun a H => c_nil <| hK3 _ _ <| c_seq fun K4 hK4 => c_seq fun K5 hK5 => c_reg <| s_move H rfl rfl (lt_ rfl) fun a H => s_blt H rfl (H.args (vs := [s1.v]) rfl) (lt_ rfl) (fun cs => b_lenS (z := s1) sl_35) fun a H => s_move H rfl rfl (lt_ rfl) fun a H => c_nil <| hK5 _ _ <| c_block ?_
 obtain ⟨I8, m9, h32, h33⟩ := h
 refine c_loop (σ := Int) (fun z w => I8 z w) (fun z w => m9 z w) (fun z => [(0, s1.v), (1, f2), (7, (.i (s1.l : Int))), (8, (.i z))]) 0 h32 (H.weaken ⟨rfl, rfl, rfl, rfl, trivial⟩) ?_
 clear H h32
 rintro s6 a w7 h H
 replace h := h33 s6 w7 h
 clear h33
 replace H : Has 19 [] a [(0, s1.v), (1, f2), (7, (.i (s1.l : Int))), (8, (.i s6))] := H
 refine c_seq fun K10 hK10 => c_reg <| s_bin H rfl rfl rfl r_lss (lt_ rfl) fun a H => c_nil <| hK10 _ _ <| c_seq fun K11 hK11 => c_cond H rfl (fun h12 => ?_) (fun h12 => ?_)
 ·replace h := h.1 h12
  refine c_skip <| hK11 _ _ <| c_seq fun K13 hK13 => c_block <| c_seq fun K14 hK14 => c_reg <| s_move H rfl rfl (lt_ rfl) fun a H => s_assign H rfl rfl (lt_ rfl) fun a H => c_nil <| hK14 _ _ <| c_seq fun K15 hK15 => c_reg ?_
  iterate 3 refine s_move H rfl rfl (lt_ rfl) fun a H => ?_
  obtain ⟨a16, h17, h18, h19, h⟩ := h
  refine s_idxS (s := s1) H rfl rfl rfl slc_35 h17 h18 h19 (lt_ rfl) fun a H => ?_
  obtain ⟨I20, hc21, D22, hc23, h⟩ := h
  refine s_loadN (l := [(.i I20), D22.v]) H rfl rfl agg_41 rfl ⟨hc21, hc23, trivial⟩ (lt_ rfl) fun a H => s_callV H rfl rfl (H.args (vs := [(.agg #[(.i I20), D22.v])]) rfl) (lt_ rfl) h ?_ (fun c w' h H => e_panic (P := PP) (fn := Tryd.f61) H h)
  clear H h a
  rintro _ w24 a ⟨r25, rfl, h⟩ H
  refine c_nil <| hK15 _ _ <| c_cond H rfl (fun h26 => ?_) (fun h26 => ?_)
  ·replace h := h.1 h26
   refine c_seq fun K27 hK27 => c_reg <| s_move H rfl rfl (lt_ rfl) fun a H => s_assign H rfl rfl (lt_ rfl) fun a H => c_nil <| hK27 _ _ <| c_ret ?_
   exact e_ret1 H rfl rfl h
  ·replace h := h.2 h26
   refine c_skip <| hK13 _ _ <| c_reg <| s_bin H rfl rfl rfl r_add (lt_ rfl) fun a H => s_move H rfl rfl (lt_ rfl) fun a H => c_nil <| Exists.intro (wr .i64 (s6 + 1)) ⟨h.1, h.2, H.weaken ⟨rfl, rfl, rfl, rfl, trivial⟩⟩
 ·replace h := h.2 h12
  refine c_exit ?_
  first | (simp only [Exit.then, Exit.inBlock, ↓reduceIte]; fail_if_success simp only [Nat.reduceEqDiff]) | simp only [Exit.then, Exit.inBlock, ↓reduceIte, Nat.reduceEqDiff]
  refine hK4 _ _ <| c_seq fun K31 hK31 => c_reg <| s_assign H rfl rfl (lt_ rfl) fun a H => c_nil <| hK31 _ _ <| c_ret ?_
  exact e_ret1 H rfl rfl h

theorem sim_matrix_eliminate_c1 (i1 j2 : Int) (c3 : Addr) (w : World) (Q : Ending → World → Prop) (h : vc_matrix_eliminate_c1 i1 j2 c3 w Q) : Calls PP F_matrix_eliminate_c1 #[(.i i1), (.i j2), (.pointer (some c3))] w Q := by
 unfold vc_matrix_eliminate_c1 at h
 refine enter (n := 19) Tryd.func62 rfl rfl (Nat.le_of_ble_eq_true rfl) fun a H => ?_
 replace H := H.weaken (L' := [(0, (.i i1)), (1, (.i j2)), (2, (.pointer (some c3)))]) ⟨rfl, rfl, rfl, trivial⟩
 obtain ⟨l4, hc5, l6, hc7, l8, hc9, a10, h11, h12, h13, l14, hc15, l16, hc17, a18, h19, h20, h21, l22, hc23, a24, h25, h26, h27, h⟩ := h
 refine c_any (V := [(0, l4.v), (1, (.i i1)), (2, l6.v), (3, (.i j2)), (4, l8.v), (5, (.i j2)), (6, (.pointer (some (a10.add (Int.toNat (j2) * 1))))), (7, l14.v), (8, l16.v), (9, (.i i1)), (10, (.pointer (some (a18.add (Int.toNat (i1) * 1))))), (11, l22.v), (12, (.pointer (some (a24.add (Int.toNat (i1) * 1)))))]) (⟨[[], [], [], [], [], [], [4, 5], [6], [], [], [8, 9], [10], [0, 1, 4, 5, 6, 7, 11], [0, 1, 4, 5, 6, 7, 11, 12], [0, 1, 2, 3, 4, 5, 6, 7, 8, 9, 10, 11, 12, 13], [0, 1, 2, 3, 4, 5, 6, 7, 8, 9, 10, 11, 12, 13, 14]], [some 5, some 6, some 7, some 8, some 9, some 10, some 11, some 12, some 13, some 14, some 15, some 16, some 17, none, some 18, none], [13, 15], [0, 0, 0, 0, 0, 0, 0, 0, 0, 0, 0, 0, 0, 0, 1, 1], [0, 0, 1, 1, 0, 0, 0, 0, 0, 0, 0, 0, 0, 1, 1, 2]⟩ : Rg) [(0, (.i i1)), (1, (.i j2)), (2, (.pointer (some c3)))] mixed (by kernel_rfl) H ?_
 refine Stg.eff [0, 1, 2, 3, 4, 5, 6, 7, 8, 9, 10, 11, 12] (by kernel_rfl) rfl (.cons ?_ (.cons ?_ (.cons ?_ (.cons ?_ (.cons ?_ (.cons ?_ (.cons ?_ (.cons ?_ (.cons ?_ (.cons ?_ (.cons ?_ (.cons ?_ (.cons ?_ .nil))))))))))))) ?_
 ·refine Ans.mk rfl rfl fun a H => s_load (v := l4.v) H rfl rfl one_25 hc5 (lt_ rfl) fun a H => ?_
  exact Ans.fin H rfl
 ·refine Ans.mk rfl rfl fun a H => s_move H rfl rfl (lt_ rfl) fun a H => ?_
  exact Ans.fin H rfl
 ·refine Ans.mk rfl rfl fun a H => s_load (v := l6.v) H rfl rfl one_25 hc7 (lt_ rfl) fun a H => ?_
  exact Ans.fin H rfl
 ·refine Ans.mk rfl rfl fun a H => s_move H rfl rfl (lt_ rfl) fun a H => ?_
  exact Ans.fin H rfl
 ·refine Ans.mk rfl rfl fun a H => s_load (v := l8.v) H rfl rfl one_25 hc9 (lt_ rfl) fun a H => ?_
  exact Ans.fin H rfl
 ·refine Ans.mk rfl rfl fun a H => s_move H rfl rfl (lt_ rfl) fun a H => ?_
  exact Ans.fin H rfl
 ·refine Ans.mk rfl rfl fun a H => s_idxS (s := l8) H rfl rfl rfl slc_25 h11 h12 h13 (lt_ rfl) fun a H => ?_
  exact Ans.fin H rfl
 ·refine Ans.mk rfl rfl fun a H => s_load (v := l14.v) H rfl rfl one_24 hc15 (lt_ rfl) fun a H => ?_
  exact Ans.fin H rfl
 ·refine Ans.mk rfl rfl fun a H => s_load (v := l16.v) H rfl rfl one_25 hc17 (lt_ rfl) fun a H => ?_
  exact Ans.fin H rfl
 ·refine Ans.mk rfl rfl fun a H => s_move H rfl rfl (lt_ rfl) fun a H => ?_
  exact Ans.fin H rfl
 ·refine Ans.mk rfl rfl fun a H => s_idxS (s := l16) H rfl rfl rfl slc_25 h19 h20 h21 (lt_ rfl) fun a H => ?_
  exact Ans.fin H rfl
 ·refine Ans.mk rfl rfl fun a H => s_load (v := l22.v) H rfl rfl one_24 hc23 (lt_ rfl) fun a H => ?_
  exact Ans.fin H rfl
 ·refine Ans.mk rfl rfl fun a H => s_idxS (s := l4) H rfl rfl rfl slc_25 h25 h26 h27 (lt_ rfl) fun a H => ?_
  exact Ans.fin H rfl
 ·intro a H
  replace H := H.weaken (L' := [(12, l14.v), (17, (.pointer (some (a24.add (Int.toNat (i1) * 1)))))]) ⟨rfl, rfl, trivial⟩
  obtain ⟨h29, h30, h⟩ := h
  refine s_sto (p := a24.add (Int.toNat (i1) * 1)) (v := l14.v) H rfl rfl rfl rfl one_24 rfl h29 h30 ?_
  clear H
  intro H
  generalize hww28 : World.setCell (w.drewN 1) (a24.add (Int.toNat (i1) * 1)) l14.v = w28 at h ⊢
  have w28S : SetAt (w.drewN 1) (a24.add (Int.toNat (i1) * 1)) l14.v w28 := ⟨hww28.symm⟩
  clear hww28 h29 h30
  refine c_nil ?_
  obtain ⟨hc31, a32, h33, h34, h35, h⟩ := h
  refine effQ.go0 [(14, (.pointer (some (a32.add (Int.toNat (j2) * 1)))))] H rfl rfl <| Stg.eff [2, 3, 14] (by kernel_rfl) rfl (.cons ?_ (.cons ?_ (.cons ?_ .nil))) ?_
  ·refine Ans.mk rfl rfl fun a H => s_load (v := l6.v) H rfl rfl one_25 hc31 (lt_ rfl) fun a H => ?_
   exact Ans.fin H rfl
  ·refine Ans.mk rfl rfl fun a H => s_move H rfl rfl (lt_ rfl) fun a H => ?_
   exact Ans.fin H rfl
  ·refine Ans.mk rfl rfl fun a H => s_idxS (s := l6) H rfl rfl rfl slc_25 h33 h34 h35 (lt_ rfl) fun a H => ?_
   exact Ans.fin H rfl
  ·intro a H
   replace H := H.weaken (L' := [(16, l22.v), (18, (.pointer (some (a32.add (Int.toNat (j2) * 1)))))]) ⟨rfl, rfl, trivial⟩
   obtain ⟨h37, h38, h⟩ := h
   refine s_sto (p := a32.add (Int.toNat (j2) * 1)) (v := l22.v) H rfl rfl rfl rfl one_24 rfl h37 h38 ?_
   clear H
   intro H
   generalize hww36 : World.setCell w28 (a32.add (Int.toNat (j2) * 1)) l22.v = w36 at h ⊢
   have w36S : SetAt w28 (a32.add (Int.toNat (j2) * 1)) l22.v w36 := ⟨hww36.symm⟩
   clear hww36 h37 h38
   refine c_nil <| effQ.go0 [] H rfl rfl <| Stg.fin [] (by kernel_rfl) .nil ?_
   ·intro a H
    replace H := H.weaken (L' := []) trivial
    exact e_ret0 H rfl h

theorem sim_matrix_eliminate_c2 (t1 c2 f3 : Int) (c4 c5 : Addr) (w : World) (Q : Ending → World → Prop) (h : vc_matrix_eliminate_c2 t1 c2 f3 c4 c5 w Q) : Calls PP F_matrix_eliminate_c2 #[(.i t1), (.int .u8 c2), (.i f3), (.pointer (some c4)), (.pointer (some c5))] w Q := by
 unfold vc_matrix_eliminate_c2 at h
 refine enter (n := 19) Tryd.func63 rfl rfl (Nat.le_of_ble_eq_true rfl) fun a H => ?_
 replace H := H.weaken (L' := [(0, (.i t1)), (1, (.int .u8 c2)), (2, (.i f3)), (3, (.pointer (some c4))), (4, (.pointer (some c5)))]) ⟨rfl, rfl, rfl, rfl, rfl, trivial⟩
 obtain ⟨l6, hc7, l8, hc9, a10, h11, h12, h13, l14, hc15, l16, hc17, a18, h19, h20, h21, l22, hc23, h⟩ := h
 refine c_any (V := [(0, (.pointer l6)), (1, l8.v), (2, (.i t1)), (3, (.pointer (some (a10.add (Int.toNat (t1) * 1))))), (4, l14.v), (5, (.int .u8 c2)), (6, l16.v), (7, (.i f3)), (8, (.pointer (some (a18.add (Int.toNat (f3) * 1))))), (9, l22.v)]) (⟨[[], [], [], [1, 2], [3], [], [], [], [6, 7], [8], [0, 4, 5, 9]], [some 8, some 9, some 10, some 11, some 12, some 13, some 14, some 15, some 16, some 17, some 18], [10], [0, 0, 0, 0, 0, 0, 0, 0, 0, 0, 0], [0, 0, 0, 0, 0, 0, 0, 0, 0, 0, 1]⟩ : Rg) [(0, (.i t1)), (1, (.int .u8 c2)), (2, (.i f3)), (3, (.pointer (some c4))), (4, (.pointer (some c5)))] mixed (by kernel_rfl) H ?_
 refine Stg.eff [0, 1, 2, 3, 4, 5, 6, 7, 8, 9] (by kernel_rfl) rfl (.cons ?_ (.cons ?_ (.cons ?_ (.cons ?_ (.cons ?_ (.cons ?_ (.cons ?_ (.cons ?_ (.cons ?_ (.cons ?_ .nil)))))))))) ?_
 ·refine Ans.mk rfl rfl fun a H => s_load (v := (.pointer l6)) H rfl rfl one_65 hc7 (lt_ rfl) fun a H => ?_
  exact Ans.fin H rfl
 ·refine Ans.mk rfl rfl fun a H => s_load (v := l8.v) H rfl rfl one_25 hc9 (lt_ rfl) fun a H => ?_
  exact Ans.fin H rfl
 ·refine Ans.mk rfl rfl fun a H => s_move H rfl rfl (lt_ rfl) fun a H => ?_
  exact Ans.fin H rfl
 ·refine Ans.mk rfl rfl fun a H => s_idxS (s := l8) H rfl rfl rfl slc_25 h11 h12 h13 (lt_ rfl) fun a H => ?_
  exact Ans.fin H rfl
 ·refine Ans.mk rfl rfl fun a H => s_load (v := l14.v) H rfl rfl one_24 hc15 (lt_ rfl) fun a H => ?_
  exact Ans.fin H rfl
 ·refine Ans.mk rfl rfl fun a H => s_move H rfl rfl (lt_ rfl) fun a H => ?_
  exact Ans.fin H rfl
 ·refine Ans.mk rfl rfl fun a H => s_load (v := l16.v) H rfl rfl one_25 hc17 (lt_ rfl) fun a H => ?_
  exact Ans.fin H rfl
 ·refine Ans.mk rfl rfl fun a H => s_move H rfl rfl (lt_ rfl) fun a H => ?_
  exact Ans.fin H rfl
 ·refine Ans.mk rfl rfl fun a H => s_idxS (s := l16) H rfl rfl rfl slc_25 h19 h20 h21 (lt_ rfl) fun a H => ?_
  exact Ans.fin H rfl
 ·refine Ans.mk rfl rfl fun a H => s_load (v := l22.v) H rfl rfl one_24 hc23 (lt_ rfl) fun a H => ?_
  exact Ans.fin H rfl
 ·intro a H
  replace H := H.weaken (L' := [(8, (.pointer l6)), (12, l14.v), (13, (.int .u8 c2)), (17, l22.v)]) ⟨rfl, rfl, rfl, rfl, trivial⟩
  refine s_call H rfl body_45 (H.args (vs := [(.pointer l6), l14.v, (.int .u8 c2), l22.v]) rfl) (lt_ rfl) h ?_ (fun c w' h H => e_panic (P := PP) (fn := Tryd.f63) H h)
  clear H h a
  rintro _ w24 a ⟨A25, rfl, h⟩ H
  refine c_nil <| effQ.go [] H rfl rfl <| Stg.fin [] (by kernel_rfl) .nil ?_
  ·intro a H
   replace H := H.weaken (L' := []) trivial
   exact e_ret0 H rfl h

theorem sim_matrix_eliminate_c3 (i1 c2 : Int) (c3 c4 : Addr) (w : World) (Q : Ending → World → Prop) (h : vc_matrix_eliminate_c3 i1 c2 c3 c4 w Q) : Calls PP F_matrix_eliminate_c3 #[(.i i1), (.int .u8 c2), (.pointer (some c3)), (.pointer (some c4))] w Q := by
 unfold vc_matrix_eliminate_c3 at h
 refine enter (n := 29) Tryd.func64 rfl rfl (Nat.le_of_ble_eq_true rfl) fun a H => c_seq fun K5 hK5 => c_reg ?_
 obtain ⟨l6, hc7, h⟩ := h
 refine s_load (v := l6.v) H rfl rfl one_25 hc7 (lt_ rfl) fun a H => s_move H rfl rfl (lt_ rfl) fun a H => ?_
 obtain ⟨a8, h9, h10, h11, h⟩ := h
 refine s_idxS (s := l6) H rfl rfl rfl slc_25 h9 h10 h11 (lt_ rfl) fun a H => ?_
 obtain ⟨l12, hc13, h⟩ := h
 refine s_load (v := l12.v) H rfl rfl one_24 hc13 (lt_ rfl) fun a H => s_blt H rfl (H.args (vs := [l12.v]) rfl) (lt_ rfl) (fun cs => b_lenS (z := l12) sl_24) fun a H => s_move H rfl rfl (lt_ rfl) fun a H => c_nil <| hK5 _ _ <| c_block ?_
 obtain ⟨I16, m17, h54, h55⟩ := h
 refine c_loop (σ := Int) (fun z w => I16 z w) (fun z w => m17 z w) (fun z => [(0, (.i i1)), (1, (.int .u8 c2)), (2, (.pointer (some c3))), (3, (.pointer (some c4))), (11, l12.v), (12, (.i (l12.l : Int))), (13, (.i z))]) 0 h54 (H.weaken ⟨rfl, rfl, rfl, rfl, rfl, rfl, rfl, trivial⟩) ?_
 clear H h54
 rintro s14 a w15 h H
 replace h := h55 s14 w15 h
 clear h55
 replace H : Has 29 [] a [(0, (.i i1)), (1, (.int .u8 c2)), (2, (.pointer (some c3))), (3, (.pointer (some c4))), (11, l12.v), (12, (.i (l12.l : Int))), (13, (.i s14))] := H
 refine c_seq fun K18 hK18 => c_reg <| s_bin H rfl rfl rfl r_lss (lt_ rfl) fun a H => c_nil <| hK18 _ _ <| c_seq fun K19 hK19 => c_cond H rfl (fun h20 => ?_) (fun h20 => ?_)
 ·replace h := h.1 h20
  refine c_skip <| hK19 _ _ <| c_seq fun K21 hK21 => c_block <| c_seq fun K22 hK22 => c_reg <| s_move H rfl rfl (lt_ rfl) fun a H => ?_
  obtain ⟨a23, h24, h25, h26, h⟩ := h
  refine s_idxS (s := l12) H rfl rfl rfl slc_24 h24 h25 h26 (lt_ rfl) fun a H => ?_
  obtain ⟨l27, hc28, h⟩ := h
  refine s_load (v := (.int .u8 l27)) H rfl rfl one_5 hc28 (lt_ rfl) fun a H => s_assign H rfl rfl (lt_ rfl) fun a H => s_assign H rfl rfl (lt_ rfl) fun a H => c_nil <| hK22 _ _ ?_
  replace H := H.weaken (L' := [(0, (.i i1)), (1, (.int .u8 c2)), (2, (.pointer (some c3))), (3, (.pointer (some c4))), (6, (.i s14)), (7, (.int .u8 l27)), (11, l12.v), (12, (.i (l12.l : Int))), (13, (.i s14))]) ⟨rfl, rfl, rfl, rfl, rfl, rfl, rfl, rfl, rfl, trivial⟩
  obtain ⟨l29, hc30, a31, h32, h33, h34, l35, hc36, l37, hc38, h⟩ := h
  refine c_any (V := [(0, l29.v), (1, (.i i1)), (2, (.pointer (some (a31.add (Int.toNat (i1) * 1))))), (3, l35.v), (4, (.i s14)), (5, (.pointer l37)), (6, (.int .u8 l27)), (7, (.int .u8 c2))]) (⟨[[], [], [0, 1], [2], [], [], [], [], [5, 6, 7], [0, 1, 2, 3, 4, 5, 6, 7, 8], [0, 1, 2, 3, 4, 5, 6, 7, 8, 9]], [some 18, some 19, some 20, some 21, some 22, some 23, some 24, some 25, some 26, some 27, none], [8, 10], [0, 0, 0, 0, 0, 0, 0, 0, 0, 1, 1], [1, 1, 1, 1, 1, 0, 0, 0, 1, 1, 2]⟩ : Rg) [(0, (.i i1)), (1, (.int .u8 c2)), (2, (.pointer (some c3))), (3, (.pointer (some c4))), (6, (.i s14)), (7, (.int .u8 l27)), (11, l12.v), (12, (.i (l12.l : Int))), (13, (.i s14))] mixed (by kernel_rfl) H ?_
  refine Stg.eff [0, 1, 2, 3, 4, 5, 6, 7] (by kernel_rfl) rfl (.cons ?_ (.cons ?_ (.cons ?_ (.cons ?_ (.cons ?_ (.cons ?_ (.cons ?_ (.cons ?_ .nil)))))))) ?_
  ·refine Ans.mk rfl rfl fun a H => s_load (v := l29.v) H rfl rfl one_25 hc30 (lt_ rfl) fun a H => ?_
   exact Ans.fin H rfl
  ·refine Ans.mk rfl rfl fun a H => s_move H rfl rfl (lt_ rfl) fun a H => ?_
   exact Ans.fin H rfl
  ·refine Ans.mk rfl rfl fun a H => s_idxS (s := l29) H rfl rfl rfl slc_25 h32 h33 h34 (lt_ rfl) fun a H => ?_
   exact Ans.fin H rfl
  ·refine Ans.mk rfl rfl fun a H => s_load (v := l35.v) H rfl rfl one_24 hc36 (lt_ rfl) fun a H => ?_
   exact Ans.fin H rfl
  ·refine Ans.mk rfl rfl fun a H => s_move H rfl rfl (lt_ rfl) fun a H => ?_
   exact Ans.fin H rfl
  ·refine Ans.mk rfl rfl fun a H => s_load (v := (.pointer l37)) H rfl rfl one_65 hc38 (lt_ rfl) fun a H => ?_
   exact Ans.fin H rfl
  ·refine Ans.mk rfl rfl fun a H => s_move H rfl rfl (lt_ rfl) fun a H => ?_
   exact Ans.fin H rfl
  ·refine Ans.mk rfl rfl fun a H => s_move H rfl rfl (lt_ rfl) fun a H => ?_
   exact Ans.fin H rfl
  ·intro a H
   replace H := H.weaken (L' := [(23, (.pointer l37)), (24, (.int .u8 l27)), (25, (.int .u8 c2))]) ⟨rfl, rfl, rfl, trivial⟩
   refine s_call H rfl body_58 (H.args (vs := [(.pointer l37), (.int .u8 l27), (.int .u8 c2)]) rfl) (lt_ rfl) h ?_ (fun c w' h H => e_panic (P := PP) (fn := Tryd.f64) H h)
   clear H h a
   rintro _ w39 a ⟨M40, rfl, h⟩ H
   refine c_nil ?_
   obtain ⟨hc41, hc42, a43, h44, h45, h46, h⟩ := h
   refine effQ.go [(9, (.pointer (some (a43.add (Int.toNat (s14) * 1)))))] H rfl rfl <| Stg.eff [0, 1, 2, 3, 4, 9] (by kernel_rfl) rfl (.cons ?_ (.cons ?_ (.cons ?_ (.cons ?_ (.cons ?_ (.cons ?_ .nil)))))) ?_
   ·refine Ans.mk rfl rfl fun a H => s_load (v := l29.v) H rfl rfl one_25 hc41 (lt_ rfl) fun a H => ?_
    exact Ans.fin H rfl
   ·refine Ans.mk rfl rfl fun a H => s_move H rfl rfl (lt_ rfl) fun a H => ?_
    exact Ans.fin H rfl
   ·refine Ans.mk rfl rfl fun a H => s_idxS (s := l29) H rfl rfl rfl slc_25 h32 h33 h34 (lt_ rfl) fun a H => ?_
    exact Ans.fin H rfl
   ·refine Ans.mk rfl rfl fun a H => s_load (v := l35.v) H rfl rfl one_24 hc42 (lt_ rfl) fun a H => ?_
    exact Ans.fin H rfl
   ·refine Ans.mk rfl rfl fun a H => s_move H rfl rfl (lt_ rfl) fun a H => ?_
    exact Ans.fin H rfl
   ·refine Ans.mk rfl rfl fun a H => s_idxS (s := l35) H rfl rfl rfl slc_24 h44 h45 h46 (lt_ rfl) fun a H => ?_
    exact Ans.fin H rfl
   ·intro a H
    replace H := H.weaken (L' := [(26, (.int .u8 M40)), (27, (.pointer (some (a43.add (Int.toNat (s14) * 1)))))]) ⟨rfl, rfl, trivial⟩
    obtain ⟨h48, h49, h⟩ := h
    refine s_sto (p := a43.add (Int.toNat (s14) * 1)) (v := (.int .u8 M40)) H rfl rfl rfl rfl one_5 rfl h48 h49 ?_
    clear H
    intro H
    generalize hww47 : World.setCell w39 (a43.add (Int.toNat (s14) * 1)) (.int .u8 M40) = w47 at h ⊢
    have w47S : SetAt w39 (a43.add (Int.toNat (s14) * 1)) (.int .u8 M40) w47 := ⟨hww47.symm⟩
    clear hww47 h48 h49
    refine c_nil <| effQ.go0 [] H rfl rfl <| Stg.fin [] (by kernel_rfl) .nil ?_
    ·intro a H
     replace H := H.weaken (L' := [(0, (.i i1)), (1, (.int .u8 c2)), (2, (.pointer (some c3))), (3, (.pointer (some c4))), (11, l12.v), (12, (.i (l12.l : Int))), (13, (.i s14))]) ⟨rfl, rfl, rfl, rfl, rfl, rfl, rfl, trivial⟩
     refine hK21 _ _ <| c_reg <| s_bin H rfl rfl rfl r_add (lt_ rfl) fun a H => s_move H rfl rfl (lt_ rfl) fun a H => c_nil <| Exists.intro (wr .i64 (s14 + 1)) ⟨h.1, h.2, H.weaken ⟨rfl, rfl, rfl, rfl, rfl, rfl, rfl, trivial⟩⟩
 ·replace h := h.2 h20
  refine c_exit ?_
  first | (simp only [Exit.then, Exit.inBlock, ↓reduceIte]; fail_if_success simp only [Nat.reduceEqDiff]) | simp only [Exit.then, Exit.inBlock, ↓reduceIte, Nat.reduceEqDiff]
  exact e_ret0 H rfl h

theorem sim_gf_Field_Inv (f1 : Option Addr) (a2 : Int) (w : World) (Q : Ending → World → Prop) (h : vc_gf_Field_Inv f1 a2 w Q) : Calls PP F_gf_Field_Inv #[(.pointer f1), (.int .u8 a2)] w Q := by
 unfold vc_gf_Field_Inv at h
 refine enter (n := 22) Tryd.func65 rfl rfl (Nat.le_of_ble_eq_true rfl) fun a H => c_seq fun K3 hK3 => c_reg <| s_assign H rfl rfl (lt_ rfl) fun a H => s_assign H rfl rfl (lt_ rfl) fun a H => c_nil <| hK3 _ _ <| c_seq fun K4 hK4 => c_seq fun K5 hK5 => c_reg <| s_move H rfl rfl (lt_ rfl) fun a H => s_bin H rfl rfl rfl (r_eqP0 ptr_65) (lt_ rfl) fun a H => c_nil <| hK5 _ _ <| c_cond H rfl (fun h6 => ?_) (fun h6 => ?_)
 ·replace h := h.1 h6
  refine c_seq fun K7 hK7 => c_reg <| s_assign H rfl rfl (lt_ rfl) fun a H => s_assign H rfl rfl (lt_ rfl) fun a H => c_nil <| hK7 _ _ <| c_ret ?_
  exact e_ret2 H rfl rfl rfl h
 ·replace h := h.2 h6
  refine c_skip <| hK4 _ _ <| c_seq fun K8 hK8 => c_seq fun K9 hK9 => c_reg <| s_move H rfl rfl (lt_ rfl) fun a H => s_bin H rfl rfl rfl r_eql (lt_ rfl) fun a H => c_nil <| hK9 _ _ <| c_cond H rfl (fun h10 => ?_) (fun h10 => ?_)
  ·replace h := h.1 h10
   refine c_seq fun K11 hK11 => c_reg <| s_assign H rfl rfl (lt_ rfl) fun a H => s_assign H rfl rfl (lt_ rfl) fun a H => c_nil <| hK11 _ _ <| c_ret ?_
   exact e_ret2 H rfl rfl rfl h
  ·replace h := h.2 h10
   refine c_skip <| hK8 _ _ <| c_seq fun K12 hK12 => c_regD mixed (by kernel_rfl) ?_
   iterate 3 refine z_move H rfl rfl (lt_ rfl) fun a H => ?_
   obtain ⟨a14, h23, h⟩ := h
   revert H
   subst h23
   intro H
   refine z_nil H rfl rfl (lt_ rfl) fun a H => z_fld H rfl rfl fld_132_2 (lt_ rfl) fun a H => ?_
   obtain ⟨h15, h16, h⟩ := h
   refine z_idxA H rfl rfl rfl arr_130 h15 h16 (lt_ rfl) fun a H => ?_
   obtain ⟨l17, hc18, h⟩ := h
   refine z_load (v := (.i l17)) H rfl rfl one_3 hc18 (lt_ rfl) fun a H => z_bin H rfl rfl rfl r_sub (lt_ rfl) fun a H => z_nil H rfl rfl (lt_ rfl) fun a H => z_fld H rfl rfl fld_132_1 (lt_ rfl) fun a H => ?_
   obtain ⟨h19, h20, h⟩ := h
   refine z_idxA H rfl rfl rfl arr_129 h19 h20 (lt_ rfl) fun a H => ?_
   obtain ⟨l21, hc22, h⟩ := h
   refine z_load (v := (.int .u8 l21)) H rfl rfl one_5 hc22 (lt_ rfl) fun a H => z_assign H rfl rfl (lt_ rfl) fun a H => z_assign H rfl rfl (lt_ rfl) fun a H => wpQuiet_nil ?_
   rintro _ ⟨k13, rfl⟩
   replace h := h k13
   refine hK12 _ _ <| c_ret ?_
   exact e_ret2 H rfl rfl rfl h

theorem sim_stripe_refusal_Unwrap (r1 : Option Addr) (w : World) (Q : Ending → World → Prop) (h : vc_stripe_refusal_Unwrap r1 w Q) : Calls PP F_stripe_refusal_Unwrap #[(.pointer r1)] w Q := by
 unfold vc_stripe_refusal_Unwrap at h
 refine enter (n := 8) Tryd.func88 rfl rfl (Nat.le_of_ble_eq_true rfl) fun a H => c_seq fun K2 hK2 => c_reg <| s_assign H rfl rfl (lt_ rfl) fun a H => c_nil <| hK2 _ _ <| c_seq fun K3 hK3 => c_reg <| s_move H rfl rfl (lt_ rfl) fun a H => ?_
 obtain ⟨a4, h7, h⟩ := h
 revert H
 subst h7
 intro H
 refine s_nil H rfl rfl (lt_ rfl) fun a H => s_fld H rfl rfl fld_81_1 (lt_ rfl) fun a H => ?_
 obtain ⟨l5, hc6, h⟩ := h
 refine s_load (v := (.i l5)) H rfl rfl one_32 hc6 (lt_ rfl) fun a H => s_iface H rfl rfl ni_32 (lt_ rfl) fun a H => s_assign H rfl rfl (lt_ rfl) fun a H => c_nil <| hK3 _ _ <| c_ret ?_
 exact e_ret1 H rfl rfl h
end Go.Proofs.YteoeboeaanjehaaDoor
