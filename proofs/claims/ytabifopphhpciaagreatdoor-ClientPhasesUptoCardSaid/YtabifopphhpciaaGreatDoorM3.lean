/-
  The conditions give the machine's calls; printed by vcgen.py.
-/
import Derived.Test.YtabifopphhpciaaGreatDoorRecVc
namespace Go.Proofs.YtabifopphhpciaaGreatDoor
open Go Go.Vc
set_option maxRecDepth 100000
set_option maxHeartbeats 4000000
theorem sim_sherdlaw18_town (n1 k2 : Int) (w : World) (Q : Ending → World → Prop) (h : vc_sherdlaw18_town n1 k2 w Q) : Calls PP F_sherdlaw18_town #[(.i n1), (.i k2)] w Q := by
 unfold vc_sherdlaw18_town at h
 have eP {L : List (Nat × Value)} (c : List PanicEntry) (w' : World) (a : Act) (h : Q (.panicked c) w') (H : Has 46 [] a L) : bodyPost PP Tryz.f7 Q (.panic c) a w' := e_panic H h
 refine enter (n := 46) Tryz.func7 rfl rfl (le_ rfl) fun a H => sr fun K3 hK3 => ww H <| ag rfl rfl <| fun a H => nk hK3 <| sr fun K4 hK4 => ww H <| mv rfl rfl <| cl1 h body_34 rfl rfl eP fun m6 w5 h => bn rfl rfl r_add rfl <| fun a H => s_build H rfl (by rw [H.parts (vs := [(0, (.i (wr .i64 (m6 + 1))))]) rfl]; exact bd_35_ii640 _ (wr .i64 (m6 + 1))) (lt_ rfl) fun a H => s_build H rfl (by rw [H.parts (vs := [(0, (.agg #[(.i (wr .i64 (m6 + 1))), (.i 0), (.i 0)]))]) rfl]; exact bd_38_ii64ii64ii640 _ (wr .i64 (m6 + 1)) 0 0) (lt_ rfl) fun a H => ww H <| bx h rfl rfl rfl rfl fun b7 w8 n9 h => ag rfl rfl <| fun a H => nk hK4 <| sr fun K10 hK10 => ww H <| mv rfl rfl <| mv rfl rfl <| mv rfl rfl <| nl rfl rfl <| fd rfl fld_38_0 rfl <| fd rfl fld_35_0 rfl <| fun a H => s_load (v := (.i (wr .i64 (m6 + 1)))) H rfl rfl one_3 (n9.cell (i := 0) rfl) (lt_ rfl) fun a H => ww H <| cl1 h body_34 rfl rfl eP fun m12 w11 h => bn rfl rfl r_add rfl <| nl rfl rfl <| fd rfl fld_38_0 rfl <| fd rfl fld_35_1 rfl <| st h rfl rfl one_3 rfl fun w13 w13S h => fun a H => nk hK10 <| c_seq fun K16 hK16 => ?_
 refine sr fun K17 hK17 => ww H <| ag rfl rfl <| fun a H => nk hK17 <| c_block ?_
 obtain ⟨I20, m21, h43, h44⟩ := h
 refine c_loop (σ := Int) (fun z w => I20 z w) (fun z w => m21 z w) (fun z => [(5, (.pointer (some (blk b7)))), (6, (.i z))]) 0 h43 (H.weaken ⟨rfl, rfl, trivial⟩) ?_
 clear H h43
 rintro i18 a w19 h H
 replace h := h44 i18 w19 h
 clear h44
 replace H : Has 46 [] a [(5, (.pointer (some (blk b7)))), (6, (.i i18))] := H
 obtain ⟨l24, hc25, h⟩ := h
 refine c_seq fun K22 hK22 => sr fun K23 hK23 => ww H <| mv rfl rfl <| mv rfl rfl <| nl rfl rfl <| fd rfl fld_38_0 rfl <| fd rfl fld_35_0 rfl <| ld rfl one_3 hc25 rfl <| bn rfl rfl r_lss rfl <| fun a H => nk hK23 <| cd H rfl h (fun h26 h => ?_) (fun h26 h => ?_)
 ·obtain ⟨l28, hc29, h⟩ := h
  refine c_skip <| hK22 _ _ <| c_seq fun K27 hK27 => c_block <| c_reg <| ww H <| mv rfl rfl <| mv rfl rfl <| nl rfl rfl <| fd rfl fld_38_1 rfl <| ld rfl one_36 hc29 rfl <| fun a H => s_build H rfl (by rw [H.parts (vs := []) rfl]; exact bd_97 _) (lt_ rfl) fun a H => ww H <| bx h rfl rfl rfl rfl fun b30 w31 n32 h => fun a H => ?_
  replace h := h.get
  obtain ⟨b33, w34, n35, h⟩ := h
  refine s_bslc H rfl (by rw [H.parts (vs := [(0, (.pointer (some (blk b30))))]) rfl]; exact bs_36_1_p0 w31 (some (blk b30))) (lt_ rfl) ?_
  rw [← n35.at_]
  clear H a
  intro a H
  refine n35.go ?_
  obtain ⟨s36, w37, h38, h⟩ := h
  refine s_blt H rfl (H.args (vs := [l28.v, (Slc.v (Slc.mk (some (blk b33)) 1 1))]) rfl) (lt_ rfl) (fun cs => b_app (z := s36) h38) ?_
  clear H a h38
  intro a H
  refine ww H <| nl rfl rfl <| fd rfl fld_38_1 rfl <| st h rfl rfl one_36 rfl fun w39 w39S h => fun a H => nk hK27 <| c_reg <| ww H <| mv rfl rfl <| bn rfl rfl r_add rfl <| ag rfl rfl <| fun a H => c_nil <| Exists.intro (wr .i64 (i18 + 1)) ⟨h.1, h.2, H.weaken ⟨rfl, rfl, trivial⟩⟩
 ·refine c_exit ?_
  first | (simp only [Exit.then, Exit.inBlock, ↓reduceIte]; fail_if_success simp only [Nat.reduceEqDiff]) | simp only [Exit.then, Exit.inBlock, ↓reduceIte, Nat.reduceEqDiff]
  exact hK16 _ _ <| sr fun K42 hK42 => ww H <| mv rfl rfl <| ag rfl rfl <| fun a H => nk hK42 <| c_ret <| e_ret1 H rfl rfl h

theorem sim_client_New (N1 K2 D3 i4 : Int) (w : World) (Q : Ending → World → Prop) (h : vc_client_New N1 K2 D3 i4 w Q) : Calls PP F_client_New #[(.agg #[(.i N1), (.i K2), (.i D3)]), (.i i4)] w Q := by
 unfold vc_client_New at h
 have eP {L : List (Nat × Value)} (c : List PanicEntry) (w' : World) (a : Act) (h : Q (.panicked c) w') (H : Has 37 [] a L) : bodyPost PP Tryz.f8 Q (.panic c) a w' := e_panic H h
 refine enter (n := 37) Tryz.func8 rfl rfl (le_ rfl) fun a H => sr fun K5 hK5 => ww H <| bx h rfl rfl rfl rfl fun b6 w7 n8 h => ag rfl rfl <| ag rfl rfl <| fun a H => nk hK5 <| c_seq fun K9 hK9 => sr fun K10 hK10 => ww H <| lN (l := [(.i N1), (.i K2), (.i D3)]) rfl agg_35 rfl ⟨(n8.cell (i := 0) rfl), (n8.cell (i := 1) rfl), (n8.cell (i := 2) rfl), trivial⟩ rfl <| cl1 h body_35 rfl rfl eP fun C12 w11 h => ag rfl rfl <| fun a H => nk hK10 <| sr fun K13 hK13 => ww H <| mv rfl rfl <| bn rfl rfl r_neq rfl <| fun a H => nk hK13 <| cd H rfl h (fun h14 h => ?_) (fun h14 h => ?_)
 ·exact sr fun K15 hK15 => ww H <| mv rfl rfl <| ag rfl rfl <| ag rfl rfl <| fun a H => nk hK15 <| c_ret <| e_ret2 H rfl rfl rfl h
 ·refine c_skip <| hK9 _ _ <| c_seq fun K16 hK16 => sr fun K17 hK17 => ww H <| mv rfl rfl <| bn rfl rfl r_lss rfl <| mv rfl rfl <| fun a H => g_join (n := 37) [(19, (.bool ((decide (i4 < 1)) || (decide (65535 < i4))))), (1, (.i i4)), (2, (.pointer (some (blk b6))))] (.succ (.succ (.succ (.zero _)))) ?_ ?_
  ·intro h19
   try clear h
   rcases Bool.eq_false_or_eq_true (decide (i4 < 1)) with h18 | h18
   ·replace H := H.ch (t := 16) (b := true) rfl h18
    exact ww H <| sk rfl rfl rfl rfl <| sk rfl rfl rfl rfl <| pT rfl rfl rfl <| fun a H => h19 _ (H.weaken ⟨by rw [h18]; rfl, rfl, rfl, trivial⟩)
   ·replace H := H.ch (t := 16) (b := false) rfl h18
    exact ww H <| gmv rfl rfl rfl rfl <| gbn rfl rfl rfl rfl r_gtr rfl <| pF rfl rfl rfl <| fun a H => h19 _ (H.weaken ⟨by rw [h18]; rfl, rfl, rfl, trivial⟩)
  ·clear H a
   intro a H
   refine nk hK17 <| cd H rfl h (fun h20 h => ?_) (fun h20 h => ?_)
   ·exact sr fun K21 hK21 => ww H <| ag rfl rfl <| ag rfl rfl <| fun a H => nk hK21 <| c_ret <| e_ret2 H rfl rfl rfl h
   ·obtain ⟨l23, hc24, l25, hc26, h⟩ := h
    refine c_skip <| hK16 _ _ <| sr fun K22 hK22 => ww H <| fd rfl fld_35_0 rfl <| ld rfl one_3 hc24 rfl <| fd rfl fld_35_1 rfl <| ld rfl one_3 hc26 rfl <| cl2 h body_11 rfl rfl eP fun N28 N29 w27 h => mv rfl rfl <| ex rfl rfl rfl <| ex rfl rfl rfl <| ag rfl rfl <| ag rfl rfl <| fun a H => nk hK22 <| c_seq fun K30 hK30 => sr fun K31 hK31 => ww H <| mv rfl rfl <| bn rfl rfl r_neq rfl <| fun a H => nk hK31 <| cd H rfl h (fun h32 h => ?_) (fun h32 h => ?_)
    ·exact sr fun K33 hK33 => ww H <| mv rfl rfl <| ag rfl rfl <| ag rfl rfl <| fun a H => nk hK33 <| c_ret <| e_ret2 H rfl rfl rfl h
    ·obtain ⟨N35, hc36, K37, hc38, D39, hc40, g41, w42, h43, h⟩ := h
     refine c_skip <| hK30 _ _ <| sr fun K34 hK34 => ww H <| lN (l := [(.i N35), (.i K37), (.i D39)]) rfl agg_35 rfl ⟨hc36, hc38, hc40, trivial⟩ rfl <| mv rfl rfl <| mv rfl rfl <| fun a H => s_mkm H rfl h43 (lt_ rfl) ?_
     clear H a h43
     intro a H
     exact s_build H rfl (by rw [H.parts (vs := [(0, (.agg #[(.i N35), (.i K37), (.i D39)])), (1, (.i i4)), (2, (.pointer N28)), (4, (.map (some g41)))]) rfl]; exact bd_102_ii64ii64ii640_ii641_p2_m4 _ N35 K37 D39 i4 N28 (some g41)) (lt_ rfl) fun a H => ww H <| bx h rfl rfl rfl rfl fun b44 w45 n46 h => ag rfl rfl <| ag rfl rfl <| fun a H => nk hK34 <| c_ret <| e_ret2 H rfl rfl rfl h

theorem sim_sherdlaw18_Tale_id (N1 K2 : Int) (V3 I4 P5 : Slc) (i6 : Int) (w : World) (Q : Ending → World → Prop) (h : vc_sherdlaw18_Tale_id N1 K2 V3 I4 P5 i6 w Q) : Calls PP F_sherdlaw18_Tale_id #[(.agg #[(.i N1), (.i K2), V3.v, I4.v, P5.v]), (.i i6)] w Q := by
 unfold vc_sherdlaw18_Tale_id at h
 have eP {L : List (Nat × Value)} (c : List PanicEntry) (w' : World) (a : Act) (h : Q (.panicked c) w') (H : Has 17 [] a L) : bodyPost PP Tryz.f9 Q (.panic c) a w' := e_panic H h
 refine enter (n := 17) Tryz.func9 rfl rfl (le_ rfl) fun a H => sr fun K7 hK7 => ww H <| bx h rfl rfl rfl rfl fun b8 w9 n10 h => ag rfl rfl <| fun a H => nk hK7 <| c_seq fun K11 hK11 => sr fun K12 hK12 => ww H <| mv rfl rfl <| fd rfl fld_25_3 rfl <| fun a H => s_load (v := I4.v) H rfl rfl one_23 (n10.cell (i := 3) rfl) (lt_ rfl) fun a H => ww H <| bl (vs := [I4.v]) rfl rfl (fun cs => b_lenS (z := I4) sl_23) <| bn rfl rfl r_lss rfl <| fun a H => nk hK12 <| cd H rfl h (fun h13 h => ?_) (fun h13 h => ?_)
 ·refine sr fun K14 hK14 => ww H <| fd rfl fld_25_3 rfl <| fun a H => s_load (v := I4.v) H rfl rfl one_23 (n10.cell (i := 3) rfl) (lt_ rfl) fun a H => ?_
  obtain ⟨a15, h16, h17, h18, h⟩ := h
  refine ww H <| mv rfl rfl <| fun a H => s_idxS (s := I4) H rfl rfl rfl slc_23 h16 h17 h18 (lt_ rfl) fun a H => ?_
  obtain ⟨l19, hc20, h⟩ := h
  exact ww H <| ld rfl one_3 hc20 rfl <| cl1 h body_34 rfl rfl eP fun m22 w21 h => bn rfl rfl r_add rfl <| ag rfl rfl <| fun a H => nk hK14 <| c_ret <| e_ret1 H rfl rfl h
 ·exact c_skip <| hK11 _ _ <| sr fun K27 hK27 => ww H <| ag rfl rfl <| fun a H => nk hK27 <| c_ret <| e_ret1 H rfl rfl h

theorem sim_quorum_Size (N1 K2 D3 : Int) (w : World) (Q : Ending → World → Prop) (h : vc_quorum_Size N1 K2 D3 w Q) : Calls PP F_quorum_Size #[(.agg #[(.i N1), (.i K2), (.i D3)])] w Q := by
 unfold vc_quorum_Size at h
 have eP {L : List (Nat × Value)} (c : List PanicEntry) (w' : World) (a : Act) (h : Q (.panicked c) w') (H : Has 14 [] a L) : bodyPost PP Tryz.f10 Q (.panic c) a w' := e_panic H h
 refine enter (n := 14) Tryz.func10 rfl rfl (le_ rfl) fun a H => sr fun K4 hK4 => ww H <| bx h rfl rfl rfl rfl fun b5 w6 n7 h => ag rfl rfl <| ag rfl rfl <| fun a H => nk hK4 <| c_seq fun K8 hK8 => sr fun K9 hK9 => ww H <| lN (l := [(.i N1), (.i K2), (.i D3)]) rfl agg_35 rfl ⟨(n7.cell (i := 0) rfl), (n7.cell (i := 1) rfl), (n7.cell (i := 2) rfl), trivial⟩ rfl <| cl1 h body_35 rfl rfl eP fun C11 w10 h => bn rfl rfl r_neq rfl <| fun a H => nk hK9 <| cd H rfl h (fun h12 h => ?_) (fun h12 h => ?_)
 ·exact sr fun K13 hK13 => ww H <| ag rfl rfl <| ag rfl rfl <| fun a H => nk hK13 <| c_ret <| e_ret2 H rfl rfl rfl h
 ·obtain ⟨l15, hc16, l17, hc18, h⟩ := h
  exact c_skip <| hK8 _ _ <| sr fun K14 hK14 => ww H <| fd rfl fld_35_0 rfl <| ld rfl one_3 hc16 rfl <| fd rfl fld_35_1 rfl <| ld rfl one_3 hc18 rfl <| bn rfl rfl r_add rfl <| bn rfl rfl r_add rfl <| bn rfl rfl (r_quo (by decide)) rfl <| ag rfl rfl <| ag rfl rfl <| fun a H => nk hK14 <| c_ret <| e_ret2 H rfl rfl rfl h

theorem sim_code_New (n1 k2 : Int) (w : World) (Q : Ending → World → Prop) (h : vc_code_New n1 k2 w Q) : Calls PP F_code_New #[(.i n1), (.i k2)] w Q := by
 unfold vc_code_New at h
 have eP {L : List (Nat × Value)} (c : List PanicEntry) (w' : World) (a : Act) (h : Q (.panicked c) w') (H : Has 28 [] a L) : bodyPost PP Tryz.f11 Q (.panic c) a w' := e_panic H h
 refine enter (n := 28) Tryz.func11 rfl rfl (le_ rfl) fun a H => sr fun K3 hK3 => ww H <| ag rfl rfl <| ag rfl rfl <| fun a H => nk hK3 <| c_seq fun K4 hK4 => sr fun K5 hK5 => ww H <| mv rfl rfl <| bn rfl rfl r_lss rfl <| mv rfl rfl <| fun a H => g_join (n := 28) [(13, (.bool ((decide (k2 < 1)) || (decide (n1 < k2))))), (0, (.i n1)), (1, (.i k2))] (.succ (.succ (.succ (.succ (.zero _))))) ?_ ?_
 ·intro h7
  try clear h
  rcases Bool.eq_false_or_eq_true (decide (k2 < 1)) with h6 | h6
  ·replace H := H.ch (t := 9) (b := true) rfl h6
   exact ww H <| sk rfl rfl rfl rfl <| sk rfl rfl rfl rfl <| sk rfl rfl rfl rfl <| pT rfl rfl rfl <| fun a H => h7 _ (H.weaken ⟨by rw [h6]; rfl, rfl, rfl, trivial⟩)
  ·replace H := H.ch (t := 9) (b := false) rfl h6
   exact ww H <| gmv rfl rfl rfl rfl <| gmv rfl rfl rfl rfl <| gbn rfl rfl rfl rfl r_lss rfl <| pF rfl rfl rfl <| fun a H => h7 _ (H.weaken ⟨by rw [h6]; rfl, rfl, rfl, trivial⟩)
 ·clear H a
  intro a H
  refine ww H <| mv rfl rfl <| fun a H => g_join (n := 28) [(17, (.bool (((decide (k2 < 1)) || (decide (n1 < k2))) || (decide (255 < n1))))), (0, (.i n1)), (1, (.i k2))] (.succ (.succ (.succ (.zero _)))) ?_ ?_
  ·intro h9
   try clear h
   rcases Bool.eq_false_or_eq_true ((decide (k2 < 1)) || (decide (n1 < k2))) with h8 | h8
   ·replace H := H.ch (t := 14) (b := true) rfl h8
    exact ww H <| sk rfl rfl rfl rfl <| sk rfl rfl rfl rfl <| pT rfl rfl rfl <| fun a H => h9 _ (H.weaken ⟨by rw [h8]; rfl, rfl, rfl, trivial⟩)
   ·replace H := H.ch (t := 14) (b := false) rfl h8
    exact ww H <| gmv rfl rfl rfl rfl <| gbn rfl rfl rfl rfl r_gtr rfl <| pF rfl rfl rfl <| fun a H => h9 _ (H.weaken ⟨by rw [h8]; rfl, rfl, rfl, trivial⟩)
  ·clear H a
   intro a H
   refine nk hK5 <| cd H rfl h (fun h10 h => ?_) (fun h10 h => ?_)
   ·exact sr fun K11 hK11 => ww H <| ag rfl rfl <| ag rfl rfl <| fun a H => nk hK11 <| c_ret <| e_ret2 H rfl rfl rfl h
   ·exact c_skip <| hK4 _ _ <| sr fun K12 hK12 => ww H <| cl1 h body_36 rfl rfl eP fun S14 w13 h => ag rfl rfl <| fun a H => nk hK12 <| sr fun K15 hK15 => ww H <| mv rfl rfl <| mv rfl rfl <| mv rfl rfl <| mv rfl rfl <| mv rfl rfl <| mv rfl rfl <| cl1 h body_37 rfl rfl eP fun g17 w16 h => fun a H => s_build H rfl (by rw [H.parts (vs := [(0, (.pointer S14)), (1, (.i n1)), (2, (.i k2)), (3, g17.v)]) rfl]; exact bd_107_p0_ii641_ii642_s3 _ S14 n1 k2 g17) (lt_ rfl) fun a H => ww H <| bx h rfl rfl rfl rfl fun b18 w19 n20 h => ag rfl rfl <| ag rfl rfl <| fun a H => nk hK15 <| c_ret <| e_ret2 H rfl rfl rfl h

theorem sim_sherdlaw18_awake (w : World) (Q : Ending → World → Prop) (h : vc_sherdlaw18_awake w Q) : Calls PP F_sherdlaw18_awake #[] w Q := by
 unfold vc_sherdlaw18_awake at h
 have eP {L : List (Nat × Value)} (c : List PanicEntry) (w' : World) (a : Act) (h : Q (.panicked c) w') (H : Has 90 [] a L) : bodyPost PP Tryz.f12 Q (.panic c) a w' := e_panic H h
 refine enter (n := 90) Tryz.func12 rfl rfl (le_ rfl) fun a H => sr fun K1 hK1 => ww H <| ag rfl rfl <| fun a H => nk hK1 <| sr fun K2 hK2 => s_build H rfl (by rw [H.parts (vs := [(0, (.i 3)), (1, (.i 1))]) rfl]; exact bd_35_ii640_ii641 _ 3 1) (lt_ rfl) fun a H => ww H <| cl2 h body_8 rfl rfl eP fun N4 N5 w3 h => mv rfl rfl <| ex rfl rfl rfl <| ex rfl rfl rfl <| ag rfl rfl <| ag rfl rfl <| fun a H => nk hK2 <| c_seq fun K6 hK6 => sr fun K7 hK7 => ww H <| mv rfl rfl <| bn rfl rfl r_neq rfl <| mv rfl rfl <| fun a H => g_join (n := 90) [(18, (.bool ((decide (N5 ≠ 0)) || N4.isNone))), (1, (.pointer N4))] (.succ (.succ (.succ (.zero _)))) ?_ ?_
 ·intro h9
  try clear h
  rcases Bool.eq_false_or_eq_true (decide (N5 ≠ 0)) with h8 | h8
  ·replace H := H.ch (t := 15) (b := true) rfl h8
   exact ww H <| sk rfl rfl rfl rfl <| sk rfl rfl rfl rfl <| pT rfl rfl rfl <| fun a H => h9 _ (H.weaken ⟨by rw [h8]; rfl, rfl, trivial⟩)
  ·replace H := H.ch (t := 15) (b := false) rfl h8
   exact ww H <| gmv rfl rfl rfl rfl <| gbn rfl rfl rfl rfl (r_eqP0 ptr_30) rfl <| pF rfl rfl rfl <| fun a H => h9 _ (H.weaken ⟨by rw [h8]; rfl, rfl, trivial⟩)
 ·clear H a
  intro a H
  refine nk hK7 <| cd H rfl h (fun h10 h => ?_) (fun h10 h => ?_)
  ·exact sr fun K11 hK11 => ww H <| ag rfl rfl <| fun a H => nk hK11 <| c_ret <| e_ret1 H rfl rfl h
  ·refine c_skip <| hK6 _ _ <| sr fun K12 hK12 => ww H <| mv rfl rfl <| fun a H => ?_
   replace h := h.get
   obtain ⟨b13, w14, n15, h⟩ := h
   refine s_bslc H rfl (by rw [H.parts (vs := [(0, (.int .u8 120))]) rfl]; exact bs_49_1_iu80 w3 120) (lt_ rfl) ?_
   rw [← n15.at_]
   clear H a
   intro a H
   refine n15.go ?_
   obtain ⟨w17, h16, h⟩ := h
   refine s_cv H rfl rfl h16 (lt_ rfl) ?_
   clear H a h16
   intro a H
   refine ww H <| cl3 h body_13 rfl rfl eP fun P19 P20 P21 w18 h => mv rfl rfl <| ex rfl rfl rfl <| ex rfl rfl rfl <| ex rfl rfl rfl <| ag rfl rfl <| ag rfl rfl <| ag rfl rfl <| fun a H => nk hK12 <| c_seq fun K22 hK22 => sr fun K23 hK23 => ww H <| mv rfl rfl <| bn rfl rfl r_neq rfl <| mv rfl rfl <| fun a H => g_join (n := 90) [(32, (.bool ((decide (P21 ≠ 0)) || (decide (P19 ≠ 1))))), (1, (.pointer N4)), (4, P20.v)] (.succ (.succ (.succ (.zero _)))) ?_ ?_
   ·intro h25
    try clear h
    rcases Bool.eq_false_or_eq_true (decide (P21 ≠ 0)) with h24 | h24
    ·replace H := H.ch (t := 29) (b := true) rfl h24
     exact ww H <| sk rfl rfl rfl rfl <| sk rfl rfl rfl rfl <| pT rfl rfl rfl <| fun a H => h25 _ (H.weaken ⟨by rw [h24]; rfl, rfl, rfl, trivial⟩)
    ·replace H := H.ch (t := 29) (b := false) rfl h24
     exact ww H <| gmv rfl rfl rfl rfl <| gbn rfl rfl rfl rfl r_neq rfl <| pF rfl rfl rfl <| fun a H => h25 _ (H.weaken ⟨by rw [h24]; rfl, rfl, rfl, trivial⟩)
   ·clear H a
    intro a H
    refine ww H <| mv rfl rfl <| fun a H => g_join (n := 90) [(37, (.bool (((decide (P21 ≠ 0)) || (decide (P19 ≠ 1))) || (decide ((P20.l : Int) ≠ 3))))), (1, (.pointer N4)), (4, P20.v)] (.succ (.succ (.succ (.succ (.zero _))))) ?_ ?_
    ·intro h27
     try clear h
     rcases Bool.eq_false_or_eq_true ((decide (P21 ≠ 0)) || (decide (P19 ≠ 1))) with h26 | h26
     ·replace H := H.ch (t := 33) (b := true) rfl h26
      exact ww H <| sk rfl rfl rfl rfl <| sk rfl rfl rfl rfl <| sk rfl rfl rfl rfl <| pT rfl rfl rfl <| fun a H => h27 _ (H.weaken ⟨by rw [h26]; rfl, rfl, rfl, trivial⟩)
     ·replace H := H.ch (t := 33) (b := false) rfl h26
      exact ww H <| gmv rfl rfl rfl rfl <| fun a H => s_blt H (wantG H rfl rfl) (H.args (vs := [P20.v]) rfl) (lt_ rfl) (fun cs => b_lenS (z := P20) sl_46) fun a H => ww H <| gbn rfl rfl rfl rfl r_neq rfl <| pF rfl rfl rfl <| fun a H => h27 _ (H.weaken ⟨by rw [h26]; rfl, rfl, rfl, trivial⟩)
    ·clear H a
     intro a H
     obtain ⟨x36, h37, h38, h⟩ := h
     refine ww H <| mv rfl rfl <| fun a H => g_join (n := 90) [(44, (.bool x36)), (1, (.pointer N4)), (4, P20.v)] (.succ (.succ (.succ (.succ (.succ (.succ (.zero _))))))) ?_ ?_
     ·intro h29
      try clear h
      rcases Bool.eq_false_or_eq_true (((decide (P21 ≠ 0)) || (decide (P19 ≠ 1))) || (decide ((P20.l : Int) ≠ 3))) with h28 | h28
      ·replace H := H.ch (t := 38) (b := true) rfl h28
       refine ww H <| sk rfl rfl rfl rfl <| sk rfl rfl rfl rfl <| sk rfl rfl rfl rfl <| sk rfl rfl rfl rfl <| sk rfl rfl rfl rfl <| pT rfl rfl rfl <| fun a H => ?_
       replace h := h38 h28
       subst h
       exact h29 _ (H.weaken ⟨rfl, rfl, rfl, trivial⟩)
      ·replace H := H.ch (t := 38) (b := false) rfl h28
       replace h := h37 h28
       obtain ⟨a30, h31, h32, h33, h⟩ := h
       refine ww H <| gmv rfl rfl rfl rfl <| fun a H => s_idxS (s := P20) H (wantG H rfl rfl) rfl rfl slc_46 h31 h32 h33 (lt_ rfl) fun a H => ?_
       obtain ⟨l34, hc35, h⟩ := h
       refine ww H <| gfd rfl rfl rfl fld_56_0 rfl <| gld rfl rfl rfl one_3 hc35 rfl <| gbn rfl rfl rfl rfl r_neq rfl <| pF rfl rfl rfl <| fun a H => ?_
       subst h
       exact h29 _ (H.weaken ⟨rfl, rfl, rfl, trivial⟩)
     ·clear H a
      clear h37 h38
      intro a H
      obtain ⟨x47, h48, h49, h⟩ := h
      refine ww H <| mv rfl rfl <| fun a H => g_join (n := 90) [(51, (.bool x47)), (1, (.pointer N4))] (.succ (.succ (.succ (.succ (.succ (.succ (.zero _))))))) ?_ ?_
      ·intro h40
       try clear h
       rcases Bool.eq_false_or_eq_true x36 with h39 | h39
       ·replace H := H.ch (t := 45) (b := true) rfl h39
        refine ww H <| sk rfl rfl rfl rfl <| sk rfl rfl rfl rfl <| sk rfl rfl rfl rfl <| sk rfl rfl rfl rfl <| sk rfl rfl rfl rfl <| pT rfl rfl rfl <| fun a H => ?_
        replace h := h49 h39
        subst h
        exact h40 _ (H.weaken ⟨rfl, rfl, trivial⟩)
       ·replace H := H.ch (t := 45) (b := false) rfl h39
        replace h := h48 h39
        obtain ⟨a41, h42, h43, h44, h⟩ := h
        refine ww H <| gmv rfl rfl rfl rfl <| fun a H => s_idxS (s := P20) H (wantG H rfl rfl) rfl rfl slc_46 h42 h43 h44 (lt_ rfl) fun a H => ?_
        obtain ⟨l45, hc46, h⟩ := h
        refine ww H <| gfd rfl rfl rfl fld_56_2 rfl <| gld rfl rfl rfl one_3 hc46 rfl <| gbn rfl rfl rfl rfl r_neq rfl <| pF rfl rfl rfl <| fun a H => ?_
        subst h
        exact h40 _ (H.weaken ⟨rfl, rfl, trivial⟩)
      ·clear H a
       clear h48 h49
       intro a H
       refine nk hK23 <| cd H rfl h (fun h50 h => ?_) (fun h50 h => ?_)
       ·exact sr fun K51 hK51 => ww H <| ag rfl rfl <| fun a H => nk hK51 <| c_ret <| e_ret1 H rfl rfl h
       ·refine c_skip <| hK22 _ _ <| sr fun K52 hK52 => ww H <| mv rfl rfl <| fun a H => s_build H rfl (by rw [H.parts (vs := [(0, (.i 4)), (1, (.i 9))]) rfl]; exact bd_27_ii640_ii641 _ 4 9) (lt_ rfl) fun a H => s_build H rfl (by rw [H.parts (vs := [(0, (.i 2)), (1, (.i 7)), (2, (.i 0)), (3, (.i 1)), (4, (.string (ByteArray.mk #[107]))), (6, (.agg #[(.i 4), (.i 9)]))]) rfl]; exact bd_56_ii640_ii641_ii642_ii643_s4_ii64ii646 _ 2 7 0 1 (ByteArray.mk #[107]) 4 9) (lt_ rfl) fun a H => s_call H rfl body_19 (H.args (vs := [(.pointer N4), (.agg #[(.i 2), (.i 7), (.i 0), (.i 1), (.string (ByteArray.mk #[107])), (.i 0), (.i 0), (.i 4), (.i 9), (.bool false), Slc.nil.v])]) rfl) (lt_ rfl) h ?_ (fun c w' => eP c w' _)
        clear H h a
        rintro _ w53 a ⟨H54, O55, P56, S57, C58, C59, V60, H61, rfl, h⟩ H
        refine nk hK52 <| sr fun K62 hK62 => ww H <| mv rfl rfl <| fun a H => s_build H rfl (by rw [H.parts (vs := [(0, (.i 6)), (1, (.i 1))]) rfl]; exact bd_27_ii640_ii641 _ 6 1) (lt_ rfl) fun a H => s_build H rfl (by rw [H.parts (vs := [(0, (.i 2)), (1, (.i 7)), (2, (.i 0)), (3, (.i 1)), (4, (.string (ByteArray.mk #[107]))), (6, (.agg #[(.i 6), (.i 1)]))]) rfl]; exact bd_56_ii640_ii641_ii642_ii643_s4_ii64ii646 _ 2 7 0 1 (ByteArray.mk #[107]) 6 1) (lt_ rfl) fun a H => s_call H rfl body_19 (H.args (vs := [(.pointer N4), (.agg #[(.i 2), (.i 7), (.i 0), (.i 1), (.string (ByteArray.mk #[107])), (.i 0), (.i 0), (.i 6), (.i 1), (.bool false), Slc.nil.v])]) rfl) (lt_ rfl) h ?_ (fun c w' => eP c w' _)
        clear H h a
        rintro _ w63 a ⟨H64, O65, P66, S67, C68, C69, V70, H71, rfl, h⟩ H
        refine nk hK62 <| sr fun K72 hK72 => ww H <| mv rfl rfl <| fun a H => s_build H rfl (by rw [H.parts (vs := [(0, (.i 2)), (1, (.i 2))]) rfl]; exact bd_27_ii640_ii641 _ 2 2) (lt_ rfl) fun a H => s_build H rfl (by rw [H.parts (vs := [(0, (.i 2)), (1, (.i 7)), (2, (.i 2)), (3, (.i 1)), (4, (.string (ByteArray.mk #[107]))), (6, (.agg #[(.i 2), (.i 2)]))]) rfl]; exact bd_56_ii640_ii641_ii642_ii643_s4_ii64ii646 _ 2 7 2 1 (ByteArray.mk #[107]) 2 2) (lt_ rfl) fun a H => s_call H rfl body_19 (H.args (vs := [(.pointer N4), (.agg #[(.i 2), (.i 7), (.i 2), (.i 1), (.string (ByteArray.mk #[107])), (.i 0), (.i 0), (.i 2), (.i 2), (.bool false), Slc.nil.v])]) rfl) (lt_ rfl) h ?_ (fun c w' => eP c w' _)
        clear H h a
        rintro _ w73 a ⟨H74, O75, P76, S77, C78, C79, V80, H81, rfl, h⟩ H
        refine ww H <| mv rfl rfl <| ex rfl rfl rfl <| ex rfl rfl rfl <| ex rfl rfl rfl <| al h zero_60 rfl rfl rfl fun b82 w83 n84 h => ag rfl rfl <| sN h rfl rfl agg_60 rfl rfl fun w85 h => ag rfl rfl <| fun a H => nk hK72 <| sr fun K86 hK86 => ww H <| mv rfl rfl <| fun a H => s_un H rfl rfl r_not (lt_ rfl) fun a H => ww H <| mv rfl rfl <| fun a H => g_join (n := 90) [(74, (.bool ((!H81) && (decide ((H74.l : Int) = 3))))), (5, H74.v)] (.succ (.succ (.succ (.succ (.zero _))))) ?_ ?_
        ·intro h88
         try clear h
         rcases Bool.eq_false_or_eq_true (!H81) with h87 | h87
         ·replace H := H.ch (t := 70) (b := true) rfl h87
          exact ww H <| gmv rfl rfl rfl rfl <| fun a H => s_blt H (wantG H rfl rfl) (H.args (vs := [H74.v]) rfl) (lt_ rfl) (fun cs => b_lenS (z := H74) sl_46) fun a H => ww H <| gbn rfl rfl rfl rfl r_eql rfl <| pT rfl rfl rfl <| fun a H => h88 _ (H.weaken ⟨by rw [h87]; rfl, rfl, trivial⟩)
         ·replace H := H.ch (t := 70) (b := false) rfl h87
          exact ww H <| sk rfl rfl rfl rfl <| sk rfl rfl rfl rfl <| sk rfl rfl rfl rfl <| pF rfl rfl rfl <| fun a H => h88 _ (H.weaken ⟨by rw [h87]; rfl, rfl, trivial⟩)
        ·clear H a
         intro a H
         obtain ⟨x97, h98, h99, h⟩ := h
         refine ww H <| mv rfl rfl <| fun a H => g_join (n := 90) [(81, (.bool x97)), (5, H74.v)] (.succ (.succ (.succ (.succ (.succ (.succ (.zero _))))))) ?_ ?_
         ·intro h90
          try clear h
          rcases Bool.eq_false_or_eq_true ((!H81) && (decide ((H74.l : Int) = 3))) with h89 | h89
          ·replace H := H.ch (t := 75) (b := true) rfl h89
           replace h := h98 h89
           obtain ⟨a91, h92, h93, h94, h⟩ := h
           refine ww H <| gmv rfl rfl rfl rfl <| fun a H => s_idxS (s := H74) H (wantG H rfl rfl) rfl rfl slc_46 h92 h93 h94 (lt_ rfl) fun a H => ?_
           obtain ⟨l95, hc96, h⟩ := h
           refine ww H <| gfd rfl rfl rfl fld_56_0 rfl <| gld rfl rfl rfl one_3 hc96 rfl <| gbn rfl rfl rfl rfl r_eql rfl <| pT rfl rfl rfl <| fun a H => ?_
           subst h
           exact h90 _ (H.weaken ⟨rfl, rfl, trivial⟩)
          ·replace H := H.ch (t := 75) (b := false) rfl h89
           refine ww H <| sk rfl rfl rfl rfl <| sk rfl rfl rfl rfl <| sk rfl rfl rfl rfl <| sk rfl rfl rfl rfl <| sk rfl rfl rfl rfl <| pF rfl rfl rfl <| fun a H => ?_
           replace h := h99 h89
           subst h
           exact h90 _ (H.weaken ⟨rfl, rfl, trivial⟩)
         ·clear H a
          clear h98 h99
          intro a H
          obtain ⟨x110, h111, h112, h⟩ := h
          refine ww H <| mv rfl rfl <| fun a H => g_join (n := 90) [(89, (.bool x110))] (.succ (.succ (.succ (.succ (.succ (.succ (.succ (.zero _)))))))) ?_ ?_
          ·intro h101
           try clear h
           rcases Bool.eq_false_or_eq_true x97 with h100 | h100
           ·replace H := H.ch (t := 82) (b := true) rfl h100
            replace h := h111 h100
            obtain ⟨a102, h103, h104, h105, h⟩ := h
            refine ww H <| gmv rfl rfl rfl rfl <| fun a H => s_idxS (s := H74) H (wantG H rfl rfl) rfl rfl slc_46 h103 h104 h105 (lt_ rfl) fun a H => ?_
            obtain ⟨C106, hc107, C108, hc109, h⟩ := h
            refine ww H <| gfd rfl rfl rfl fld_56_5 rfl <| glN (l := [(.i C106), (.i C108)]) rfl rfl rfl agg_27 rfl ⟨hc107, hc109, trivial⟩ rfl <| fun a H => s_build H (wantG H rfl rfl) (by rw [H.parts (vs := [(0, (.i 6)), (1, (.i 7))]) rfl]; exact bd_27_ii640_ii641 _ 6 7) (lt_ rfl) fun a H => ww H <| gbn rfl rfl rfl rfl (r_eqst eqg_27 (eqst_27 0) rfl) rfl <| pT rfl rfl rfl <| fun a H => ?_
            subst h
            exact h101 _ (H.weaken ⟨rfl, trivial⟩)
           ·replace H := H.ch (t := 82) (b := false) rfl h100
            refine ww H <| sk rfl rfl rfl rfl <| sk rfl rfl rfl rfl <| sk rfl rfl rfl rfl <| sk rfl rfl rfl rfl <| sk rfl rfl rfl rfl <| sk rfl rfl rfl rfl <| pF rfl rfl rfl <| fun a H => ?_
            replace h := h112 h100
            subst h
            exact h101 _ (H.weaken ⟨rfl, trivial⟩)
          ·clear H a
           clear h111 h112
           intro a H
           exact ww H <| ag rfl rfl <| fun a H => nk hK86 <| c_ret <| e_ret1 H rfl rfl h

theorem sim_client_Client_Put (c1 : Option Addr) (k2 : ByteArray) (v3 : Slc) (w : World) (Q : Ending → World → Prop) (h : vc_client_Client_Put c1 k2 v3 w Q) : Calls PP F_client_Client_Put #[(.pointer c1), (.string k2), v3.v] w Q := by
 unfold vc_client_Client_Put at h
 have eP {L : List (Nat × Value)} (c : List PanicEntry) (w' : World) (a : Act) (h : Q (.panicked c) w') (H : Has 18 [] a L) : bodyPost PP Tryz.f13 Q (.panic c) a w' := e_panic H h
 refine enter (n := 18) Tryz.func13 rfl rfl (le_ rfl) fun a H => sr fun K4 hK4 => ww H <| ag rfl rfl <| ag rfl rfl <| ag rfl rfl <| fun a H => nk hK4 <| c_seq fun K5 hK5 => sr fun K6 hK6 => ww H <| mv rfl rfl <| bn rfl rfl (r_eqP0 ptr_30) rfl <| fun a H => nk hK6 <| cd H rfl h (fun h7 h => ?_) (fun h7 h => ?_)
 ·exact sr fun K8 hK8 => ww H <| ag rfl rfl <| ag rfl rfl <| ag rfl rfl <| fun a H => nk hK8 <| c_ret <| e_ret3 H rfl rfl rfl rfl h
 ·exact c_skip <| hK5 _ _ <| sr fun K9 hK9 => ww H <| mv rfl rfl <| mv rfl rfl <| mv rfl rfl <| cl3 h body_38 rfl rfl eP fun b11 b12 b13 w10 h => ex rfl rfl rfl <| ex rfl rfl rfl <| ex rfl rfl rfl <| ag rfl rfl <| ag rfl rfl <| ag rfl rfl <| fun a H => nk hK9 <| c_ret <| e_ret3 H rfl rfl rfl rfl h

theorem sim_sherdlaw18_value (b1 : Slc) (w : World) (Q : Ending → World → Prop) (h : vc_sherdlaw18_value b1 w Q) : Calls PP F_sherdlaw18_value #[b1.v] w Q := by
 unfold vc_sherdlaw18_value at h
 refine enter (n := 10) Tryz.func14 rfl rfl (le_ rfl) fun a H => sr fun K2 hK2 => ww H <| ag rfl rfl <| fun a H => nk hK2 <| sr fun K3 hK3 => ?_
 replace h := h.get
 obtain ⟨b4, w5, n6, h⟩ := h
 refine s_bslc H rfl (by rw [H.parts (vs := []) rfl]; exact bs_49_0 w) (lt_ rfl) ?_
 rw [← n6.at_]
 clear H a
 intro a H
 refine n6.go ?_
 obtain ⟨h7, h8, h9, h⟩ := h
 refine ww H <| mv rfl rfl <| mv rfl rfl <| bl (vs := [b1.v]) rfl rfl (fun cs => b_lenS (z := b1) sl_49) <| bl (vs := [(.i (b1.l : Int)), (.i 300)]) rfl rfl (fun cs => b_min) <| fun a H => s_slice (v := (Slc.v (b1.cut 1 (Int.toNat (0)) (Int.toNat (minI (b1.l : Int) 300))))) H rfl rfl ⟨rfl, rfl⟩ ⟨rfl, rfl⟩ ⟨rfl, rfl⟩ (r_sliceSlc (lo := none) (hi := (some (.i64, minI (b1.l : Int) 300))) slc_49 rfl rfl h7 h8 h9) (lt_ rfl) fun a H => ?_
 obtain ⟨s10, w11, h12, h⟩ := h
 refine s_blt H rfl (H.args (vs := [(Slc.v (Slc.mk (some (blk b4)) 0 0)), (Slc.v (b1.cut 1 (Int.toNat (0)) (Int.toNat (minI (b1.l : Int) 300))))]) rfl) (lt_ rfl) (fun cs => b_app (z := s10) h12) ?_
 clear H a h12
 intro a H
 exact ww H <| ag rfl rfl <| fun a H => nk hK3 <| c_ret <| e_ret1 H rfl rfl h
end Go.Proofs.YtabifopphhpciaaGreatDoor

namespace Go.Proofs.YtabifopphhpciaaGreatDoor
open Go Go.Vc
set_option maxRecDepth 100000
set_option maxHeartbeats 4000000
theorem sim_tag_Valid (C1 C2 : Int) (w : World) (Q : Ending → World → Prop) (h : vc_tag_Valid C1 C2 w Q) : Calls PP F_tag_Valid #[(.agg #[(.i C1), (.i C2)])] w Q := by
 unfold vc_tag_Valid at h
 have eP {L : List (Nat × Value)} (c : List PanicEntry) (w' : World) (a : Act) (h : Q (.panicked c) w') (H : Has 9 [] a L) : bodyPost PP Tryz.f15 Q (.panic c) a w' := e_panic H h
 refine enter (n := 9) Tryz.func15 rfl rfl (le_ rfl) fun a H => sr fun K3 hK3 => ww H <| bx h rfl rfl rfl rfl fun b4 w5 n6 h => ag rfl rfl <| fun a H => nk hK3 <| sr fun K7 hK7 => ww H <| lN (l := [(.i C1), (.i C2)]) rfl agg_27 rfl ⟨(n6.cell (i := 0) rfl), (n6.cell (i := 1) rfl), trivial⟩ rfl <| cl1 h body_39 rfl rfl eP fun Z9 w8 h => mv rfl rfl <| fun a H => ?_
 obtain ⟨R12, h, h25⟩ := h
 refine g_joinW (n := 9) R12 (fun x13 => [(8, (.bool x13))]) (.succ (.succ (.succ (.zero _)))) ?_ ?_
 ·intro h11
  clear h25
  rcases Bool.eq_false_or_eq_true Z9 with h10 | h10
  ·replace H := H.ch (t := 5) (b := true) rfl h10
   replace h := h.2 h10
   exact ww H <| sk rfl rfl rfl rfl <| sk rfl rfl rfl rfl <| pT rfl rfl rfl <| fun a H => h11 _ _ _ h (H.weaken ⟨rfl, trivial⟩)
  ·replace H := H.ch (t := 5) (b := false) rfl h10
   replace h := h.1 h10
   obtain ⟨C15, hc16, C17, hc18, h⟩ := h
   refine ww H <| glN (l := [(.i C15), (.i C17)]) rfl rfl rfl agg_27 rfl ⟨hc16, hc18, trivial⟩ rfl <| fun a H => s_call H (wantG H rfl rfl) body_40 (H.args (vs := [(.agg #[(.i C15), (.i C17)])]) rfl) (lt_ rfl) h ?_ (fun c w' => eP c w' _)
   clear H h a
   rintro _ w19 a ⟨p20, rfl, h⟩ H
   exact ww H <| pF rfl rfl rfl <| fun a H => h11 _ _ _ h (H.weaken ⟨rfl, trivial⟩)
 ·clear H a h
  intro a x13 w14 h H
  replace h := h25 x13 w14 h
  clear h25
  exact ww H <| ag rfl rfl <| fun a H => nk hK7 <| c_ret <| e_ret1 H rfl rfl h

theorem sim_stripe_Split (c1 : Option Addr) (v2 : Slc) (w : World) (Q : Ending → World → Prop) (h : vc_stripe_Split c1 v2 w Q) : Calls PP F_stripe_Split #[(.pointer c1), v2.v] w Q := by
 unfold vc_stripe_Split at h
 have eP {L : List (Nat × Value)} (c : List PanicEntry) (w' : World) (a : Act) (h : Q (.panicked c) w') (H : Has 19 [] a L) : bodyPost PP Tryz.f16 Q (.panic c) a w' := e_panic H h
 refine enter (n := 19) Tryz.func16 rfl rfl (le_ rfl) fun a H => sr fun K3 hK3 => ww H <| ag rfl rfl <| ag rfl rfl <| fun a H => nk hK3 <| c_seq fun K4 hK4 => sr fun K5 hK5 => ww H <| mv rfl rfl <| bn rfl rfl (r_eqP0 ptr_42) rfl <| fun a H => nk hK5 <| cd H rfl h (fun h6 h => ?_) (fun h6 h => ?_)
 ·exact sr fun K7 hK7 => ww H <| ag rfl rfl <| ag rfl rfl <| fun a H => nk hK7 <| c_ret <| e_ret2 H rfl rfl rfl h
 ·refine c_skip <| hK4 _ _ <| c_seq fun K8 hK8 => sr fun K9 hK9 => ww H <| mv rfl rfl <| bl (vs := [v2.v]) rfl rfl (fun cs => b_lenS (z := v2) sl_49) <| bn rfl rfl r_gtr rfl <| fun a H => nk hK9 <| cd H rfl h (fun h10 h => ?_) (fun h10 h => ?_)
  ·exact sr fun K11 hK11 => ww H <| ag rfl rfl <| ag rfl rfl <| fun a H => nk hK11 <| c_ret <| e_ret2 H rfl rfl rfl h
  ·exact c_skip <| hK8 _ _ <| sr fun K12 hK12 => ww H <| mv rfl rfl <| mv rfl rfl <| mv rfl rfl <| cl1 h body_43 rfl rfl eP fun K14 w13 h => cl1 h body_42 rfl rfl eP fun c16 w15 h => cl2 h body_41 rfl rfl eP fun E18 E19 w17 h => ex rfl rfl rfl <| ex rfl rfl rfl <| ag rfl rfl <| ag rfl rfl <| fun a H => nk hK12 <| c_ret <| e_ret2 H rfl rfl rfl h

theorem sim_sherdlaw18_mixed (n1 : Int) (p2 : Slc) (f3 : Int) (w : World) (Q : Ending → World → Prop) (h : vc_sherdlaw18_mixed n1 p2 f3 w Q) : Calls PP F_sherdlaw18_mixed #[(.i n1), p2.v, (.i f3)] w Q := by
 unfold vc_sherdlaw18_mixed at h
 have eP {L : List (Nat × Value)} (c : List PanicEntry) (w' : World) (a : Act) (h : Q (.panicked c) w') (H : Has 58 [] a L) : bodyPost PP Tryz.f17 Q (.panic c) a w' := e_panic H h
 refine enter (n := 58) Tryz.func17 rfl rfl (le_ rfl) fun a H => sr fun K4 hK4 => ww H <| ag rfl rfl <| fun a H => nk hK4 <| sr fun K5 hK5 => ww H <| ag rfl rfl <| fun a H => nk hK5 <| c_seq fun K6 hK6 => sr fun K7 hK7 => ww H <| ag rfl rfl <| fun a H => nk hK7 <| c_block ?_
 obtain ⟨I11, m12, h79, h80⟩ := h
 refine c_loop (σ := Slc × Int) (fun z w => I11 z.1 z.2 w) (fun z w => m12 z.1 z.2 w) (fun z => [(0, (.i n1)), (1, p2.v), (2, (.i f3)), (7, z.1.v), (8, (.i z.2))]) (Slc.nil, 0) h79 (H.weaken ⟨rfl, rfl, rfl, rfl, rfl, trivial⟩) ?_
 clear H h79
 rintro ⟨l8, i9⟩ a w10 h H
 replace h := h80 l8 i9 w10 h
 clear h80
 replace H : Has 58 [] a [(0, (.i n1)), (1, p2.v), (2, (.i f3)), (7, l8.v), (8, (.i i9))] := H
 refine c_seq fun K13 hK13 => sr fun K14 hK14 => ww H <| mv rfl rfl <| mv rfl rfl <| bn rfl rfl r_lss rfl <| fun a H => nk hK14 <| cd H rfl h (fun h15 h => ?_) (fun h15 h => ?_)
 ·refine c_skip <| hK13 _ _ <| c_seq fun K16 hK16 => c_block <| c_reg <| ww H <| mv rfl rfl <| mv rfl rfl <| fun a H => ?_
  replace h := h.get
  obtain ⟨b17, w18, n19, h⟩ := h
  refine s_bslc H rfl (by rw [H.parts (vs := [(0, (.i i9))]) rfl]; exact bs_23_1_ii640 w10 i9) (lt_ rfl) ?_
  rw [← n19.at_]
  clear H a
  intro a H
  refine n19.go ?_
  obtain ⟨s20, w21, h22, h⟩ := h
  refine s_blt H rfl (H.args (vs := [l8.v, (Slc.v (Slc.mk (some (blk b17)) 1 1))]) rfl) (lt_ rfl) (fun cs => b_app (z := s20) h22) ?_
  clear H a h22
  intro a H
  refine ww H <| ag rfl rfl <| fun a H => nk hK16 <| c_reg <| ww H <| mv rfl rfl <| bn rfl rfl r_add rfl <| ag rfl rfl <| fun a H => c_nil <| Exists.intro (s20, wr .i64 (i9 + 1)) ⟨h.1, h.2, H.weaken ⟨rfl, rfl, rfl, rfl, rfl, trivial⟩⟩
 ·refine c_exit ?_
  first | (simp only [Exit.then, Exit.inBlock, ↓reduceIte]; fail_if_success simp only [Nat.reduceEqDiff]) | simp only [Exit.then, Exit.inBlock, ↓reduceIte, Nat.reduceEqDiff]
  refine hK6 _ _ <| c_seq fun K23 hK23 => sr fun K24 hK24 => ww H <| ag rfl rfl <| fun a H => nk hK24 <| c_block ?_
  obtain ⟨I27, m28, h77, h78⟩ := h
  refine c_loop (σ := Int) (fun z w => I27 z w) (fun z w => m28 z w) (fun z => [(0, (.i n1)), (1, p2.v), (2, (.i f3)), (7, l8.v), (9, (.i z))]) 0 h77 (H.weaken ⟨rfl, rfl, rfl, rfl, rfl, trivial⟩) ?_
  clear H h77
  rintro i25 a w26 h H
  replace h := h78 i25 w26 h
  clear h78
  replace H : Has 58 [] a [(0, (.i n1)), (1, p2.v), (2, (.i f3)), (7, l8.v), (9, (.i i25))] := H
  refine c_seq fun K29 hK29 => sr fun K30 hK30 => ww H <| mv rfl rfl <| mv rfl rfl <| bn rfl rfl r_lss rfl <| mv rfl rfl <| fun a H => g_join (n := 58) [(31, (.bool ((decide (i25 < n1)) && (decide ((wr .i64 (f3 + i25)) < (p2.l : Int)))))), (0, (.i n1)), (1, p2.v), (2, (.i f3)), (7, l8.v), (9, (.i i25))] (.succ (.succ (.succ (.succ (.succ (.succ (.succ (.zero _)))))))) ?_ ?_
  ·intro h32
   try clear h
   rcases Bool.eq_false_or_eq_true (decide (i25 < n1)) with h31 | h31
   ·replace H := H.ch (t := 24) (b := true) rfl h31
    exact ww H <| gmv rfl rfl rfl rfl <| gmv rfl rfl rfl rfl <| gbn rfl rfl rfl rfl r_add rfl <| gmv rfl rfl rfl rfl <| fun a H => s_blt H (wantG H rfl rfl) (H.args (vs := [p2.v]) rfl) (lt_ rfl) (fun cs => b_lenS (z := p2) sl_23) fun a H => ww H <| gbn rfl rfl rfl rfl r_lss rfl <| pT rfl rfl rfl <| fun a H => h32 _ (H.weaken ⟨by rw [h31]; rfl, rfl, rfl, rfl, rfl, rfl, trivial⟩)
   ·replace H := H.ch (t := 24) (b := false) rfl h31
    exact ww H <| sk rfl rfl rfl rfl <| sk rfl rfl rfl rfl <| sk rfl rfl rfl rfl <| sk rfl rfl rfl rfl <| sk rfl rfl rfl rfl <| sk rfl rfl rfl rfl <| pF rfl rfl rfl <| fun a H => h32 _ (H.weaken ⟨by rw [h31]; rfl, rfl, rfl, rfl, rfl, rfl, trivial⟩)
  ·clear H a
   intro a H
   refine nk hK30 <| cd H rfl h (fun h33 h => ?_) (fun h33 h => ?_)
   ·obtain ⟨a36, h37, h38, h39, h⟩ := h
    refine c_skip <| hK29 _ _ <| c_seq fun K34 hK34 => c_block <| sr fun K35 hK35 => ww H <| mv rfl rfl <| mv rfl rfl <| mv rfl rfl <| bn rfl rfl r_add rfl <| fun a H => s_idxS (s := p2) H rfl rfl rfl slc_23 h37 h38 h39 (lt_ rfl) fun a H => ?_
    obtain ⟨l40, hc41, h⟩ := h
    refine ww H <| ld rfl one_3 hc41 rfl <| mv rfl rfl <| cl1 h body_34 rfl rfl eP fun m43 w42 h => fun a H => ?_
    obtain ⟨a45, h46, h47, h48, h⟩ := h
    refine ww H <| ag rfl rfl <| fun a H => nk hK35 <| sr fun K44 hK44 => ww H <| mv rfl rfl <| mv rfl rfl <| fun a H => s_idxS (s := l8) H rfl rfl rfl slc_23 h46 h47 h48 (lt_ rfl) fun a H => ?_
    obtain ⟨l49, hc50, a52, h53, h54, h55, h⟩ := h
    refine ww H <| ld rfl one_3 hc50 rfl <| ag rfl rfl <| fun a H => nk hK44 <| sr fun K51 hK51 => ww H <| mv rfl rfl <| mv rfl rfl <| mv rfl rfl <| mv rfl rfl <| fun a H => s_idxS (s := l8) H rfl rfl rfl slc_23 h53 h54 h55 (lt_ rfl) fun a H => ?_
    obtain ⟨l56, hc57, a58, h59, h60, h61, h⟩ := h
    refine ww H <| ld rfl one_3 hc57 rfl <| fun a H => s_idxS (s := l8) H rfl rfl rfl slc_23 h59 h60 h61 (lt_ rfl) fun a H => ww H <| st h rfl rfl one_3 rfl fun w62 w62S h => fun a H => ?_
    obtain ⟨a65, h66, h67, h68, h⟩ := h
    refine nk hK51 <| c_reg <| ww H <| mv rfl rfl <| mv rfl rfl <| mv rfl rfl <| fun a H => s_idxS (s := l8) H rfl rfl rfl slc_23 h66 h67 h68 (lt_ rfl) fun a H => ww H <| st h rfl rfl one_3 rfl fun w69 w69S h => fun a H => nk hK34 <| c_reg <| ww H <| mv rfl rfl <| bn rfl rfl r_add rfl <| ag rfl rfl <| fun a H => c_nil <| Exists.intro (wr .i64 (i25 + 1)) ⟨h.1, h.2, H.weaken ⟨rfl, rfl, rfl, rfl, rfl, trivial⟩⟩
   ·refine c_exit ?_
    first | (simp only [Exit.then, Exit.inBlock, ↓reduceIte]; fail_if_success simp only [Nat.reduceEqDiff]) | simp only [Exit.then, Exit.inBlock, ↓reduceIte, Nat.reduceEqDiff]
    exact hK23 _ _ <| sr fun K76 hK76 => ww H <| mv rfl rfl <| ag rfl rfl <| fun a H => nk hK76 <| c_ret <| e_ret1 H rfl rfl h

theorem sim_client_Client_Tick (c1 : Option Addr) (w : World) (Q : Ending → World → Prop) (h : vc_client_Client_Tick c1 w Q) : Calls PP F_client_Client_Tick #[(.pointer c1)] w Q := by
 unfold vc_client_Client_Tick at h
 have eP {L : List (Nat × Value)} (c : List PanicEntry) (w' : World) (a : Act) (h : Q (.panicked c) w') (H : Has 49 [] a L) : bodyPost PP Tryz.f18 Q (.panic c) a w' := e_panic H h
 refine enter (n := 49) Tryz.func18 rfl rfl (le_ rfl) fun a H => ?_
 obtain ⟨x11, h12, h13, h⟩ := h
 refine sr fun K2 hK2 => ww H <| ag rfl rfl <| fun a H => nk hK2 <| c_seq fun K3 hK3 => sr fun K4 hK4 => ww H <| mv rfl rfl <| bn rfl rfl (r_eqP0 ptr_30) rfl <| mv rfl rfl <| fun a H => g_join (n := 49) [(14, (.bool x11)), (0, (.pointer c1))] (.succ (.succ (.succ (.succ (.succ (.succ (.zero _))))))) ?_ ?_
 ·intro h6
  try clear h
  rcases Bool.eq_false_or_eq_true c1.isNone with h5 | h5
  ·replace H := H.ch (t := 8) (b := true) rfl h5
   refine ww H <| sk rfl rfl rfl rfl <| sk rfl rfl rfl rfl <| sk rfl rfl rfl rfl <| sk rfl rfl rfl rfl <| sk rfl rfl rfl rfl <| pT rfl rfl rfl <| fun a H => ?_
   replace h := h13 h5
   subst h
   exact h6 _ (H.weaken ⟨rfl, rfl, trivial⟩)
  ·replace H := H.ch (t := 8) (b := false) rfl h5
   replace h := h12 h5
   obtain ⟨a7, h10, h⟩ := h
   refine ww H <| gmv rfl rfl rfl rfl <| fun a H => ?_
   revert H
   revert h
   subst h10
   intro h H
   obtain ⟨l8, hc9, h⟩ := h
   refine ww H <| gnl rfl rfl rfl rfl <| gfd rfl rfl rfl fld_102_5 rfl <| gld rfl rfl rfl one_100 hc9 rfl <| gbn rfl rfl rfl rfl (r_eqP0 ptr_100) rfl <| pF rfl rfl rfl <| fun a H => ?_
   subst h
   exact h6 _ (H.weaken ⟨rfl, rfl, trivial⟩)
 ·clear H a
  clear h12 h13
  intro a H
  refine nk hK4 <| cd H rfl h (fun h14 h => ?_) (fun h14 h => ?_)
  ·exact sr fun K15 hK15 => ww H <| ag rfl rfl <| fun a H => nk hK15 <| c_ret <| e_ret1 H rfl rfl h
  ·obtain ⟨a17, h85, h⟩ := h
   refine c_skip <| hK3 _ _ <| sr fun K16 hK16 => ww H <| mv rfl rfl <| fun a H => ?_
   revert H
   revert h
   subst h85
   intro h H
   obtain ⟨l18, hc19, a20, h84, h⟩ := h
   refine ww H <| nl rfl rfl <| fd rfl fld_102_5 rfl <| ld rfl one_100 hc19 rfl <| fun a H => ?_
   revert H
   revert h
   subst h84
   intro h H
   obtain ⟨l21, hc22, h⟩ := h
   refine ww H <| nl rfl rfl <| fd rfl fld_116_6 rfl <| ld rfl one_114 hc22 rfl <| cl1 h body_44 rfl rfl eP fun M24 w23 h => al h zero_23 rfl rfl rfl fun b25 w26 n27 h => st h rfl rfl one_23 rfl fun w28 w28S h => fun a H => nk hK16 <| c_seq fun K31 hK31 => ?_
   obtain ⟨R32, h, h79⟩ := h
   have h43 : ∀ (a : Act) (w33 : World), R32 w33 → Has 49 [] a [(0, (.pointer (some a17))), (3, (.pointer (some (blk b25))))] → K31 a w33 := by
    clear h
    intro a w33 h H
    replace h := h79 w33 h
    obtain ⟨l35, hc36, h⟩ := h
    exact hK31 _ _ <| sr fun K34 hK34 => ww H <| mv rfl rfl <| ld rfl one_23 hc36 rfl <| cl1 h body_48 rfl rfl eP fun r38 w37 h => ag rfl rfl <| fun a H => nk hK34 <| c_ret <| e_ret1 H rfl rfl h
   clear h79
   obtain ⟨l45, hc46, a47, h78, h⟩ := h
   refine sr fun K44 hK44 => ww H <| mv rfl rfl <| nl rfl rfl <| fd rfl fld_102_5 rfl <| ld rfl one_100 hc46 rfl <| fun a H => ?_
   revert H
   revert h
   subst h78
   intro h H
   obtain ⟨l48, hc49, h⟩ := h
   refine ww H <| nl rfl rfl <| fd rfl fld_116_4 rfl <| ld rfl one_113 hc49 rfl <| fun a H => ?_
   obtain ⟨_, h52, o50, rfl, h⟩ := h
   refine s_tas H rfl rfl (h52 _) (lt_ rfl) fun a H => ww H <| mv rfl rfl <| ex rfl rfl rfl <| ex rfl rfl rfl <| al h zero_121 rfl rfl rfl fun b53 w54 n55 h => sN h rfl rfl agg_121 rfl rfl fun w56 h => ag rfl rfl <| fun a H => nk hK44 <| sr fun K57 hK57 => ww H <| mv rfl rfl <| fun a H => nk hK57 <| cd H rfl h (fun h58 h => ?_) (fun h58 h => ?_)
   ·obtain ⟨l60, hc61, a62, h77, h⟩ := h
    refine sr fun K59 hK59 => ww H <| mv rfl rfl <| nl rfl rfl <| fd rfl fld_102_5 rfl <| ld rfl one_100 hc61 rfl <| fun a H => ?_
    revert H
    revert h
    subst h77
    intro h H
    obtain ⟨l63, hc64, h⟩ := h
    refine ww H <| nl rfl rfl <| fd rfl fld_116_6 rfl <| ld rfl one_114 hc64 rfl <| fun a H => s_mkf H rfl (H.args (vs := [(.pointer (some (blk b25)))]) rfl) (lt_ rfl) fun a H => s_call H rfl body_45 (H.args (vs := [(.pointer l63), (.func (.func F_client_Client_Tick_c1) #[] #[(.pointer (some (blk b25)))])]) rfl) (lt_ rfl) h ?_ (fun c w' => eP c w' _)
    clear H h a
    rintro _ w65 a ⟨rfl, h⟩ H
    obtain ⟨l66, hc67, h⟩ := h
    refine nk hK59 <| c_reg <| ww H <| ld rfl one_23 hc67 rfl <| fun a H => s_call H rfl body_47 (H.args (vs := [l66.v]) rfl) (lt_ rfl) h ?_ (fun c w' => eP c w' _)
    clear H h a
    rintro _ w68 a ⟨rfl, h⟩ H
    exact c_nil <| h43 _ _ h (H.weaken ⟨rfl, rfl, trivial⟩)
   ·exact c_skip <| h43 _ _ h (H.weaken ⟨rfl, rfl, trivial⟩)

theorem sim_client_Client_Handle (c1 : Option Addr) (K2 C3 S4 O5 : Int) (K6 : ByteArray) (C7 C8 C9 C10 : Int) (H11 : Bool) (D12 : Slc) (w : World) (Q : Ending → World → Prop) (h : vc_client_Client_Handle c1 K2 C3 S4 O5 K6 C7 C8 C9 C10 H11 D12 w Q) : Calls PP F_client_Client_Handle #[(.pointer c1), (.agg #[(.i K2), (.i C3), (.i S4), (.i O5), (.string K6), (.i C7), (.i C8), (.i C9), (.i C10), (.bool H11), D12.v])] w Q := by
 unfold vc_client_Client_Handle at h
 have eP {L : List (Nat × Value)} (c : List PanicEntry) (w' : World) (a : Act) (h : Q (.panicked c) w') (H : Has 89 [] a L) : bodyPost PP Tryz.f19 Q (.panic c) a w' := e_panic H h
 refine enter (n := 89) Tryz.func19 rfl rfl (le_ rfl) fun a H => sr fun K13 hK13 => ww H <| bx h rfl rfl rfl rfl fun b14 w15 n16 h => ag rfl rfl <| al h zero_60 rfl rfl rfl fun b17 w18 n19 h => ag rfl rfl <| fun a H => nk hK13 <| c_seq fun K20 hK20 => sr fun K21 hK21 => ww H <| mv rfl rfl <| bn rfl rfl (r_eqP0 ptr_30) rfl <| mv rfl rfl <| fun a H => ?_
 obtain ⟨R24, h, h242⟩ := h
 refine g_joinW (n := 89) R24 (fun x25 => [(17, (.bool x25)), (0, (.pointer c1)), (3, (.pointer (some (blk b14)))), (5, (.pointer (some (blk b17))))]) (.succ (.succ (.succ (.succ (.succ (.zero _)))))) ?_ ?_
 ·intro h23
  clear h242
  rcases Bool.eq_false_or_eq_true c1.isNone with h22 | h22
  ·replace H := H.ch (t := 12) (b := true) rfl h22
   replace h := h.2 h22
   exact ww H <| sk rfl rfl rfl rfl <| sk rfl rfl rfl rfl <| sk rfl rfl rfl rfl <| sk rfl rfl rfl rfl <| pT rfl rfl rfl <| fun a H => h23 _ _ _ h (H.weaken ⟨rfl, rfl, rfl, rfl, trivial⟩)
  ·replace H := H.ch (t := 12) (b := false) rfl h22
   replace h := h.1 h22
   refine ww H <| gmv rfl rfl rfl rfl <| glN (l := [(.i K2), (.i C3), (.i S4), (.i O5), (.string K6), (.i C7), (.i C8), (.i C9), (.i C10), (.bool H11), D12.v]) rfl rfl rfl agg_56 rfl ⟨(n19.old (n16.cell (i := 0) rfl)), (n19.old (n16.cell (i := 1) rfl)), (n19.old (n16.cell (i := 2) rfl)), (n19.old (n16.cell (i := 3) rfl)), (n19.old (n16.cell (i := 4) rfl)), (n19.old (n16.cell (i := 5) rfl)), (n19.old (n16.cell (i := 6) rfl)), (n19.old (n16.cell (i := 7) rfl)), (n19.old (n16.cell (i := 8) rfl)), (n19.old (n16.cell (i := 9) rfl)), (n19.old (n16.cell (i := 10) rfl)), trivial⟩ rfl <| fun a H => s_call H (wantG H rfl rfl) body_49 (H.args (vs := [(.pointer c1), (.agg #[(.i K2), (.i C3), (.i S4), (.i O5), (.string K6), (.i C7), (.i C8), (.i C9), (.i C10), (.bool H11), D12.v])]) rfl) (lt_ rfl) h ?_ (fun c w' => eP c w' _)
   clear H h a
   rintro _ w27 a ⟨c28, rfl, h⟩ H
   exact s_un H (wantG H rfl rfl) rfl r_not (lt_ rfl) fun a H => ww H <| pF rfl rfl rfl <| fun a H => h23 _ _ _ h (H.weaken ⟨rfl, rfl, rfl, rfl, trivial⟩)
 ·clear H a h
  intro a x25 w26 h H
  replace h := h242 x25 w26 h
  clear h242
  refine nk hK21 <| cd H rfl h (fun h33 h => ?_) (fun h33 h => ?_)
  ·refine sr fun K34 hK34 => s_build H rfl (by rw [H.parts (vs := []) rfl]; exact bd_60 _) (lt_ rfl) fun a H => ww H <| ag rfl rfl <| sN h rfl rfl agg_60 rfl rfl fun w35 h => ag rfl rfl <| fun a H => nk hK34 <| c_ret ?_
   obtain ⟨O36, hc37, P38, hc39, S40, hc41, C42, hc43, C44, hc45, V46, hc47, h⟩ := h
   exact e_ret3 H rfl rfl ⟨_, rfl, run_loadN (l := [(.i O36), (.bool P38), (.i S40), (.i C42), (.i C44), V46.v]) agg_60 rfl ⟨hc37, hc39, hc41, hc43, hc45, hc47, trivial⟩⟩ rfl h
  ·obtain ⟨a49, h241, h⟩ := h
   refine c_skip <| hK20 _ _ <| sr fun K48 hK48 => ww H <| mv rfl rfl <| fun a H => ?_
   revert H
   revert h
   subst h241
   intro h H
   obtain ⟨l50, hc51, a53, h54, h⟩ := h
   refine ww H <| nl rfl rfl <| fd rfl fld_102_5 rfl <| ld rfl one_100 hc51 rfl <| ag rfl rfl <| fun a H => nk hK48 <| c_seq fun K52 hK52 => ?_
   revert H
   revert h
   subst h54
   intro h H
   replace H := H.weaken (L' := [(0, (.pointer (some a49))), (3, (.pointer (some (blk b14)))), (5, (.pointer (some (blk b17)))), (7, (.pointer (some a53)))]) ⟨rfl, rfl, rfl, rfl, trivial⟩
   obtain ⟨l57, l60, h⟩ := h
   obtain ⟨R55, h239, h59, h62, h234, h235, h236, h237⟩ := h
   refine c_anyF (V := [(0, (.pointer (some a53))), (1, (.pointer (some a53))), (2, (.pointer (some (a53.add 7)))), (3, (.pointer l57)), (4, (.pointer (some ((blk b14).add 2)))), (5, (.i l60))]) 3 (⟨⟨[[], [0], [1], [2], [], [4], [3, 5], [6], [7], [7], [], [0, 1, 2, 3, 4, 5, 6, 7, 8, 10], [0, 1, 2, 3, 4, 5, 6, 7, 8, 9, 10, 11]], [some 24, some 25, some 26, some 27, some 28, some 29, some 30, some 23, some 31, some 32, some 8, none, some 9], [6, 10, 11], [], []⟩, [[], [], [], [], [], [], [], [6], [6], [6], [], [6, 10], [6, 10, 11]], [[6, 11], [6, 11], [6, 11], [6, 11], [6, 11], [6, 11], [11], [11], [11], [], [11], [], []]⟩ : Rh) [(0, (.pointer (some a49))), (3, (.pointer (some (blk b14)))), (5, (.pointer (some (blk b17)))), (7, (.pointer (some a53)))] mixed (by kernel_rfl) H fun F240 h238 => ?_
   clear H a
   have st_6_10_11 : ∀ (C64 : Int) (C65 : Int) (h66 : Bool) (d67 : Slc) (G68 : Bool) (b73 : Nat) (w56 : World), R55 (some (C64, C65, h66, d67, G68)) (some b73) (some ()) w56 → F240 0 [6, 10, 11] [(0, (.pointer (some a53))), (1, (.pointer (some a53))), (2, (.pointer (some (a53.add 7)))), (3, (.pointer l57)), (4, (.pointer (some ((blk b14).add 2)))), (5, (.i l60)), (6, (.tuple #[(.agg #[(.i C64), (.i C65), (.bool h66), d67.v]), (.bool G68)])), (7, (.tuple #[(.agg #[(.i C64), (.i C65), (.bool h66), d67.v]), (.bool G68)])), (8, (.agg #[(.i C64), (.i C65), (.bool h66), d67.v])), (9, (.bool G68)), (10, (.pointer (some (blk b73)))), (11, undef), (12, (.bool G68))] w56 := by
    intro C64 C65 h66 d67 G68 b73 w56 hr
    rw [h238]
    refine StT.last [9, 12] (by kernel_rfl) (by kernel_rfl) (.cons ?_ (.cons ?_ .nil)) ?_
    ·refine Ans.mk rfl rfl fun a H => ?_
     replace H := H.weaken (L' := [(23, (.tuple #[(.agg #[(.i C64), (.i C65), (.bool h66), d67.v]), (.bool G68)]))]) ⟨rfl, trivial⟩
     refine ww H <| ex rfl rfl rfl <| fun a H => c_nil ⟨rfl, rfl, H.weaken (L' := [(32, (.bool G68))]) ⟨rfl, trivial⟩⟩
    ·refine Ans.mk rfl rfl fun a H => ?_
     replace H := H.weaken (L' := [(32, (.bool G68))]) ⟨rfl, trivial⟩
     refine ww H <| ag rfl rfl <| fun a H => c_nil ⟨rfl, rfl, H.weaken (L' := [(9, (.bool G68))]) ⟨rfl, trivial⟩⟩
    ·intro a H
     have h := h237 C64 C65 h66 d67 G68 b73 w56 hr
     replace H := H.weaken (L' := [(0, (.pointer (some a49))), (3, (.pointer (some (blk b14)))), (5, (.pointer (some (blk b17)))), (7, (.pointer (some a53))), (8, (.pointer (some (blk b73))))]) ⟨rfl, rfl, rfl, rfl, rfl, trivial⟩
     refine hK52 _ _ <| c_seq fun K80 hK80 => ?_
     obtain ⟨R81, h, h233⟩ := h
     have h155 : ∀ (a : Act) (w82 : World), R81 w82 → Has 89 [] a [(0, (.pointer (some a49))), (3, (.pointer (some (blk b14)))), (5, (.pointer (some (blk b17)))), (7, (.pointer (some a53))), (8, (.pointer (some (blk b73))))] → K80 a w82 := by
      clear h
      intro a w82 h H
      replace h := h233 w82 h
      refine hK80 _ _ <| c_seq fun K83 hK83 => ?_
      replace H := H.weaken (L' := [(0, (.pointer (some a49))), (3, (.pointer (some (blk b14)))), (5, (.pointer (some (blk b17)))), (7, (.pointer (some a53))), (8, (.pointer (some (blk b73))))]) ⟨rfl, rfl, rfl, rfl, rfl, trivial⟩
      obtain ⟨l84, hc85, l86, hc87, C88, hc89, C90, hc91, h92, hc93, d94, hc95, h⟩ := h
      refine c_any (V := [(0, (.pointer (some a53))), (1, (.pointer (some a53))), (2, (.pointer (some (a53.add 7)))), (3, (.pointer l84)), (4, (.pointer (some ((blk b14).add 2)))), (5, (.i l86)), (6, (.agg #[(.i C88), (.i C90), (.bool h92), d94.v]))]) (⟨[[], [0], [1], [2], [], [4], [], [3, 5, 6]], [some 69, some 70, some 71, some 72, some 73, some 74, some 75, some 76], [7], [0, 0, 0, 0, 0, 0, 0, 0], [0, 0, 0, 0, 0, 0, 0, 1]⟩ : Rg) [(0, (.pointer (some a49))), (3, (.pointer (some (blk b14)))), (5, (.pointer (some (blk b17)))), (7, (.pointer (some a53))), (8, (.pointer (some (blk b73))))] mixed (by kernel_rfl) H <| Stg.eff [0, 1, 2, 3, 4, 5, 6] (by kernel_rfl) rfl (.cons ?_ (.cons ?_ (.cons ?_ (.cons ?_ (.cons ?_ (.cons ?_ (.cons ?_ .nil))))))) ?_
      ·exact Aw rfl rfl <| mv rfl rfl <| An rfl
      ·exact Aw rfl rfl <| nl rfl rfl <| An rfl
      ·exact Aw rfl rfl <| fd rfl fld_116_6 rfl <| An rfl
      ·exact Aw rfl rfl <| ld rfl one_114 hc85 rfl <| An rfl
      ·exact Aw rfl rfl <| fd rfl fld_56_2 rfl <| An rfl
      ·exact Aw rfl rfl <| ld rfl one_3 hc87 rfl <| An rfl
      ·exact Aw rfl rfl <| lN (l := [(.i C88), (.i C90), (.bool h92), d94.v]) rfl agg_119 rfl ⟨hc89, hc91, hc93, hc95, trivial⟩ rfl <| An rfl
      ·refine cl2 h body_53 rfl rfl eP fun A97 A98 w96 h => fun a H => c_nil <| effQ.go [] H rfl rfl <| Stg.fin [] (by kernel_rfl) .nil ?_
       ·intro a H
        replace H := H.weaken (L' := [(0, (.pointer (some a49))), (5, (.pointer (some (blk b17)))), (7, (.pointer (some a53)))]) ⟨rfl, rfl, rfl, trivial⟩
        obtain ⟨l101, hc102, h⟩ := h
        refine hK83 _ _ <| c_seq fun K99 hK99 => sr fun K100 hK100 => ww H <| mv rfl rfl <| nl rfl rfl <| fd rfl fld_116_6 rfl <| ld rfl one_114 hc102 rfl <| cl1 h body_54 rfl rfl eP fun M104 w103 h => fun a H => s_un H rfl rfl r_not (lt_ rfl) fun a H => nk hK100 <| cd H rfl h (fun h105 h => ?_) (fun h105 h => ?_)
        ·refine sr fun K106 hK106 => s_build H rfl (by rw [H.parts (vs := []) rfl]; exact bd_60 _) (lt_ rfl) fun a H => ww H <| ag rfl rfl <| sN h rfl rfl agg_60 rfl rfl fun w107 h => ag rfl rfl <| fun a H => nk hK106 <| c_ret ?_
         obtain ⟨O108, hc109, P110, hc111, S112, hc113, C114, hc115, C116, hc117, V118, hc119, h⟩ := h
         exact e_ret3 H rfl rfl ⟨_, rfl, run_loadN (l := [(.i O108), (.bool P110), (.i S112), (.i C114), (.i C116), V118.v]) agg_60 rfl ⟨hc109, hc111, hc113, hc115, hc117, hc119, trivial⟩⟩ rfl h
        ·refine c_skip <| hK99 _ _ <| sr fun K120 hK120 => ww H <| mv rfl rfl <| fun a H => s_call H rfl body_55 (H.args (vs := [(.pointer (some a49))]) rfl) (lt_ rfl) h ?_ (fun c w' => eP c w' _)
         clear H h a
         rintro _ w121 a ⟨m122, O123, P124, S125, C126, C127, V128, m129, rfl, h⟩ H
         refine ww H <| ex rfl rfl rfl <| ex rfl rfl rfl <| ex rfl rfl rfl <| ag rfl rfl <| sN h rfl rfl agg_60 rfl rfl fun w130 h => ag rfl rfl <| fun a H => nk hK120 <| c_ret ?_
         obtain ⟨O131, hc132, P133, hc134, S135, hc136, C137, hc138, C139, hc140, V141, hc142, h⟩ := h
         exact e_ret3 H rfl rfl ⟨_, rfl, run_loadN (l := [(.i O131), (.bool P133), (.i S135), (.i C137), (.i C139), V141.v]) agg_60 rfl ⟨hc132, hc134, hc136, hc138, hc140, hc142, trivial⟩⟩ rfl h
     clear h233
     obtain ⟨l157, hc158, h⟩ := h
     refine sr fun K156 hK156 => ww H <| mv rfl rfl <| nl rfl rfl <| fd rfl fld_116_4 rfl <| ld rfl one_113 hc158 rfl <| fun a H => nk hK156 <| c_block <| sr fun K159 hK159 => ?_
     obtain ⟨_, h162, o160, rfl, h⟩ := h
     refine s_tas H rfl rfl (h162 _) (lt_ rfl) fun a H => ww H <| ex rfl rfl rfl <| ex rfl rfl rfl <| fun a H => nk hK159 <| cd H rfl h (fun h163 h => ?_) (fun h163 h => ?_)
     ·obtain ⟨C164, hc165, C166, hc167, C168, hc169, C170, hc171, h⟩ := h
      refine c_reg <| ww H <| fd rfl fld_119_0 rfl <| lN (l := [(.i C164), (.i C166)]) rfl agg_27 rfl ⟨hc165, hc167, trivial⟩ rfl <| fd rfl fld_56_6 rfl <| lN (l := [(.i C168), (.i C170)]) rfl agg_27 rfl ⟨hc169, hc171, trivial⟩ rfl <| fun a H => ?_
      replace h := h.get
      obtain ⟨b172, w173, n174, h⟩ := h
      refine s_bslc H rfl (by rw [H.parts (vs := [(0, (.agg #[(.i C164), (.i C166)])), (1, (.agg #[(.i C168), (.i C170)]))]) rfl]; exact bs_174_2_ii64ii640_ii64ii641 w56 C164 C166 C168 C170) (lt_ rfl) ?_
      rw [← n174.at_]
      clear H a
      intro a H
      exact n174.go <| ww H <| cl2 h body_51 rfl rfl eP fun C176 C177 w175 h => fd rfl fld_119_0 rfl <| sN h rfl rfl agg_27 rfl rfl fun w178 h => fun a H => c_nil <| h155 _ _ h (H.weaken ⟨rfl, rfl, rfl, rfl, rfl, trivial⟩)
     ·refine sr fun K183 hK183 => ?_
      obtain ⟨_, h186, o184, rfl, h⟩ := h
      refine s_tas H rfl rfl (h186 _) (lt_ rfl) fun a H => ww H <| ex rfl rfl rfl <| ex rfl rfl rfl <| fun a H => nk hK183 <| cd H rfl h (fun h187 h => ?_) (fun h187 h => ?_)
      ·obtain ⟨C189, hc190, C191, hc192, C193, hc194, C195, hc196, h⟩ := h
       refine sr fun K188 hK188 => ww H <| fd rfl fld_119_0 rfl <| lN (l := [(.i C189), (.i C191)]) rfl agg_27 rfl ⟨hc190, hc192, trivial⟩ rfl <| fd rfl fld_56_6 rfl <| lN (l := [(.i C193), (.i C195)]) rfl agg_27 rfl ⟨hc194, hc196, trivial⟩ rfl <| fun a H => ?_
       replace h := h.get
       obtain ⟨b197, w198, n199, h⟩ := h
       refine s_bslc H rfl (by rw [H.parts (vs := [(0, (.agg #[(.i C189), (.i C191)])), (1, (.agg #[(.i C193), (.i C195)]))]) rfl]; exact bs_174_2_ii64ii640_ii64ii641 w56 C189 C191 C193 C195) (lt_ rfl) ?_
       rw [← n199.at_]
       clear H a
       intro a H
       refine n199.go <| ww H <| cl2 h body_51 rfl rfl eP fun C201 C202 w200 h => fd rfl fld_119_0 rfl <| sN h rfl rfl agg_27 rfl rfl fun w203 h => fun a H => ?_
       obtain ⟨l205, hc206, x211, h212, h213, h⟩ := h
       refine nk hK188 <| sr fun K204 hK204 => ww H <| fd rfl fld_56_7 rfl <| ld rfl one_4 hc206 rfl <| mv rfl rfl <| fun a H => g_join (n := 89) [(63, (.bool x211)), (0, (.pointer (some a49))), (3, (.pointer (some (blk b14)))), (5, (.pointer (some (blk b17)))), (7, (.pointer (some a53))), (8, (.pointer (some (blk b73))))] (.succ (.succ (.succ (.succ (.zero _))))) ?_ ?_
       ·intro h208
        try clear h
        rcases Bool.eq_false_or_eq_true l205 with h207 | h207
        ·replace H := H.ch (t := 59) (b := true) rfl h207
         replace h := h212 h207
         obtain ⟨l209, hc210, h⟩ := h
         refine ww H <| gfd rfl rfl rfl fld_119_1 rfl <| gld rfl rfl rfl one_4 hc210 rfl <| fun a H => s_un H (wantG H rfl rfl) rfl r_not (lt_ rfl) fun a H => ww H <| pT rfl rfl rfl <| fun a H => ?_
         subst h
         exact h208 _ (H.weaken ⟨rfl, rfl, rfl, rfl, rfl, rfl, trivial⟩)
        ·replace H := H.ch (t := 59) (b := false) rfl h207
         refine ww H <| sk rfl rfl rfl rfl <| sk rfl rfl rfl rfl <| sk rfl rfl rfl rfl <| pF rfl rfl rfl <| fun a H => ?_
         replace h := h213 h207
         subst h
         exact h208 _ (H.weaken ⟨rfl, rfl, rfl, rfl, rfl, rfl, trivial⟩)
       ·clear H a
        clear h212 h213
        intro a H
        refine nk hK204 <| cd H rfl h (fun h214 h => ?_) (fun h214 h => ?_)
        ·obtain ⟨l215, hc216, h⟩ := h
         exact c_reg <| ww H <| fd rfl fld_56_8 rfl <| ld rfl one_49 hc216 rfl <| cl1 h body_52 rfl rfl eP fun C218 w217 h => fd rfl fld_119_1 rfl <| st h rfl rfl one_4 rfl fun w219 w219S h => fd rfl fld_119_2 rfl <| st h rfl rfl one_49 rfl fun w222 w222S h => fun a H => c_nil <| h155 _ _ h (H.weaken ⟨rfl, rfl, rfl, rfl, rfl, trivial⟩)
        ·exact c_skip <| h155 _ _ h (H.weaken ⟨rfl, rfl, rfl, rfl, rfl, trivial⟩)
      ·exact c_skip <| h155 _ _ h (H.weaken ⟨rfl, rfl, rfl, rfl, rfl, trivial⟩)
   have st_6_10 : ∀ (C64 : Int) (C65 : Int) (h66 : Bool) (d67 : Slc) (G68 : Bool) (b73 : Nat) (w56 : World), R55 (some (C64, C65, h66, d67, G68)) (some b73) none w56 → F240 1 [6, 10] [(0, (.pointer (some a53))), (1, (.pointer (some a53))), (2, (.pointer (some (a53.add 7)))), (3, (.pointer l57)), (4, (.pointer (some ((blk b14).add 2)))), (5, (.i l60)), (6, (.tuple #[(.agg #[(.i C64), (.i C65), (.bool h66), d67.v]), (.bool G68)])), (7, (.tuple #[(.agg #[(.i C64), (.i C65), (.bool h66), d67.v]), (.bool G68)])), (8, (.agg #[(.i C64), (.i C65), (.bool h66), d67.v])), (9, (.bool G68)), (10, (.pointer (some (blk b73))))] w56 := by
    intro C64 C65 h66 d67 G68 b73 w56 hr
    rw [h238]
    refine StT.more [7, 8, 9] [11] (by kernel_rfl) (by kernel_rfl) (by kernel_rfl) (.cons ?_ (.cons ?_ (.cons ?_ .nil))) (.cons ?_ .nil)
    ·refine Ans.mk rfl rfl fun a H => ?_
     replace H := H.weaken (L' := [(30, (.tuple #[(.agg #[(.i C64), (.i C65), (.bool h66), d67.v]), (.bool G68)]))]) ⟨rfl, trivial⟩
     refine ww H <| mv rfl rfl <| fun a H => c_nil ⟨rfl, rfl, H.weaken (L' := [(23, (.tuple #[(.agg #[(.i C64), (.i C65), (.bool h66), d67.v]), (.bool G68)]))]) ⟨rfl, trivial⟩⟩
    ·refine Ans.mk rfl rfl fun a H => ?_
     replace H := H.weaken (L' := [(23, (.tuple #[(.agg #[(.i C64), (.i C65), (.bool h66), d67.v]), (.bool G68)]))]) ⟨rfl, trivial⟩
     refine ww H <| ex rfl rfl rfl <| fun a H => c_nil ⟨rfl, rfl, H.weaken (L' := [(31, (.agg #[(.i C64), (.i C65), (.bool h66), d67.v]))]) ⟨rfl, trivial⟩⟩
    ·refine Ans.mk rfl rfl fun a H => ?_
     replace H := H.weaken (L' := [(23, (.tuple #[(.agg #[(.i C64), (.i C65), (.bool h66), d67.v]), (.bool G68)]))]) ⟨rfl, trivial⟩
     refine ww H <| ex rfl rfl rfl <| fun a H => c_nil ⟨rfl, rfl, H.weaken (L' := [(32, (.bool G68))]) ⟨rfl, trivial⟩⟩
    ·refine ⟨_, rfl, fun a H => ?_⟩
     replace H := H.weaken (L' := [(8, (.pointer (some (blk b73)))), (31, (.agg #[(.i C64), (.i C65), (.bool h66), d67.v]))]) ⟨rfl, rfl, trivial⟩
     have h := h236 C64 C65 h66 d67 G68 b73 w56 hr
     refine ww H <| sN h rfl rfl agg_119 rfl rfl fun w76 h => fun a H => c_nil <| effQ.ok (v := undef) (H.weaken (L' := []) trivial) ⟨[(0, (.pointer (some a53))), (1, (.pointer (some a53))), (2, (.pointer (some (a53.add 7)))), (3, (.pointer l57)), (4, (.pointer (some ((blk b14).add 2)))), (5, (.i l60)), (6, (.tuple #[(.agg #[(.i C64), (.i C65), (.bool h66), d67.v]), (.bool G68)])), (7, (.tuple #[(.agg #[(.i C64), (.i C65), (.bool h66), d67.v]), (.bool G68)])), (8, (.agg #[(.i C64), (.i C65), (.bool h66), d67.v])), (9, (.bool G68)), (10, (.pointer (some (blk b73)))), (11, undef), (12, (.bool G68))], ⟨rfl, rfl, rfl, rfl, rfl, rfl, rfl, rfl, rfl, rfl, rfl, rfl, trivial⟩, ?_⟩
     have hx := st_6_10_11 C64 C65 h66 d67 G68 b73 w76 h
     rw [h238] at hx
     exact hx
   have st_6 : ∀ (C64 : Int) (C65 : Int) (h66 : Bool) (d67 : Slc) (G68 : Bool) (w56 : World), R55 (some (C64, C65, h66, d67, G68)) none none w56 → F240 2 [6] [(0, (.pointer (some a53))), (1, (.pointer (some a53))), (2, (.pointer (some (a53.add 7)))), (3, (.pointer l57)), (4, (.pointer (some ((blk b14).add 2)))), (5, (.i l60)), (6, (.tuple #[(.agg #[(.i C64), (.i C65), (.bool h66), d67.v]), (.bool G68)])), (7, (.tuple #[(.agg #[(.i C64), (.i C65), (.bool h66), d67.v]), (.bool G68)])), (8, (.agg #[(.i C64), (.i C65), (.bool h66), d67.v])), (9, (.bool G68))] w56 := by
    intro C64 C65 h66 d67 G68 w56 hr
    rw [h238]
    refine StT.more [7, 8, 9] [10] (by kernel_rfl) (by kernel_rfl) (by kernel_rfl) (.cons ?_ (.cons ?_ (.cons ?_ .nil))) (.cons ?_ .nil)
    ·refine Ans.mk rfl rfl fun a H => ?_
     replace H := H.weaken (L' := [(30, (.tuple #[(.agg #[(.i C64), (.i C65), (.bool h66), d67.v]), (.bool G68)]))]) ⟨rfl, trivial⟩
     refine ww H <| mv rfl rfl <| fun a H => c_nil ⟨rfl, rfl, H.weaken (L' := [(23, (.tuple #[(.agg #[(.i C64), (.i C65), (.bool h66), d67.v]), (.bool G68)]))]) ⟨rfl, trivial⟩⟩
    ·refine Ans.mk rfl rfl fun a H => ?_
     replace H := H.weaken (L' := [(23, (.tuple #[(.agg #[(.i C64), (.i C65), (.bool h66), d67.v]), (.bool G68)]))]) ⟨rfl, trivial⟩
     refine ww H <| ex rfl rfl rfl <| fun a H => c_nil ⟨rfl, rfl, H.weaken (L' := [(31, (.agg #[(.i C64), (.i C65), (.bool h66), d67.v]))]) ⟨rfl, trivial⟩⟩
    ·refine Ans.mk rfl rfl fun a H => ?_
     replace H := H.weaken (L' := [(23, (.tuple #[(.agg #[(.i C64), (.i C65), (.bool h66), d67.v]), (.bool G68)]))]) ⟨rfl, trivial⟩
     refine ww H <| ex rfl rfl rfl <| fun a H => c_nil ⟨rfl, rfl, H.weaken (L' := [(32, (.bool G68))]) ⟨rfl, trivial⟩⟩
    ·refine ⟨_, rfl, fun a H => ?_⟩
     replace H := H.weaken (L' := []) trivial
     have h := h235 (some (C64, C65, h66, d67, G68)) w56 hr
     refine ww H <| al h zero_119 rfl rfl rfl fun b73 w74 n75 h => fun a H => c_nil <| effQ.ok (v := (.pointer (some (blk b73)))) (H.weaken (L' := [(8, (.pointer (some (blk b73))))]) ⟨rfl, trivial⟩) ⟨[(0, (.pointer (some a53))), (1, (.pointer (some a53))), (2, (.pointer (some (a53.add 7)))), (3, (.pointer l57)), (4, (.pointer (some ((blk b14).add 2)))), (5, (.i l60)), (6, (.tuple #[(.agg #[(.i C64), (.i C65), (.bool h66), d67.v]), (.bool G68)])), (7, (.tuple #[(.agg #[(.i C64), (.i C65), (.bool h66), d67.v]), (.bool G68)])), (8, (.agg #[(.i C64), (.i C65), (.bool h66), d67.v])), (9, (.bool G68)), (10, (.pointer (some (blk b73))))], ⟨rfl, rfl, rfl, rfl, rfl, rfl, rfl, rfl, rfl, rfl, rfl, trivial⟩, ?_⟩
     have hx := st_6_10 C64 C65 h66 d67 G68 b73 w74 h
     rw [h238] at hx
     exact hx
   have st_10 : ∀ (b73 : Nat) (w56 : World), R55 none (some b73) none w56 → F240 2 [10] [(0, (.pointer (some a53))), (1, (.pointer (some a53))), (2, (.pointer (some (a53.add 7)))), (3, (.pointer l57)), (4, (.pointer (some ((blk b14).add 2)))), (5, (.i l60)), (10, (.pointer (some (blk b73))))] w56 := by
    intro b73 w56 hr
    rw [h238]
    refine StT.more [0, 1, 2, 3, 4, 5] [6] (by kernel_rfl) (by kernel_rfl) (by kernel_rfl) (.cons ?_ (.cons ?_ (.cons ?_ (.cons ?_ (.cons ?_ (.cons ?_ .nil)))))) (.cons ?_ .nil)
    ·refine Ans.mk rfl rfl fun a H => ?_
     replace H := H.weaken (L' := [(7, (.pointer (some a53)))]) ⟨rfl, trivial⟩
     refine ww H <| mv rfl rfl <| fun a H => c_nil ⟨rfl, rfl, H.weaken (L' := [(24, (.pointer (some a53)))]) ⟨rfl, trivial⟩⟩
    ·refine Ans.mk rfl rfl fun a H => ?_
     replace H := H.weaken (L' := [(24, (.pointer (some a53)))]) ⟨rfl, trivial⟩
     refine ww H <| nl rfl rfl <| fun a H => c_nil ⟨rfl, rfl, H.weaken (L' := [(25, (.pointer (some a53)))]) ⟨rfl, trivial⟩⟩
    ·refine Ans.mk rfl rfl fun a H => ?_
     replace H := H.weaken (L' := [(25, (.pointer (some a53)))]) ⟨rfl, trivial⟩
     refine ww H <| fd rfl fld_116_6 rfl <| fun a H => c_nil ⟨rfl, rfl, H.weaken (L' := [(26, (.pointer (some (a53.add 7))))]) ⟨rfl, trivial⟩⟩
    ·refine Ans.mk rfl rfl fun a H => ?_
     replace H := H.weaken (L' := [(26, (.pointer (some (a53.add 7))))]) ⟨rfl, trivial⟩
     obtain hc58 := h59 (some b73) w56 hr
     refine ww H <| ld rfl one_114 hc58 rfl <| fun a H => c_nil ⟨rfl, rfl, H.weaken (L' := [(27, (.pointer l57))]) ⟨rfl, trivial⟩⟩
    ·refine Ans.mk rfl rfl fun a H => ?_
     replace H := H.weaken (L' := [(3, (.pointer (some (blk b14))))]) ⟨rfl, trivial⟩
     refine ww H <| fd rfl fld_56_2 rfl <| fun a H => c_nil ⟨rfl, rfl, H.weaken (L' := [(28, (.pointer (some ((blk b14).add 2))))]) ⟨rfl, trivial⟩⟩
    ·refine Ans.mk rfl rfl fun a H => ?_
     replace H := H.weaken (L' := [(28, (.pointer (some ((blk b14).add 2))))]) ⟨rfl, trivial⟩
     obtain hc61 := h62 (some b73) w56 hr
     refine ww H <| ld rfl one_3 hc61 rfl <| fun a H => c_nil ⟨rfl, rfl, H.weaken (L' := [(29, (.i l60))]) ⟨rfl, trivial⟩⟩
    ·refine ⟨_, rfl, fun a H => ?_⟩
     replace H := H.weaken (L' := [(27, (.pointer l57)), (29, (.i l60))]) ⟨rfl, rfl, trivial⟩
     have h := h234 (some b73) w56 hr
     refine ww H <| cl5 h body_50 rfl rfl eP fun C64 C65 h66 d67 G68 w63 h => fun a H => c_nil <| effQ.ok (v := (.tuple #[(.agg #[(.i C64), (.i C65), (.bool h66), d67.v]), (.bool G68)])) (H.weaken (L' := [(30, (.tuple #[(.agg #[(.i C64), (.i C65), (.bool h66), d67.v]), (.bool G68)]))]) ⟨rfl, trivial⟩) ⟨[(0, (.pointer (some a53))), (1, (.pointer (some a53))), (2, (.pointer (some (a53.add 7)))), (3, (.pointer l57)), (4, (.pointer (some ((blk b14).add 2)))), (5, (.i l60)), (6, (.tuple #[(.agg #[(.i C64), (.i C65), (.bool h66), d67.v]), (.bool G68)])), (7, (.tuple #[(.agg #[(.i C64), (.i C65), (.bool h66), d67.v]), (.bool G68)])), (8, (.agg #[(.i C64), (.i C65), (.bool h66), d67.v])), (9, (.bool G68)), (10, (.pointer (some (blk b73))))], ⟨rfl, rfl, rfl, rfl, rfl, rfl, rfl, rfl, trivial⟩, ?_⟩
     have hx := st_6_10 C64 C65 h66 d67 G68 b73 w63 h
     rw [h238] at hx
     exact hx
   have st_ : ∀ (w56 : World), R55 none none none w56 → F240 3 [] [(0, (.pointer (some a53))), (1, (.pointer (some a53))), (2, (.pointer (some (a53.add 7)))), (3, (.pointer l57)), (4, (.pointer (some ((blk b14).add 2)))), (5, (.i l60))] w56 := by
    intro w56 hr
    rw [h238]
    refine StT.more [0, 1, 2, 3, 4, 5] [6, 10] (by kernel_rfl) (by kernel_rfl) (by kernel_rfl) (.cons ?_ (.cons ?_ (.cons ?_ (.cons ?_ (.cons ?_ (.cons ?_ .nil)))))) (.cons ?_ (.cons ?_ .nil))
    ·refine Ans.mk rfl rfl fun a H => ?_
     replace H := H.weaken (L' := [(7, (.pointer (some a53)))]) ⟨rfl, trivial⟩
     refine ww H <| mv rfl rfl <| fun a H => c_nil ⟨rfl, rfl, H.weaken (L' := [(24, (.pointer (some a53)))]) ⟨rfl, trivial⟩⟩
    ·refine Ans.mk rfl rfl fun a H => ?_
     replace H := H.weaken (L' := [(24, (.pointer (some a53)))]) ⟨rfl, trivial⟩
     refine ww H <| nl rfl rfl <| fun a H => c_nil ⟨rfl, rfl, H.weaken (L' := [(25, (.pointer (some a53)))]) ⟨rfl, trivial⟩⟩
    ·refine Ans.mk rfl rfl fun a H => ?_
     replace H := H.weaken (L' := [(25, (.pointer (some a53)))]) ⟨rfl, trivial⟩
     refine ww H <| fd rfl fld_116_6 rfl <| fun a H => c_nil ⟨rfl, rfl, H.weaken (L' := [(26, (.pointer (some (a53.add 7))))]) ⟨rfl, trivial⟩⟩
    ·refine Ans.mk rfl rfl fun a H => ?_
     replace H := H.weaken (L' := [(26, (.pointer (some (a53.add 7))))]) ⟨rfl, trivial⟩
     obtain hc58 := h59 none w56 hr
     refine ww H <| ld rfl one_114 hc58 rfl <| fun a H => c_nil ⟨rfl, rfl, H.weaken (L' := [(27, (.pointer l57))]) ⟨rfl, trivial⟩⟩
    ·refine Ans.mk rfl rfl fun a H => ?_
     replace H := H.weaken (L' := [(3, (.pointer (some (blk b14))))]) ⟨rfl, trivial⟩
     refine ww H <| fd rfl fld_56_2 rfl <| fun a H => c_nil ⟨rfl, rfl, H.weaken (L' := [(28, (.pointer (some ((blk b14).add 2))))]) ⟨rfl, trivial⟩⟩
    ·refine Ans.mk rfl rfl fun a H => ?_
     replace H := H.weaken (L' := [(28, (.pointer (some ((blk b14).add 2))))]) ⟨rfl, trivial⟩
     obtain hc61 := h62 none w56 hr
     refine ww H <| ld rfl one_3 hc61 rfl <| fun a H => c_nil ⟨rfl, rfl, H.weaken (L' := [(29, (.i l60))]) ⟨rfl, trivial⟩⟩
    ·refine ⟨_, rfl, fun a H => ?_⟩
     replace H := H.weaken (L' := [(27, (.pointer l57)), (29, (.i l60))]) ⟨rfl, rfl, trivial⟩
     have h := h234 none w56 hr
     refine ww H <| cl5 h body_50 rfl rfl eP fun C64 C65 h66 d67 G68 w63 h => fun a H => c_nil <| effQ.ok (v := (.tuple #[(.agg #[(.i C64), (.i C65), (.bool h66), d67.v]), (.bool G68)])) (H.weaken (L' := [(30, (.tuple #[(.agg #[(.i C64), (.i C65), (.bool h66), d67.v]), (.bool G68)]))]) ⟨rfl, trivial⟩) ⟨[(0, (.pointer (some a53))), (1, (.pointer (some a53))), (2, (.pointer (some (a53.add 7)))), (3, (.pointer l57)), (4, (.pointer (some ((blk b14).add 2)))), (5, (.i l60)), (6, (.tuple #[(.agg #[(.i C64), (.i C65), (.bool h66), d67.v]), (.bool G68)])), (7, (.tuple #[(.agg #[(.i C64), (.i C65), (.bool h66), d67.v]), (.bool G68)])), (8, (.agg #[(.i C64), (.i C65), (.bool h66), d67.v])), (9, (.bool G68))], ⟨rfl, rfl, rfl, rfl, rfl, rfl, rfl, trivial⟩, ?_⟩
     have hx := st_6 C64 C65 h66 d67 G68 w63 h
     rw [h238] at hx
     exact hx
    ·refine ⟨_, rfl, fun a H => ?_⟩
     replace H := H.weaken (L' := []) trivial
     have h := h235 none w56 hr
     refine ww H <| al h zero_119 rfl rfl rfl fun b73 w74 n75 h => fun a H => c_nil <| effQ.ok (v := (.pointer (some (blk b73)))) (H.weaken (L' := [(8, (.pointer (some (blk b73))))]) ⟨rfl, trivial⟩) ⟨[(0, (.pointer (some a53))), (1, (.pointer (some a53))), (2, (.pointer (some (a53.add 7)))), (3, (.pointer l57)), (4, (.pointer (some ((blk b14).add 2)))), (5, (.i l60)), (10, (.pointer (some (blk b73))))], ⟨rfl, rfl, rfl, rfl, rfl, rfl, rfl, trivial⟩, ?_⟩
     have hx := st_10 b73 w74 h
     rw [h238] at hx
     exact hx
   exact st_ _ h239

theorem sim_sherdlaw18_only (y1 : Bool) (C2 C3 : Int) (w : World) (Q : Ending → World → Prop) (h : vc_sherdlaw18_only y1 C2 C3 w Q) : Calls PP F_sherdlaw18_only #[(.bool y1), (.agg #[(.i C2), (.i C3)])] w Q := by
 unfold vc_sherdlaw18_only at h
 refine enter (n := 8) Tryz.func20 rfl rfl (le_ rfl) fun a H => sr fun K4 hK4 => ww H <| bx h rfl rfl rfl rfl fun b5 w6 n7 h => al h zero_27 rfl rfl rfl fun b8 w9 n10 h => fun a H => nk hK4 <| c_seq fun K11 hK11 => sr fun K12 hK12 => ww H <| mv rfl rfl <| fun a H => nk hK12 <| cd H rfl h (fun h13 h => ?_) (fun h13 h => ?_)
 ·refine sr fun K14 hK14 => ww H <| lN (l := [(.i C2), (.i C3)]) rfl agg_27 rfl ⟨(n10.old (n7.cell (i := 0) rfl)), (n10.old (n7.cell (i := 1) rfl)), trivial⟩ rfl <| sN h rfl rfl agg_27 rfl rfl fun w15 h => fun a H => nk hK14 <| c_ret ?_
  obtain ⟨C16, hc17, C18, hc19, h⟩ := h
  exact e_ret1 H rfl ⟨_, rfl, run_loadN (l := [(.i C16), (.i C18)]) agg_27 rfl ⟨hc17, hc19, trivial⟩⟩ h
 ·refine c_skip <| hK11 _ _ <| sr fun K20 hK20 => s_build H rfl (by rw [H.parts (vs := []) rfl]; exact bd_27 _) (lt_ rfl) fun a H => ww H <| sN h rfl rfl agg_27 rfl rfl fun w21 h => fun a H => nk hK20 <| c_ret ?_
  obtain ⟨C22, hc23, C24, hc25, h⟩ := h
  exact e_ret1 H rfl ⟨_, rfl, run_loadN (l := [(.i C22), (.i C24)]) agg_27 rfl ⟨hc23, hc25, trivial⟩⟩ h

theorem sim_tag_Compare (C1 C2 C3 C4 : Int) (w : World) (Q : Ending → World → Prop) (h : vc_tag_Compare C1 C2 C3 C4 w Q) : Calls PP F_tag_Compare #[(.agg #[(.i C1), (.i C2)]), (.agg #[(.i C3), (.i C4)])] w Q := by
 unfold vc_tag_Compare at h
 have eP {L : List (Nat × Value)} (c : List PanicEntry) (w' : World) (a : Act) (h : Q (.panicked c) w') (H : Has 19 [] a L) : bodyPost PP Tryz.f21 Q (.panic c) a w' := e_panic H h
 refine enter (n := 19) Tryz.func21 rfl rfl (le_ rfl) fun a H => sr fun K5 hK5 => ww H <| bx h rfl rfl rfl rfl fun b6 w7 n8 h => bx h rfl rfl rfl rfl fun b9 w10 n11 h => ag rfl rfl <| fun a H => nk hK5 <| c_seq fun K12 hK12 => sr fun K13 hK13 => ww H <| fd rfl fld_27_0 rfl <| fun a H => s_load (v := (.i C1)) H rfl rfl one_2 (n11.old (n8.cell (i := 0) rfl)) (lt_ rfl) fun a H => ww H <| fd rfl fld_27_0 rfl <| fun a H => s_load (v := (.i C3)) H rfl rfl one_2 (n11.cell (i := 0) rfl) (lt_ rfl) fun a H => ww H <| cl1 h body_56 rfl rfl eP fun i15 w14 h => ag rfl rfl <| fun a H => nk hK13 <| sr fun K16 hK16 => ww H <| mv rfl rfl <| bn rfl rfl r_neq rfl <| fun a H => nk hK16 <| cd H rfl h (fun h17 h => ?_) (fun h17 h => ?_)
 ·exact sr fun K18 hK18 => ww H <| mv rfl rfl <| ag rfl rfl <| fun a H => nk hK18 <| c_ret <| e_ret1 H rfl rfl h
 ·obtain ⟨l20, hc21, l22, hc23, h⟩ := h
  exact c_skip <| hK12 _ _ <| sr fun K19 hK19 => ww H <| fd rfl fld_27_1 rfl <| ld rfl one_3 hc21 rfl <| fd rfl fld_27_1 rfl <| ld rfl one_3 hc23 rfl <| cl1 h body_57 rfl rfl eP fun i25 w24 h => ag rfl rfl <| fun a H => nk hK19 <| c_ret <| e_ret1 H rfl rfl h

end Go.Proofs.YtabifopphhpciaaGreatDoor

namespace Go.Proofs.YtabifopphhpciaaGreatDoor
open Go Go.Vc
set_option maxRecDepth 100000
set_option maxHeartbeats 4000000
theorem sim_sherdlaw18_mod (k1 n2 : Int) (w : World) (Q : Ending → World → Prop) (h : vc_sherdlaw18_mod k1 n2 w Q) : Calls PP F_sherdlaw18_mod #[(.i k1), (.i n2)] w Q := by
 unfold vc_sherdlaw18_mod at h
 refine enter (n := 15) Tryz.func34 rfl rfl (le_ rfl) fun a H => ?_
 obtain ⟨h5, h⟩ := h
 refine sr fun K3 hK3 => ww H <| ag rfl rfl <| fun a H => nk hK3 <| sr fun K4 hK4 => ww H <| mv rfl rfl <| mv rfl rfl <| bn rfl rfl (r_rem h5) rfl <| ag rfl rfl <| fun a H => nk hK4 <| c_seq fun K6 hK6 => ?_
 obtain ⟨R8, h, h14⟩ := h
 have h11 : ∀ (a : Act) (r7 : Int) (w9 : World), R8 r7 w9 → Has 15 [] a [(5, (.i r7))] → K6 a w9 := by
  clear h
  intro a r7 w9 h H
  replace h := h14 r7 w9 h
  exact hK6 _ _ <| sr fun K10 hK10 => ww H <| mv rfl rfl <| ag rfl rfl <| fun a H => nk hK10 <| c_ret <| e_ret1 H rfl rfl h
 clear h14
 refine sr fun K12 hK12 => ww H <| mv rfl rfl <| bn rfl rfl r_lss rfl <| fun a H => nk hK12 <| cd H rfl h (fun h13 h => ?_) (fun h13 h => ?_)
 ·exact c_reg <| ww H <| mv rfl rfl <| mv rfl rfl <| bn rfl rfl r_add rfl <| ag rfl rfl <| fun a H => c_nil <| h11 _ _ _ h (H.weaken ⟨rfl, trivial⟩)
 ·exact c_skip <| h11 _ _ _ h (H.weaken ⟨rfl, trivial⟩)

theorem sim_quorum_Check (N1 K2 D3 : Int) (w : World) (Q : Ending → World → Prop) (h : vc_quorum_Check N1 K2 D3 w Q) : Calls PP F_quorum_Check #[(.agg #[(.i N1), (.i K2), (.i D3)])] w Q := by
 unfold vc_quorum_Check at h
 refine enter (n := 28) Tryz.func35 rfl rfl (le_ rfl) fun a H => sr fun K4 hK4 => ww H <| bx h rfl rfl rfl rfl fun b5 w6 n7 h => ag rfl rfl <| fun a H => nk hK4 <| c_seq fun K8 hK8 => sr fun K9 hK9 => ww H <| fd rfl fld_35_1 rfl <| fun a H => s_load (v := (.i K2)) H rfl rfl one_3 (n7.cell (i := 1) rfl) (lt_ rfl) fun a H => ww H <| bn rfl rfl r_lss rfl <| mv rfl rfl <| fun a H => g_join (n := 28) [(12, (.bool ((decide (K2 < 1)) || (decide (N1 < K2))))), (1, (.pointer (some (blk b5))))] (.succ (.succ (.succ (.succ (.succ (.succ (.zero _))))))) ?_ ?_
 ·intro h11
  try clear h
  rcases Bool.eq_false_or_eq_true (decide (K2 < 1)) with h10 | h10
  ·replace H := H.ch (t := 6) (b := true) rfl h10
   exact ww H <| sk rfl rfl rfl rfl <| sk rfl rfl rfl rfl <| sk rfl rfl rfl rfl <| sk rfl rfl rfl rfl <| sk rfl rfl rfl rfl <| pT rfl rfl rfl <| fun a H => h11 _ (H.weaken ⟨by rw [h10]; rfl, rfl, trivial⟩)
  ·replace H := H.ch (t := 6) (b := false) rfl h10
   exact ww H <| gfd rfl rfl rfl fld_35_1 rfl <| fun a H => s_load (v := (.i K2)) H (wantG H rfl rfl) rfl one_3 (n7.cell (i := 1) rfl) (lt_ rfl) fun a H => ww H <| gfd rfl rfl rfl fld_35_0 rfl <| fun a H => s_load (v := (.i N1)) H (wantG H rfl rfl) rfl one_3 (n7.cell (i := 0) rfl) (lt_ rfl) fun a H => ww H <| gbn rfl rfl rfl rfl r_gtr rfl <| pF rfl rfl rfl <| fun a H => h11 _ (H.weaken ⟨by rw [h10]; rfl, rfl, trivial⟩)
 ·clear H a
  intro a H
  refine ww H <| mv rfl rfl <| fun a H => g_join (n := 28) [(17, (.bool (((decide (K2 < 1)) || (decide (N1 < K2))) || (decide (255 < N1))))), (1, (.pointer (some (blk b5))))] (.succ (.succ (.succ (.succ (.zero _))))) ?_ ?_
  ·intro h13
   try clear h
   rcases Bool.eq_false_or_eq_true ((decide (K2 < 1)) || (decide (N1 < K2))) with h12 | h12
   ·replace H := H.ch (t := 13) (b := true) rfl h12
    exact ww H <| sk rfl rfl rfl rfl <| sk rfl rfl rfl rfl <| sk rfl rfl rfl rfl <| pT rfl rfl rfl <| fun a H => h13 _ (H.weaken ⟨by rw [h12]; rfl, rfl, trivial⟩)
   ·replace H := H.ch (t := 13) (b := false) rfl h12
    exact ww H <| gfd rfl rfl rfl fld_35_0 rfl <| fun a H => s_load (v := (.i N1)) H (wantG H rfl rfl) rfl one_3 (n7.cell (i := 0) rfl) (lt_ rfl) fun a H => ww H <| gbn rfl rfl rfl rfl r_gtr rfl <| pF rfl rfl rfl <| fun a H => h13 _ (H.weaken ⟨by rw [h12]; rfl, rfl, trivial⟩)
  ·clear H a
   intro a H
   refine ww H <| mv rfl rfl <| fun a H => g_join (n := 28) [(22, (.bool ((((decide (K2 < 1)) || (decide (N1 < K2))) || (decide (255 < N1))) || (decide (D3 < 0))))), (1, (.pointer (some (blk b5))))] (.succ (.succ (.succ (.succ (.zero _))))) ?_ ?_
   ·intro h15
    try clear h
    rcases Bool.eq_false_or_eq_true (((decide (K2 < 1)) || (decide (N1 < K2))) || (decide (255 < N1))) with h14 | h14
    ·replace H := H.ch (t := 18) (b := true) rfl h14
     exact ww H <| sk rfl rfl rfl rfl <| sk rfl rfl rfl rfl <| sk rfl rfl rfl rfl <| pT rfl rfl rfl <| fun a H => h15 _ (H.weaken ⟨by rw [h14]; rfl, rfl, trivial⟩)
    ·replace H := H.ch (t := 18) (b := false) rfl h14
     exact ww H <| gfd rfl rfl rfl fld_35_2 rfl <| fun a H => s_load (v := (.i D3)) H (wantG H rfl rfl) rfl one_3 (n7.cell (i := 2) rfl) (lt_ rfl) fun a H => ww H <| gbn rfl rfl rfl rfl r_lss rfl <| pF rfl rfl rfl <| fun a H => h15 _ (H.weaken ⟨by rw [h14]; rfl, rfl, trivial⟩)
   ·clear H a
    intro a H
    refine ww H <| mv rfl rfl <| fun a H => g_join (n := 28) [(27, (.bool (((((decide (K2 < 1)) || (decide (N1 < K2))) || (decide (255 < N1))) || (decide (D3 < 0))) || (decide (4611686018427387903 < D3)))))] (.succ (.succ (.succ (.succ (.zero _))))) ?_ ?_
    ·intro h17
     try clear h
     rcases Bool.eq_false_or_eq_true ((((decide (K2 < 1)) || (decide (N1 < K2))) || (decide (255 < N1))) || (decide (D3 < 0))) with h16 | h16
     ·replace H := H.ch (t := 23) (b := true) rfl h16
      exact ww H <| sk rfl rfl rfl rfl <| sk rfl rfl rfl rfl <| sk rfl rfl rfl rfl <| pT rfl rfl rfl <| fun a H => h17 _ (H.weaken ⟨by rw [h16]; rfl, trivial⟩)
     ·replace H := H.ch (t := 23) (b := false) rfl h16
      exact ww H <| gfd rfl rfl rfl fld_35_2 rfl <| fun a H => s_load (v := (.i D3)) H (wantG H rfl rfl) rfl one_3 (n7.cell (i := 2) rfl) (lt_ rfl) fun a H => ww H <| gbn rfl rfl rfl rfl r_gtr rfl <| pF rfl rfl rfl <| fun a H => h17 _ (H.weaken ⟨by rw [h16]; rfl, trivial⟩)
    ·clear H a
     intro a H
     refine nk hK9 <| cd H rfl h (fun h18 h => ?_) (fun h18 h => ?_)
     ·exact sr fun K19 hK19 => ww H <| ag rfl rfl <| fun a H => nk hK19 <| c_ret <| e_ret1 H rfl rfl h
     ·exact c_skip <| hK8 _ _ <| sr fun K20 hK20 => ww H <| ag rfl rfl <| fun a H => nk hK20 <| c_ret <| e_ret1 H rfl rfl h

theorem sim_gf_Std (w : World) (Q : Ending → World → Prop) (h : vc_gf_Std w Q) : Calls PP F_gf_Std #[] w Q := by
 unfold vc_gf_Std at h
 have eP {L : List (Nat × Value)} (c : List PanicEntry) (w' : World) (a : Act) (h : Q (.panicked c) w') (H : Has 8 [] a L) : bodyPost PP Tryz.f36 Q (.panic c) a w' := e_panic H h
 exact enter (n := 8) Tryz.func36 rfl rfl (le_ rfl) fun a H => sr fun K1 hK1 => ww H <| ag rfl rfl <| fun a H => nk hK1 <| sr fun K2 hK2 => ww H <| cl2 h body_73 rfl rfl eP fun N4 N5 w3 h => mv rfl rfl <| ex rfl rfl rfl <| ex rfl rfl rfl <| ag rfl rfl <| ag rfl rfl <| fun a H => nk hK2 <| sr fun K6 hK6 => ww H <| mv rfl rfl <| ag rfl rfl <| fun a H => nk hK6 <| c_ret <| e_ret1 H rfl rfl h

theorem sim_code_generator (f1 : Option Addr) (n2 k3 : Int) (w : World) (Q : Ending → World → Prop) (h : vc_code_generator f1 n2 k3 w Q) : Calls PP F_code_generator #[(.pointer f1), (.i n2), (.i k3)] w Q := by
 unfold vc_code_generator at h
 have eP {L : List (Nat × Value)} (c : List PanicEntry) (w' : World) (a : Act) (h : Q (.panicked c) w') (H : Has 59 [] a L) : bodyPost PP Tryz.f37 Q (.panic c) a w' := e_panic H h
 refine enter (n := 59) Tryz.func37 rfl rfl (le_ rfl) fun a H => ?_
 obtain ⟨s6, w7, h8, h⟩ := h
 refine sr fun K4 hK4 => ww H <| ag rfl rfl <| fun a H => nk hK4 <| sr fun K5 hK5 => ww H <| mv rfl rfl <| fun a H => s_mk H rfl rfl rfl h8 (lt_ rfl) ?_
 clear H a h8
 intro a H
 refine ww H <| ag rfl rfl <| fun a H => nk hK5 <| c_seq fun K9 hK9 => sr fun K10 hK10 => ww H <| mv rfl rfl <| bl (vs := [s6.v]) rfl rfl (fun cs => b_lenS (z := s6) sl_49) <| mv rfl rfl <| fun a H => nk hK10 <| c_block ?_
 obtain ⟨I13, m14, h69, h70⟩ := h
 refine c_loop (σ := Int) (fun z w => I13 z w) (fun z w => m14 z w) (fun z => [(0, (.pointer f1)), (2, (.i k3)), (7, s6.v), (20, (.i (s6.l : Int))), (21, (.i z))]) 0 h69 (H.weaken ⟨rfl, rfl, rfl, rfl, rfl, trivial⟩) ?_
 clear H h69
 rintro s11 a w12 h H
 replace h := h70 s11 w12 h
 clear h70
 replace H : Has 59 [] a [(0, (.pointer f1)), (2, (.i k3)), (7, s6.v), (20, (.i (s6.l : Int))), (21, (.i s11))] := H
 refine sr fun K15 hK15 => ww H <| bn rfl rfl r_lss rfl <| fun a H => nk hK15 <| c_seq fun K16 hK16 => cd H rfl h (fun h17 h => ?_) (fun h17 h => ?_)
 ·refine c_skip <| hK16 _ _ <| c_seq fun K18 hK18 => c_block <| sr fun K19 hK19 => ww H <| mv rfl rfl <| ag rfl rfl <| fun a H => nk hK19 <| c_reg <| ww H <| mv rfl rfl <| mv rfl rfl <| mv rfl rfl <| fun a H => s_cv H rfl rfl (r_cvI some_3 int_5) (lt_ rfl) fun a H => ?_
  obtain ⟨a20, h21, h22, h23, h⟩ := h
  refine s_idxS (s := s6) H rfl rfl rfl slc_49 h21 h22 h23 (lt_ rfl) fun a H => ww H <| st h rfl rfl one_5 rfl fun w24 w24S h => fun a H => nk hK18 <| c_reg <| ww H <| bn rfl rfl r_add rfl <| mv rfl rfl <| fun a H => c_nil <| Exists.intro (wr .i64 (s11 + 1)) ⟨h.1, h.2, H.weaken ⟨rfl, rfl, rfl, rfl, rfl, trivial⟩⟩
 ·refine c_exit ?_
  first | (simp only [Exit.then, Exit.inBlock, ↓reduceIte]; fail_if_success simp only [Nat.reduceEqDiff]) | simp only [Exit.then, Exit.inBlock, ↓reduceIte, Nat.reduceEqDiff]
  refine hK9 _ _ <| sr fun K27 hK27 => ww H <| mv rfl rfl <| mv rfl rfl <| mv rfl rfl <| cl2 h body_74 rfl rfl eP fun V29 V30 w28 h => fun a H => ?_
  obtain ⟨h32, h33, h34, h⟩ := h
  refine ww H <| mv rfl rfl <| ex rfl rfl rfl <| ex rfl rfl rfl <| ag rfl rfl <| ag rfl rfl <| fun a H => nk hK27 <| sr fun K31 hK31 => ww H <| mv rfl rfl <| mv rfl rfl <| mv rfl rfl <| fun a H => s_slice (v := (Slc.v (s6.cut 1 (Int.toNat (0)) (Int.toNat (k3))))) H rfl rfl ⟨rfl, rfl⟩ ⟨rfl, rfl⟩ ⟨rfl, rfl⟩ (r_sliceSlc (lo := none) (hi := (some (.i64, k3))) slc_49 rfl rfl h32 h33 h34) (lt_ rfl) fun a H => ww H <| mv rfl rfl <| cl2 h body_74 rfl rfl eP fun V36 V37 w35 h => mv rfl rfl <| ex rfl rfl rfl <| ex rfl rfl rfl <| ag rfl rfl <| ag rfl rfl <| fun a H => nk hK31 <| sr fun K38 hK38 => ww H <| mv rfl rfl <| cl2 h body_75 rfl rfl eP fun I40 I41 w39 h => mv rfl rfl <| ex rfl rfl rfl <| ex rfl rfl rfl <| ag rfl rfl <| ag rfl rfl <| fun a H => nk hK38 <| sr fun K42 hK42 => ww H <| mv rfl rfl <| mv rfl rfl <| cl2 h body_76 rfl rfl eP fun M44 M45 w43 h => mv rfl rfl <| ex rfl rfl rfl <| ex rfl rfl rfl <| ag rfl rfl <| ag rfl rfl <| fun a H => nk hK42 <| sr fun K46 hK46 => ww H <| mv rfl rfl <| cl1 h body_77 rfl rfl eP fun R48 w47 h => ag rfl rfl <| fun a H => nk hK46 <| c_ret ?_
  exact e_ret1 H rfl rfl h

theorem sim_client_Client_begin (c1 : Option Addr) (p2 : Bool) (k3 : ByteArray) (v4 : Slc) (w : World) (Q : Ending → World → Prop) (h : vc_client_Client_begin c1 p2 k3 v4 w Q) : Calls PP F_client_Client_begin #[(.pointer c1), (.bool p2), (.string k3), v4.v] w Q := by
 unfold vc_client_Client_begin at h
 have eP {L : List (Nat × Value)} (c : List PanicEntry) (w' : World) (a : Act) (h : Q (.panicked c) w') (H : Has 65 [] a L) : bodyPost PP Tryz.f38 Q (.panic c) a w' := e_panic H h
 refine enter (n := 65) Tryz.func38 rfl rfl (le_ rfl) fun a H => ?_
 obtain ⟨a8, h58, h⟩ := h
 refine sr fun K5 hK5 => ww H <| ag rfl rfl <| ag rfl rfl <| ag rfl rfl <| fun a H => nk hK5 <| c_seq fun K6 hK6 => c_block <| sr fun K7 hK7 => ww H <| mv rfl rfl <| fun a H => ?_
 revert H
 revert h
 subst h58
 intro h H
 obtain ⟨l9, hc10, h⟩ := h
 refine ww H <| nl rfl rfl <| fd rfl fld_102_5 rfl <| ld rfl one_100 hc10 rfl <| bn rfl rfl (r_neP0 ptr_100) rfl <| ag rfl rfl <| fun a H => nk hK7 <| cd H rfl h (fun h11 h => ?_) (fun h11 h => ?_)
 ·exact sr fun K12 hK12 => ww H <| ag rfl rfl <| ag rfl rfl <| ag rfl rfl <| fun a H => nk hK12 <| c_ret <| e_ret3 H rfl rfl rfl rfl h
 ·refine sr fun K13 hK13 => ww H <| mv rfl rfl <| bl (vs := [(.string k3)]) rfl rfl (fun cs => b_lenT str_9) <| bn rfl rfl r_lss rfl <| mv rfl rfl <| fun a H => g_join (n := 65) [(25, (.bool ((decide ((k3.size : Int) < 1)) || (decide (64 < (k3.size : Int)))))), (0, (.pointer (some a8))), (1, (.bool p2)), (2, (.string k3)), (3, v4.v)] (.succ (.succ (.succ (.succ (.zero _))))) ?_ ?_
  ·intro h15
   try clear h
   rcases Bool.eq_false_or_eq_true (decide ((k3.size : Int) < 1)) with h14 | h14
   ·replace H := H.ch (t := 21) (b := true) rfl h14
    exact ww H <| sk rfl rfl rfl rfl <| sk rfl rfl rfl rfl <| sk rfl rfl rfl rfl <| pT rfl rfl rfl <| fun a H => h15 _ (H.weaken ⟨by rw [h14]; rfl, rfl, rfl, rfl, rfl, trivial⟩)
   ·replace H := H.ch (t := 21) (b := false) rfl h14
    exact ww H <| gmv rfl rfl rfl rfl <| fun a H => s_blt H (wantG H rfl rfl) (H.args (vs := [(.string k3)]) rfl) (lt_ rfl) (fun cs => b_lenT str_9) fun a H => ww H <| gbn rfl rfl rfl rfl r_gtr rfl <| pF rfl rfl rfl <| fun a H => h15 _ (H.weaken ⟨by rw [h14]; rfl, rfl, rfl, rfl, rfl, trivial⟩)
  ·clear H a
   intro a H
   refine ww H <| ag rfl rfl <| fun a H => nk hK13 <| cd H rfl h (fun h16 h => ?_) (fun h16 h => ?_)
   ·exact sr fun K17 hK17 => ww H <| ag rfl rfl <| ag rfl rfl <| ag rfl rfl <| fun a H => nk hK17 <| c_ret <| e_ret3 H rfl rfl rfl rfl h
   ·refine sr fun K18 hK18 => ww H <| mv rfl rfl <| bl (vs := [v4.v]) rfl rfl (fun cs => b_lenS (z := v4) sl_49) <| bn rfl rfl r_gtr rfl <| ag rfl rfl <| fun a H => nk hK18 <| cd H rfl h (fun h19 h => ?_) (fun h19 h => ?_)
    ·exact sr fun K20 hK20 => ww H <| ag rfl rfl <| ag rfl rfl <| ag rfl rfl <| fun a H => nk hK20 <| c_ret <| e_ret3 H rfl rfl rfl rfl h
    ·obtain ⟨l22, hc23, h⟩ := h
     refine sr fun K21 hK21 => ww H <| mv rfl rfl <| nl rfl rfl <| fd rfl fld_102_3 rfl <| ld rfl one_2 hc23 rfl <| bn rfl rfl r_geq rfl <| ag rfl rfl <| fun a H => nk hK21 <| cd H rfl h (fun h24 h => ?_) (fun h24 h => ?_)
     ·exact sr fun K25 hK25 => ww H <| ag rfl rfl <| ag rfl rfl <| ag rfl rfl <| fun a H => nk hK25 <| c_ret <| e_ret3 H rfl rfl rfl rfl h
     ·obtain ⟨l27, hc28, h⟩ := h
      refine c_skip <| hK6 _ _ <| sr fun K26 hK26 => ww H <| mv rfl rfl <| nl rfl rfl <| fd rfl fld_102_3 rfl <| ld rfl one_2 hc28 rfl <| bn rfl rfl r_add rfl <| nl rfl rfl <| fd rfl fld_102_3 rfl <| st h rfl rfl one_2 rfl fun w29 w29S h => fun a H => nk hK26 <| c_seq fun K32 hK32 => ?_
      replace H := H.weaken (L' := [(0, (.pointer (some a8))), (1, (.bool p2)), (2, (.string k3)), (3, v4.v)]) ⟨rfl, rfl, rfl, rfl, trivial⟩
      obtain ⟨l33, hc34, h⟩ := h
      refine c_any (V := [(0, (.pointer (some a8))), (1, (.pointer (some a8))), (2, (.pointer (some a8))), (3, (.pointer (some (a8.add 5)))), (4, (.i l33)), (5, (.bool p2)), (6, (.string k3)), (7, v4.v)]) (⟨[[], [], [1], [2], [3], [], [], [], [7], [4, 5, 6, 8], [9], [0, 1, 2, 3, 4, 5, 6, 7, 8, 9, 10], [0, 1, 2, 3, 4, 5, 6, 7, 8, 9, 10, 11], [0, 1, 2, 3, 4, 5, 6, 7, 8, 9, 10, 12]], [some 43, some 44, some 45, some 46, some 47, some 48, some 49, some 50, some 51, some 52, some 53, some 54, some 55, none], [8, 10, 13], [0, 0, 0, 0, 0, 0, 0, 0, 0, 1, 1, 2, 2, 2], [2, 1, 1, 1, 1, 1, 1, 0, 1, 1, 2, 2, 2, 3]⟩ : Rg) [(0, (.pointer (some a8))), (1, (.bool p2)), (2, (.string k3)), (3, v4.v)] mixed (by kernel_rfl) H <| Stg.eff [0, 1, 2, 3, 4, 5, 6, 7] (by kernel_rfl) rfl (.cons ?_ (.cons ?_ (.cons ?_ (.cons ?_ (.cons ?_ (.cons ?_ (.cons ?_ (.cons ?_ .nil)))))))) ?_
      ·exact Aw rfl rfl <| mv rfl rfl <| An rfl
      ·exact Aw rfl rfl <| mv rfl rfl <| An rfl
      ·exact Aw rfl rfl <| nl rfl rfl <| An rfl
      ·exact Aw rfl rfl <| fd rfl fld_102_3 rfl <| An rfl
      ·exact Aw rfl rfl <| ld rfl one_2 hc34 rfl <| An rfl
      ·exact Aw rfl rfl <| mv rfl rfl <| An rfl
      ·exact Aw rfl rfl <| mv rfl rfl <| An rfl
      ·exact Aw rfl rfl <| mv rfl rfl <| An rfl
      ·refine cl1 h body_52 rfl rfl eP fun C36 w35 h => fun a H => ?_
       obtain ⟨hc37, h⟩ := h
       refine c_nil <| effQ.go [(9, (.agg #[(.i l33), (.bool p2), (.string k3), C36.v, .nilIface, (.i 0), (.i 0), (.pointer none)]))] H rfl rfl <| Stg.eff [0, 1, 2, 3, 4, 5, 6, 9] (by kernel_rfl) rfl (.cons ?_ (.cons ?_ (.cons ?_ (.cons ?_ (.cons ?_ (.cons ?_ (.cons ?_ (.cons ?_ .nil)))))))) ?_
       ·exact Aw rfl rfl <| mv rfl rfl <| An rfl
       ·exact Aw rfl rfl <| mv rfl rfl <| An rfl
       ·exact Aw rfl rfl <| nl rfl rfl <| An rfl
       ·exact Aw rfl rfl <| fd rfl fld_102_3 rfl <| An rfl
       ·exact Aw rfl rfl <| ld rfl one_2 hc37 rfl <| An rfl
       ·exact Aw rfl rfl <| mv rfl rfl <| An rfl
       ·exact Aw rfl rfl <| mv rfl rfl <| An rfl
       ·exact Ans.mk rfl rfl fun a H => s_build H rfl (by rw [H.parts (vs := [(0, (.i l33)), (1, (.bool p2)), (2, (.string k3)), (3, C36.v)]) rfl]; exact bd_116_ii640_b1_s2_s3 _ l33 p2 k3 C36) (lt_ rfl) fun a H => Ans.fin H rfl
       ·refine bx h rfl rfl rfl rfl fun b38 w39 n40 h => fun a H => c_nil <| effQ.go [(11, (.pointer (some a8))), (12, (.pointer (some (a8.add 7))))] H rfl rfl <| Stg.eff [0, 11, 12] (by kernel_rfl) rfl (.cons ?_ (.cons ?_ (.cons ?_ .nil))) ?_
        ·exact Aw rfl rfl <| mv rfl rfl <| An rfl
        ·exact Aw rfl rfl <| nl rfl rfl <| An rfl
        ·exact Aw rfl rfl <| fd rfl fld_102_5 rfl <| An rfl
        ·refine st h rfl rfl one_100 rfl fun w41 w41S h => fun a H => c_nil <| effQ.go0 [] H rfl rfl <| Stg.fin [] (by kernel_rfl) .nil ?_
         ·intro a H
          replace H := H.weaken (L' := [(0, (.pointer (some a8)))]) ⟨rfl, trivial⟩
          refine hK32 _ _ <| c_seq fun K44 hK44 => ?_
          replace H := H.weaken (L' := [(0, (.pointer (some a8)))]) ⟨rfl, trivial⟩
          obtain ⟨l45, hc46, h⟩ := h
          refine c_any (V := [(0, (.pointer (some a8))), (1, (.pointer (some a8))), (2, (.pointer (some (a8.add 5)))), (3, (.i l45)), (4, (.pointer (some a8))), (5, (.agg #[])), (6, (.iface 130 (.agg #[]))), (7, (.agg #[(.i 0), (.i 0)]))]) (⟨[[], [0], [1], [2], [], [], [5], [], [4, 6, 7], [0, 1, 2, 3, 8], [0, 1, 2, 3, 4, 5, 6, 7, 8, 9], [0, 1, 2, 3, 4, 5, 6, 7, 8, 9, 10]], [some 56, some 57, some 58, some 59, some 60, some 61, some 62, some 63, some 64, some 8, some 9, some 10], [8], [0, 0, 0, 0, 0, 0, 0, 0, 0, 1, 1, 1], [1, 1, 1, 1, 0, 0, 0, 0, 1, 1, 1, 1]⟩ : Rg) [(0, (.pointer (some a8)))] mixed (by kernel_rfl) H <| Stg.eff [0, 1, 2, 3, 4, 5, 6, 7] (by kernel_rfl) rfl (.cons ?_ (.cons ?_ (.cons ?_ (.cons ?_ (.cons ?_ (.cons ?_ (.cons ?_ (.cons ?_ .nil)))))))) ?_
          ·exact Aw rfl rfl <| mv rfl rfl <| An rfl
          ·exact Aw rfl rfl <| nl rfl rfl <| An rfl
          ·exact Aw rfl rfl <| fd rfl fld_102_3 rfl <| An rfl
          ·exact Aw rfl rfl <| ld rfl one_2 hc46 rfl <| An rfl
          ·exact Aw rfl rfl <| mv rfl rfl <| An rfl
          ·exact Ans.mk rfl rfl fun a H => s_build H rfl (by rw [H.parts (vs := []) rfl]; exact bd_130 _) (lt_ rfl) fun a H => Ans.fin H rfl
          ·exact Ans.mk rfl rfl fun a H => s_iface H rfl rfl ni_130 (lt_ rfl) fun a H => Ans.fin H rfl
          ·exact Ans.mk rfl rfl fun a H => s_build H rfl (by rw [H.parts (vs := []) rfl]; exact bd_27 _) (lt_ rfl) fun a H => Ans.fin H rfl
          ·refine cl1 h body_78 rfl rfl eP fun e48 w47 h => fun a H => ?_
           obtain ⟨hc49, h⟩ := h
           refine c_nil <| effQ.go [(9, (.i l45)), (10, e48.v), (11, (.i 0))] H rfl rfl <| Stg.fin [0, 1, 2, 3, 9, 10, 11] (by kernel_rfl) (.cons ?_ (.cons ?_ (.cons ?_ (.cons ?_ (.cons ?_ (.cons ?_ (.cons ?_ .nil))))))) ?_
           ·exact Aw rfl rfl <| mv rfl rfl <| An rfl
           ·exact Aw rfl rfl <| nl rfl rfl <| An rfl
           ·exact Aw rfl rfl <| fd rfl fld_102_3 rfl <| An rfl
           ·exact Aw rfl rfl <| ld rfl one_2 hc49 rfl <| An rfl
           ·exact Aw rfl rfl <| ag rfl rfl <| An rfl
           ·exact Aw rfl rfl <| ag rfl rfl <| An rfl
           ·exact Aw rfl rfl <| ag rfl rfl <| An rfl
           ·intro a H
            replace H := H.weaken (L' := [(8, (.i l45)), (9, e48.v), (10, (.i 0))]) ⟨rfl, rfl, rfl, trivial⟩
            exact hK44 _ _ <| c_ret <| e_ret3 H rfl rfl rfl rfl h

theorem sim_tag_Zero (C1 C2 : Int) (w : World) (Q : Ending → World → Prop) (h : vc_tag_Zero C1 C2 w Q) : Calls PP F_tag_Zero #[(.agg #[(.i C1), (.i C2)])] w Q := by
 unfold vc_tag_Zero at h
 exact enter (n := 6) Tryz.func39 rfl rfl (le_ rfl) fun a H => sr fun K3 hK3 => ww H <| bx h rfl rfl rfl rfl fun b4 w5 n6 h => ag rfl rfl <| fun a H => nk hK3 <| sr fun K7 hK7 => ww H <| lN (l := [(.i C1), (.i C2)]) rfl agg_27 rfl ⟨(n6.cell (i := 0) rfl), (n6.cell (i := 1) rfl), trivial⟩ rfl <| fun a H => s_build H rfl (by rw [H.parts (vs := []) rfl]; exact bd_27 _) (lt_ rfl) fun a H => ww H <| bn rfl rfl (r_eqst eqg_27 (eqst_27 0) rfl) rfl <| ag rfl rfl <| fun a H => nk hK7 <| c_ret <| e_ret1 H rfl rfl h

theorem sim_tag_proper (C1 C2 : Int) (w : World) (Q : Ending → World → Prop) (h : vc_tag_proper C1 C2 w Q) : Calls PP F_tag_proper #[(.agg #[(.i C1), (.i C2)])] w Q := by
 unfold vc_tag_proper at h
 refine enter (n := 21) Tryz.func40 rfl rfl (le_ rfl) fun a H => sr fun K3 hK3 => ww H <| bx h rfl rfl rfl rfl fun b4 w5 n6 h => ag rfl rfl <| fun a H => nk hK3 <| sr fun K7 hK7 => ww H <| fd rfl fld_27_0 rfl <| fun a H => s_load (v := (.i C1)) H rfl rfl one_2 (n6.cell (i := 0) rfl) (lt_ rfl) fun a H => ww H <| bn rfl rfl r_geq rfl <| mv rfl rfl <| fun a H => g_join (n := 21) [(10, (.bool ((decide (1 ≤ C1)) && (decide (C1 ≤ 4611686018427387903))))), (1, (.pointer (some (blk b4))))] (.succ (.succ (.succ (.succ (.zero _))))) ?_ ?_
 ·intro h9
  try clear h
  rcases Bool.eq_false_or_eq_true (decide (1 ≤ C1)) with h8 | h8
  ·replace H := H.ch (t := 6) (b := true) rfl h8
   exact ww H <| gfd rfl rfl rfl fld_27_0 rfl <| fun a H => s_load (v := (.i C1)) H (wantG H rfl rfl) rfl one_2 (n6.cell (i := 0) rfl) (lt_ rfl) fun a H => ww H <| gbn rfl rfl rfl rfl r_leq rfl <| pT rfl rfl rfl <| fun a H => h9 _ (H.weaken ⟨by rw [h8]; rfl, rfl, trivial⟩)
  ·replace H := H.ch (t := 6) (b := false) rfl h8
   exact ww H <| sk rfl rfl rfl rfl <| sk rfl rfl rfl rfl <| sk rfl rfl rfl rfl <| pF rfl rfl rfl <| fun a H => h9 _ (H.weaken ⟨by rw [h8]; rfl, rfl, trivial⟩)
 ·clear H a
  intro a H
  refine ww H <| mv rfl rfl <| fun a H => g_join (n := 21) [(15, (.bool (((decide (1 ≤ C1)) && (decide (C1 ≤ 4611686018427387903))) && (decide (1 ≤ C2))))), (1, (.pointer (some (blk b4))))] (.succ (.succ (.succ (.succ (.zero _))))) ?_ ?_
  ·intro h11
   try clear h
   rcases Bool.eq_false_or_eq_true ((decide (1 ≤ C1)) && (decide (C1 ≤ 4611686018427387903))) with h10 | h10
   ·replace H := H.ch (t := 11) (b := true) rfl h10
    exact ww H <| gfd rfl rfl rfl fld_27_1 rfl <| fun a H => s_load (v := (.i C2)) H (wantG H rfl rfl) rfl one_3 (n6.cell (i := 1) rfl) (lt_ rfl) fun a H => ww H <| gbn rfl rfl rfl rfl r_geq rfl <| pT rfl rfl rfl <| fun a H => h11 _ (H.weaken ⟨by rw [h10]; rfl, rfl, trivial⟩)
   ·replace H := H.ch (t := 11) (b := false) rfl h10
    exact ww H <| sk rfl rfl rfl rfl <| sk rfl rfl rfl rfl <| sk rfl rfl rfl rfl <| pF rfl rfl rfl <| fun a H => h11 _ (H.weaken ⟨by rw [h10]; rfl, rfl, trivial⟩)
  ·clear H a
   intro a H
   refine ww H <| mv rfl rfl <| fun a H => g_join (n := 21) [(20, (.bool ((((decide (1 ≤ C1)) && (decide (C1 ≤ 4611686018427387903))) && (decide (1 ≤ C2))) && (decide (C2 ≤ 65535)))))] (.succ (.succ (.succ (.succ (.zero _))))) ?_ ?_
   ·intro h13
    try clear h
    rcases Bool.eq_false_or_eq_true (((decide (1 ≤ C1)) && (decide (C1 ≤ 4611686018427387903))) && (decide (1 ≤ C2))) with h12 | h12
    ·replace H := H.ch (t := 16) (b := true) rfl h12
     exact ww H <| gfd rfl rfl rfl fld_27_1 rfl <| fun a H => s_load (v := (.i C2)) H (wantG H rfl rfl) rfl one_3 (n6.cell (i := 1) rfl) (lt_ rfl) fun a H => ww H <| gbn rfl rfl rfl rfl r_leq rfl <| pT rfl rfl rfl <| fun a H => h13 _ (H.weaken ⟨by rw [h12]; rfl, trivial⟩)
    ·replace H := H.ch (t := 16) (b := false) rfl h12
     exact ww H <| sk rfl rfl rfl rfl <| sk rfl rfl rfl rfl <| sk rfl rfl rfl rfl <| pF rfl rfl rfl <| fun a H => h13 _ (H.weaken ⟨by rw [h12]; rfl, trivial⟩)
   ·clear H a
    intro a H
    exact ww H <| ag rfl rfl <| fun a H => nk hK7 <| c_ret <| e_ret1 H rfl rfl h

theorem sim_code_Code_Encode (c1 : Option Addr) (d2 : Slc) (w : World) (Q : Ending → World → Prop) (h : vc_code_Code_Encode c1 d2 w Q) : Calls PP F_code_Code_Encode #[(.pointer c1), d2.v] w Q := by
 unfold vc_code_Code_Encode at h
 have eP {L : List (Nat × Value)} (c : List PanicEntry) (w' : World) (a : Act) (h : Q (.panicked c) w') (H : Has 33 [] a L) : bodyPost PP Tryz.f41 Q (.panic c) a w' := e_panic H h
 refine enter (n := 33) Tryz.func41 rfl rfl (le_ rfl) fun a H => sr fun K3 hK3 => ww H <| ag rfl rfl <| ag rfl rfl <| fun a H => nk hK3 <| c_seq fun K4 hK4 => sr fun K5 hK5 => ww H <| mv rfl rfl <| bn rfl rfl (r_eqP0 ptr_42) rfl <| fun a H => nk hK5 <| cd H rfl h (fun h6 h => ?_) (fun h6 h => ?_)
 ·exact sr fun K7 hK7 => ww H <| ag rfl rfl <| ag rfl rfl <| fun a H => nk hK7 <| c_ret <| e_ret2 H rfl rfl rfl h
 ·refine c_skip <| hK4 _ _ <| c_seq fun K8 hK8 => sr fun K9 hK9 => ww H <| mv rfl rfl <| mv rfl rfl <| cl1 h body_79 rfl rfl eP fun s11 w10 h => fun a H => s_un H rfl rfl r_not (lt_ rfl) fun a H => nk hK9 <| cd H rfl h (fun h12 h => ?_) (fun h12 h => ?_)
  ·exact sr fun K13 hK13 => ww H <| ag rfl rfl <| ag rfl rfl <| fun a H => nk hK13 <| c_ret <| e_ret2 H rfl rfl rfl h
  ·obtain ⟨a17, h51, h⟩ := h
   refine c_skip <| hK8 _ _ <| sr fun K14 hK14 => ww H <| ag rfl rfl <| fun a H => nk hK14 <| c_seq fun K15 hK15 => sr fun K16 hK16 => ww H <| mv rfl rfl <| fun a H => ?_
   revert H
   revert h
   subst h51
   intro h H
   obtain ⟨l18, hc19, h⟩ := h
   refine ww H <| nl rfl rfl <| fd rfl fld_107_3 rfl <| ld rfl one_22 hc19 rfl <| bl (vs := [l18.v]) rfl rfl (fun cs => b_lenS (z := l18) sl_22) <| mv rfl rfl <| fun a H => nk hK16 <| c_block ?_
   obtain ⟨I23, m24, h49, h50⟩ := h
   refine c_loop (σ := Slc × Int) (fun z w => I23 z.1 z.2 w) (fun z w => m24 z.1 z.2 w) (fun z => [(0, (.pointer (some a17))), (1, d2.v), (6, z.1.v), (18, l18.v), (19, (.i (l18.l : Int))), (20, (.i z.2))]) (Slc.nil, 0) h49 (H.weaken ⟨rfl, rfl, rfl, rfl, rfl, rfl, trivial⟩) ?_
   clear H h49
   rintro ⟨o20, s21⟩ a w22 h H
   replace h := h50 o20 s21 w22 h
   clear h50
   replace H : Has 33 [] a [(0, (.pointer (some a17))), (1, d2.v), (6, o20.v), (18, l18.v), (19, (.i (l18.l : Int))), (20, (.i s21))] := H
   refine sr fun K25 hK25 => ww H <| bn rfl rfl r_lss rfl <| fun a H => nk hK25 <| c_seq fun K26 hK26 => cd H rfl h (fun h27 h => ?_) (fun h27 h => ?_)
   ·obtain ⟨a30, h31, h32, h33, h⟩ := h
    refine c_skip <| hK26 _ _ <| c_seq fun K28 hK28 => c_block <| sr fun K29 hK29 => s_idxS (s := l18) H rfl rfl rfl slc_22 h31 h32 h33 (lt_ rfl) fun a H => ?_
    obtain ⟨l34, hc35, h⟩ := h
    refine ww H <| ld rfl one_49 hc35 rfl <| ag rfl rfl <| fun a H => nk hK29 <| c_reg <| ww H <| mv rfl rfl <| mv rfl rfl <| mv rfl rfl <| mv rfl rfl <| cl1 h body_80 rfl rfl eP fun s37 w36 h => fun a H => ?_
    replace h := h.get
    obtain ⟨b38, w39, n40, h⟩ := h
    refine s_bslc H rfl (by rw [H.parts (vs := [(0, s37.v)]) rfl]; exact bs_22_1_s0 w36 s37) (lt_ rfl) ?_
    rw [← n40.at_]
    clear H a
    intro a H
    refine n40.go ?_
    obtain ⟨s41, w42, h43, h⟩ := h
    refine s_blt H rfl (H.args (vs := [o20.v, (Slc.v (Slc.mk (some (blk b38)) 1 1))]) rfl) (lt_ rfl) (fun cs => b_app (z := s41) h43) ?_
    clear H a h43
    intro a H
    refine ww H <| ag rfl rfl <| fun a H => nk hK28 <| c_reg <| ww H <| bn rfl rfl r_add rfl <| mv rfl rfl <| fun a H => c_nil <| Exists.intro (s41, wr .i64 (s21 + 1)) ⟨h.1, h.2, H.weaken ⟨rfl, rfl, rfl, rfl, rfl, rfl, trivial⟩⟩
   ·refine c_exit ?_
    first | (simp only [Exit.then, Exit.inBlock, ↓reduceIte]; fail_if_success simp only [Nat.reduceEqDiff]) | simp only [Exit.then, Exit.inBlock, ↓reduceIte, Nat.reduceEqDiff]
    exact hK15 _ _ <| sr fun K48 hK48 => ww H <| mv rfl rfl <| ag rfl rfl <| ag rfl rfl <| fun a H => nk hK48 <| c_ret <| e_ret2 H rfl rfl rfl h

theorem sim_stripe_cut (v1 : Slc) (k2 : Int) (w : World) (Q : Ending → World → Prop) (h : vc_stripe_cut v1 k2 w Q) : Calls PP F_stripe_cut #[v1.v, (.i k2)] w Q := by
 unfold vc_stripe_cut at h
 have eP {L : List (Nat × Value)} (c : List PanicEntry) (w' : World) (a : Act) (h : Q (.panicked c) w') (H : Has 59 [] a L) : bodyPost PP Tryz.f42 Q (.panic c) a w' := e_panic H h
 refine enter (n := 59) Tryz.func42 rfl rfl (le_ rfl) fun a H => sr fun K3 hK3 => ww H <| ag rfl rfl <| fun a H => nk hK3 <| sr fun K4 hK4 => ww H <| mv rfl rfl <| bl (vs := [v1.v]) rfl rfl (fun cs => b_lenS (z := v1) sl_49) <| mv rfl rfl <| cl1 h body_81 rfl rfl eP fun s6 w5 h => fun a H => ?_
 obtain ⟨s8, w9, h10, h⟩ := h
 refine ww H <| ag rfl rfl <| fun a H => nk hK4 <| sr fun K7 hK7 => ww H <| mv rfl rfl <| mv rfl rfl <| bn rfl rfl r_mul rfl <| fun a H => s_mk H rfl rfl rfl h10 (lt_ rfl) ?_
 clear H a h10
 intro a H
 refine ww H <| ag rfl rfl <| fun a H => nk hK7 <| sr fun K11 hK11 => ww H <| mv rfl rfl <| bl (vs := [v1.v]) rfl rfl (fun cs => b_lenS (z := v1) sl_49) <| ag rfl rfl <| fun a H => nk hK11 <| sr fun K12 hK12 => ww H <| mv rfl rfl <| mv rfl rfl <| fun a H => s_cv H rfl rfl (r_cvI some_3 int_5) (lt_ rfl) fun a H => ww H <| mv rfl rfl <| bn rfl rfl (r_shr (by decide)) rfl <| fun a H => s_cv H rfl rfl (r_cvI some_3 int_5) (lt_ rfl) fun a H => ww H <| mv rfl rfl <| bn rfl rfl (r_shr (by decide)) rfl <| fun a H => s_cv H rfl rfl (r_cvI some_3 int_5) (lt_ rfl) fun a H => ww H <| mv rfl rfl <| bn rfl rfl (r_shr (by decide)) rfl <| fun a H => s_cv H rfl rfl (r_cvI some_3 int_5) (lt_ rfl) fun a H => ?_
 replace h := h.get
 obtain ⟨b13, w14, n15, h⟩ := h
 refine s_bslc H rfl (by rw [H.parts (vs := [(0, (.int .u8 (wr .u8 (v1.l : Int)))), (1, (.int .u8 (wr .u8 (shrI .i64 (v1.l : Int) 8)))), (2, (.int .u8 (wr .u8 (shrI .i64 (v1.l : Int) 16)))), (3, (.int .u8 (wr .u8 (shrI .i64 (v1.l : Int) 24))))]) rfl]; exact bs_49_4_iu80_iu81_iu82_iu83 w9 (wr .u8 (v1.l : Int)) (wr .u8 (shrI .i64 (v1.l : Int) 8)) (wr .u8 (shrI .i64 (v1.l : Int) 16)) (wr .u8 (shrI .i64 (v1.l : Int) 24))) (lt_ rfl) ?_
 rw [← n15.at_]
 clear H a
 intro a H
 refine n15.go ?_
 obtain ⟨n16, w17, h18, h⟩ := h
 refine s_blt H rfl (H.args (vs := [s8.v, (Slc.v (Slc.mk (some (blk b13)) 4 4))]) rfl) (lt_ rfl) (fun cs => b_cpy (a := n16) h18) ?_
 clear H a h18
 intro a H
 obtain ⟨h20, h21, h22, h⟩ := h
 refine nk hK12 <| sr fun K19 hK19 => ww H <| mv rfl rfl <| fun a H => s_slice (v := (Slc.v (s8.cut 1 (Int.toNat (4)) (Int.toNat ((s8.l : Int)))))) H rfl rfl ⟨rfl, rfl⟩ ⟨rfl, rfl⟩ ⟨rfl, rfl⟩ (r_sliceSlc (lo := (some (.i64, 4))) (hi := none) slc_49 rfl rfl h20 h21 h22) (lt_ rfl) fun a H => ?_
 obtain ⟨n23, w24, h25, h⟩ := h
 refine ww H <| mv rfl rfl <| fun a H => s_blt H rfl (H.args (vs := [(Slc.v (s8.cut 1 (Int.toNat (4)) (Int.toNat ((s8.l : Int))))), v1.v]) rfl) (lt_ rfl) (fun cs => b_cpy (a := n23) h25) ?_
 clear H a h25
 intro a H
 obtain ⟨s27, w28, h29, h⟩ := h
 refine nk hK19 <| sr fun K26 hK26 => ww H <| mv rfl rfl <| fun a H => s_mk H rfl rfl rfl h29 (lt_ rfl) ?_
 clear H a h29
 intro a H
 refine ww H <| ag rfl rfl <| fun a H => nk hK26 <| c_seq fun K30 hK30 => sr fun K31 hK31 => ww H <| mv rfl rfl <| bl (vs := [s27.v]) rfl rfl (fun cs => b_lenS (z := s27) sl_22) <| mv rfl rfl <| fun a H => nk hK31 <| c_block ?_
 obtain ⟨I34, m35, h52, h53⟩ := h
 refine c_loop (σ := Int) (fun z w => I34 z w) (fun z w => m35 z w) (fun z => [(5, (.i s6)), (6, s8.v), (8, s27.v), (41, (.i (s27.l : Int))), (42, (.i z))]) 0 h52 (H.weaken ⟨rfl, rfl, rfl, rfl, rfl, trivial⟩) ?_
 clear H h52
 rintro s32 a w33 h H
 replace h := h53 s32 w33 h
 clear h53
 replace H : Has 59 [] a [(5, (.i s6)), (6, s8.v), (8, s27.v), (41, (.i (s27.l : Int))), (42, (.i s32))] := H
 refine sr fun K36 hK36 => ww H <| bn rfl rfl r_lss rfl <| fun a H => nk hK36 <| c_seq fun K37 hK37 => cd H rfl h (fun h38 h => ?_) (fun h38 h => ?_)
 ·obtain ⟨h41, h42, h43, h⟩ := h
  refine c_skip <| hK37 _ _ <| c_seq fun K39 hK39 => c_block <| sr fun K40 hK40 => ww H <| mv rfl rfl <| ag rfl rfl <| fun a H => nk hK40 <| c_reg <| ww H <| mv rfl rfl <| mv rfl rfl <| mv rfl rfl <| mv rfl rfl <| mv rfl rfl <| bn rfl rfl r_mul rfl <| mv rfl rfl <| bn rfl rfl r_add rfl <| mv rfl rfl <| bn rfl rfl r_mul rfl <| fun a H => s_slice (v := (Slc.v (s8.cut 1 (Int.toNat (wr .i64 (s32 * s6))) (Int.toNat (wr .i64 ((wr .i64 (s32 + 1)) * s6)))))) H rfl rfl ⟨rfl, rfl⟩ ⟨rfl, rfl⟩ ⟨rfl, rfl⟩ (r_sliceSlc (lo := (some (.i64, wr .i64 (s32 * s6)))) (hi := (some (.i64, wr .i64 ((wr .i64 (s32 + 1)) * s6)))) slc_49 rfl rfl h41 h42 h43) (lt_ rfl) fun a H => ?_
  obtain ⟨a44, h45, h46, h47, h⟩ := h
  refine s_idxS (s := s27) H rfl rfl rfl slc_22 h45 h46 h47 (lt_ rfl) fun a H => ww H <| st h rfl rfl one_49 rfl fun w48 w48S h => fun a H => nk hK39 <| c_reg <| ww H <| bn rfl rfl r_add rfl <| mv rfl rfl <| fun a H => c_nil <| Exists.intro (wr .i64 (s32 + 1)) ⟨h.1, h.2, H.weaken ⟨rfl, rfl, rfl, rfl, rfl, trivial⟩⟩
 ·refine c_exit ?_
  first | (simp only [Exit.then, Exit.inBlock, ↓reduceIte]; fail_if_success simp only [Nat.reduceEqDiff]) | simp only [Exit.then, Exit.inBlock, ↓reduceIte, Nat.reduceEqDiff]
  exact hK30 _ _ <| sr fun K51 hK51 => ww H <| mv rfl rfl <| ag rfl rfl <| fun a H => nk hK51 <| c_ret <| e_ret1 H rfl rfl h

theorem sim_code_Code_K (c1 : Option Addr) (w : World) (Q : Ending → World → Prop) (h : vc_code_Code_K c1 w Q) : Calls PP F_code_Code_K #[(.pointer c1)] w Q := by
 unfold vc_code_Code_K at h
 refine enter (n := 9) Tryz.func43 rfl rfl (le_ rfl) fun a H => sr fun K2 hK2 => ww H <| ag rfl rfl <| fun a H => nk hK2 <| c_seq fun K3 hK3 => sr fun K4 hK4 => ww H <| mv rfl rfl <| bn rfl rfl (r_eqP0 ptr_42) rfl <| fun a H => nk hK4 <| cd H rfl h (fun h5 h => ?_) (fun h5 h => ?_)
 ·exact sr fun K6 hK6 => ww H <| ag rfl rfl <| fun a H => nk hK6 <| c_ret <| e_ret1 H rfl rfl h
 ·obtain ⟨a8, h11, h⟩ := h
  refine c_skip <| hK3 _ _ <| sr fun K7 hK7 => ww H <| mv rfl rfl <| fun a H => ?_
  revert H
  revert h
  subst h11
  intro h H
  obtain ⟨l9, hc10, h⟩ := h
  exact ww H <| nl rfl rfl <| fd rfl fld_107_2 rfl <| ld rfl one_3 hc10 rfl <| ag rfl rfl <| fun a H => nk hK7 <| c_ret <| e_ret1 H rfl rfl h

theorem sim_client_reply_Missing (p1 : Option Addr) (w : World) (Q : Ending → World → Prop) (h : vc_client_reply_Missing p1 w Q) : Calls PP F_client_reply_Missing #[(.pointer p1)] w Q := by
 unfold vc_client_reply_Missing at h
 refine enter (n := 34) Tryz.func44 rfl rfl (le_ rfl) fun a H => sr fun K2 hK2 => ww H <| ag rfl rfl <| fun a H => nk hK2 <| sr fun K3 hK3 => ww H <| ag rfl rfl <| fun a H => nk hK3 <| c_seq fun K4 hK4 => sr fun K5 hK5 => ww H <| mv rfl rfl <| bn rfl rfl (r_eqP0 ptr_114) rfl <| fun a H => nk hK5 <| cd H rfl h (fun h6 h => ?_) (fun h6 h => ?_)
 ·exact sr fun K7 hK7 => ww H <| ag rfl rfl <| fun a H => nk hK7 <| c_ret <| e_ret1 H rfl rfl h
 ·obtain ⟨a10, h53, h⟩ := h
  refine c_skip <| hK4 _ _ <| c_seq fun K8 hK8 => sr fun K9 hK9 => ww H <| mv rfl rfl <| fun a H => ?_
  revert H
  revert h
  subst h53
  intro h H
  obtain ⟨l11, hc12, h⟩ := h
  refine ww H <| nl rfl rfl <| fd rfl fld_166_0 rfl <| fd rfl fld_35_0 rfl <| ld rfl one_3 hc12 rfl <| mv rfl rfl <| fun a H => nk hK9 <| c_block ?_
  obtain ⟨I16, m17, h51, h52⟩ := h
  refine c_loop (σ := Slc × Int) (fun z w => I16 z.1 z.2 w) (fun z w => m17 z.1 z.2 w) (fun z => [(0, (.pointer (some a10))), (3, z.1.v), (13, (.i l11)), (14, (.i z.2))]) (Slc.nil, 0) h51 (H.weaken ⟨rfl, rfl, rfl, rfl, trivial⟩) ?_
  clear H h51
  rintro ⟨l13, s14⟩ a w15 h H
  replace h := h52 l13 s14 w15 h
  clear h52
  replace H : Has 34 [] a [(0, (.pointer (some a10))), (3, l13.v), (13, (.i l11)), (14, (.i s14))] := H
  refine sr fun K18 hK18 => ww H <| bn rfl rfl r_lss rfl <| fun a H => nk hK18 <| c_seq fun K19 hK19 => cd H rfl h (fun h20 h => ?_) (fun h20 h => ?_)
  ·refine c_skip <| hK19 _ _ <| c_seq fun K21 hK21 => ?_
   obtain ⟨R23, h, h49⟩ := h
   have h25 : ∀ (a : Act) (l22 : Slc) (w24 : World), R23 l22 w24 → Has 34 [] a [(0, (.pointer (some a10))), (3, l22.v), (13, (.i l11)), (14, (.i s14))] → K21 a w24 := by
    clear h
    intro a l22 w24 h H
    replace h := h49 l22 w24 h
    refine hK21 _ _ <| c_reg <| ww H <| bn rfl rfl r_add rfl <| mv rfl rfl <| fun a H => c_nil <| Exists.intro (l22, wr .i64 (s14 + 1)) ⟨h.1, h.2, H.weaken ⟨rfl, rfl, rfl, rfl, trivial⟩⟩
   clear h49
   obtain ⟨l28, hc29, h⟩ := h
   refine c_block <| sr fun K26 hK26 => ww H <| mv rfl rfl <| ag rfl rfl <| fun a H => nk hK26 <| sr fun K27 hK27 => ww H <| mv rfl rfl <| nl rfl rfl <| fd rfl fld_166_1 rfl <| ld rfl one_164 hc29 rfl <| mv rfl rfl <| fun a H => ?_
   obtain ⟨_, h36, C30, C31, h32, d33, o34, rfl, h⟩ := h
   refine s_lkp H rfl rfl rfl h36 (lt_ rfl) ?_
   clear H a h36
   intro a H
   refine ww H <| mv rfl rfl <| ex rfl rfl rfl <| ex rfl rfl rfl <| al h zero_119 rfl rfl rfl fun b37 w38 n39 h => sN h rfl rfl agg_119 rfl rfl fun w40 h => ag rfl rfl <| fun a H => nk hK27 <| sr fun K41 hK41 => ww H <| mv rfl rfl <| fun a H => s_un H rfl rfl r_not (lt_ rfl) fun a H => nk hK41 <| cd H rfl h (fun h42 h => ?_) (fun h42 h => ?_)
   ·refine c_reg <| ww H <| mv rfl rfl <| mv rfl rfl <| fun a H => ?_
    replace h := h.get
    obtain ⟨b43, w44, n45, h⟩ := h
    refine s_bslc H rfl (by rw [H.parts (vs := [(0, (.i s14))]) rfl]; exact bs_23_1_ii640 w40 s14) (lt_ rfl) ?_
    rw [← n45.at_]
    clear H a
    intro a H
    refine n45.go ?_
    obtain ⟨s46, w47, h48, h⟩ := h
    refine s_blt H rfl (H.args (vs := [l13.v, (Slc.v (Slc.mk (some (blk b43)) 1 1))]) rfl) (lt_ rfl) (fun cs => b_app (z := s46) h48) ?_
    clear H a h48
    intro a H
    exact ww H <| ag rfl rfl <| fun a H => c_nil <| h25 _ _ _ h (H.weaken ⟨rfl, rfl, rfl, rfl, trivial⟩)
   ·exact c_skip <| h25 _ _ _ h (H.weaken ⟨rfl, rfl, rfl, rfl, trivial⟩)
  ·refine c_exit ?_
   first | (simp only [Exit.then, Exit.inBlock, ↓reduceIte]; fail_if_success simp only [Nat.reduceEqDiff]) | simp only [Exit.then, Exit.inBlock, ↓reduceIte, Nat.reduceEqDiff]
   exact hK8 _ _ <| sr fun K50 hK50 => ww H <| mv rfl rfl <| ag rfl rfl <| fun a H => nk hK50 <| c_ret <| e_ret1 H rfl rfl h

theorem sim_client_reply_Each (p1 : Option Addr) (y2 : Value) (w : World) (Q : Ending → World → Prop) (h : vc_client_reply_Each p1 y2 w Q) : Calls PP F_client_reply_Each #[(.pointer p1), y2] w Q := by
 unfold vc_client_reply_Each at h
 have eP {L : List (Nat × Value)} (c : List PanicEntry) (w' : World) (a : Act) (h : Q (.panicked c) w') (H : Has 49 [] a L) : bodyPost PP Tryz.f45 Q (.panic c) a w' := e_panic H h
 refine enter (n := 49) Tryz.func45 rfl rfl (le_ rfl) fun a H => ?_
 obtain ⟨x9, h10, h11, h⟩ := h
 refine c_seq fun K3 hK3 => sr fun K4 hK4 => ww H <| mv rfl rfl <| bn rfl rfl (r_eqP0 ptr_114) rfl <| mv rfl rfl <| fun a H => g_join (n := 49) [(14, (.bool x9)), (0, (.pointer p1)), (1, y2)] (.succ (.succ (.succ (.zero _)))) ?_ ?_
 ·intro h6
  try clear h
  rcases Bool.eq_false_or_eq_true p1.isNone with h5 | h5
  ·replace H := H.ch (t := 11) (b := true) rfl h5
   refine ww H <| sk rfl rfl rfl rfl <| sk rfl rfl rfl rfl <| pT rfl rfl rfl <| fun a H => ?_
   replace h := h11 h5
   subst h
   exact h6 _ (H.weaken ⟨rfl, rfl, rfl, trivial⟩)
  ·replace H := H.ch (t := 11) (b := false) rfl h5
   replace h := h10 h5
   obtain ⟨n8, h7, h⟩ := h
   refine ww H <| gmv rfl rfl rfl rfl <| gbn rfl rfl rfl rfl (r_eqF fnc_124 h7) rfl <| pF rfl rfl rfl <| fun a H => ?_
   subst h
   exact h6 _ (H.weaken ⟨rfl, rfl, rfl, trivial⟩)
 ·clear H a
  clear h10 h11
  intro a H
  refine nk hK4 <| cd H rfl h (fun h12 h => ?_) (fun h12 h => ?_)
  ·exact c_ret <| e_ret0 H rfl h
  ·obtain ⟨a16, h95, h⟩ := h
   refine c_skip <| hK3 _ _ <| sr fun K13 hK13 => ww H <| ag rfl rfl <| fun a H => nk hK13 <| c_seq fun K14 hK14 => sr fun K15 hK15 => ww H <| mv rfl rfl <| fun a H => ?_
   revert H
   revert h
   subst h95
   intro h H
   obtain ⟨l17, hc18, i19, w20, h21, h⟩ := h
   refine ww H <| nl rfl rfl <| fd rfl fld_166_1 rfl <| ld rfl one_164 hc18 rfl <| fun a H => s_rng H rfl rfl h21 (lt_ rfl) ?_
   clear H a h21
   intro a H
   refine nk hK15 <| c_block ?_
   obtain ⟨I24, m25, h93, h94⟩ := h
   refine c_loop (σ := Slc) (fun z w => I24 z w) (fun z w => m25 z w) (fun z => [(0, (.pointer (some a16))), (1, y2), (4, z.v), (19, (.pointer (some (blk i19))))]) Slc.nil h93 (H.weaken ⟨rfl, rfl, rfl, rfl, trivial⟩) ?_
   clear H h93
   rintro s22 a w23 h H
   replace h := h94 s22 w23 h
   clear h94
   replace H : Has 49 [] a [(0, (.pointer (some a16))), (1, y2), (4, s22.v), (19, (.pointer (some (blk i19))))] := H
   obtain ⟨b27, r28, w29, h30, h⟩ := h
   refine sr fun K26 hK26 => s_nxt H rfl rfl h30 (lt_ rfl) ?_
   clear H a h30
   intro a H
   refine ww H <| ex rfl rfl rfl <| fun a H => nk hK26 <| c_seq fun K31 hK31 => cd H rfl h (fun h32 h => ?_) (fun h32 h => ?_)
   ·refine c_skip <| hK31 _ _ <| c_block <| sr fun K33 hK33 => ?_
    obtain ⟨_, h40, k34, C35, C36, h37, d38, rfl, h⟩ := h
    refine s_etr H rfl rfl h40 (lt_ rfl) ?_
    clear H a h40
    intro a H
    refine ww H <| ex rfl rfl rfl <| ag rfl rfl <| fun a H => nk hK33 <| c_reg <| ww H <| mv rfl rfl <| mv rfl rfl <| fun a H => ?_
    replace h := h.get
    obtain ⟨b41, w42, n43, h⟩ := h
    refine s_bslc H rfl (by rw [H.parts (vs := [(0, (.i k34))]) rfl]; exact bs_23_1_ii640 w29 k34) (lt_ rfl) ?_
    rw [← n43.at_]
    clear H a
    intro a H
    refine n43.go ?_
    obtain ⟨s44, w45, h46, h⟩ := h
    refine s_blt H rfl (H.args (vs := [s22.v, (Slc.v (Slc.mk (some (blk b41)) 1 1))]) rfl) (lt_ rfl) (fun cs => b_app (z := s44) h46) ?_
    clear H a h46
    intro a H
    refine ww H <| ag rfl rfl <| fun a H => c_nil <| Exists.intro s44 ⟨h.1, h.2, H.weaken ⟨rfl, rfl, rfl, rfl, trivial⟩⟩
   ·refine c_exit ?_
    first | (simp only [Exit.then, Exit.inBlock, ↓reduceIte]; fail_if_success simp only [Nat.reduceEqDiff]) | simp only [Exit.then, Exit.inBlock, ↓reduceIte, Nat.reduceEqDiff]
    refine hK14 _ _ <| sr fun K47 hK47 => ww H <| mv rfl rfl <| fun a H => s_call H rfl body_47 (H.args (vs := [s22.v]) rfl) (lt_ rfl) h ?_ (fun c w' => eP c w' _)
    clear H h a
    rintro _ w48 a ⟨rfl, h⟩ H
    obtain ⟨l50, hc51, h⟩ := h
    refine nk hK47 <| sr fun K49 hK49 => ww H <| mv rfl rfl <| nl rfl rfl <| fd rfl fld_166_1 rfl <| ld rfl one_164 hc51 rfl <| cl1 h body_82 rfl rfl eP fun r53 w52 h => ag rfl rfl <| fun a H => nk hK49 <| sr fun K54 hK54 => ww H <| mv rfl rfl <| bl (vs := [s22.v]) rfl rfl (fun cs => b_lenS (z := s22) sl_23) <| mv rfl rfl <| fun a H => nk hK54 <| c_block ?_
    obtain ⟨I57, m58, h83, h84⟩ := h
    refine c_loop (σ := Int) (fun z w => I57 z w) (fun z w => m58 z w) (fun z => [(1, y2), (6, (.map r53)), (35, s22.v), (36, (.i (s22.l : Int))), (37, (.i z))]) 0 h83 (H.weaken ⟨rfl, rfl, rfl, rfl, rfl, trivial⟩) ?_
    clear H h83
    rintro s55 a w56 h H
    replace h := h84 s55 w56 h
    clear h84
    replace H : Has 49 [] a [(1, y2), (6, (.map r53)), (35, s22.v), (36, (.i (s22.l : Int))), (37, (.i s55))] := H
    refine sr fun K59 hK59 => ww H <| bn rfl rfl r_lss rfl <| fun a H => nk hK59 <| c_seq fun K60 hK60 => cd H rfl h (fun h61 h => ?_) (fun h61 h => ?_)
    ·obtain ⟨a64, h65, h66, h67, h⟩ := h
     refine c_skip <| hK60 _ _ <| c_seq fun K62 hK62 => c_block <| sr fun K63 hK63 => s_idxS (s := s22) H rfl rfl rfl slc_23 h65 h66 h67 (lt_ rfl) fun a H => ?_
     obtain ⟨l68, hc69, h⟩ := h
     refine ww H <| ld rfl one_3 hc69 rfl <| ag rfl rfl <| fun a H => nk hK63 <| sr fun K70 hK70 => ww H <| mv rfl rfl <| mv rfl rfl <| mv rfl rfl <| mv rfl rfl <| fun a H => ?_
     obtain ⟨_, h76, C71, C72, h73, d74, rfl, h⟩ := h
     refine s_lkp H rfl rfl rfl h76 (lt_ rfl) ?_
     clear H a h76
     intro a H
     refine s_callV H rfl rfl (H.args (vs := [(.i l68), (.agg #[(.i C71), (.i C72), (.bool h73), d74.v])]) rfl) (lt_ rfl) h ?_ (fun c w' => eP c w' _)
     clear H h a
     rintro _ w77 a ⟨r78, rfl, h⟩ H
     refine s_un H rfl rfl r_not (lt_ rfl) fun a H => nk hK70 <| cd H rfl h (fun h79 h => ?_) (fun h79 h => ?_)
     ·exact c_ret <| e_ret0 H rfl h
     ·refine c_skip <| hK62 _ _ <| c_reg <| ww H <| bn rfl rfl r_add rfl <| mv rfl rfl <| fun a H => c_nil <| Exists.intro (wr .i64 (s55 + 1)) ⟨h.1, h.2, H.weaken ⟨rfl, rfl, rfl, rfl, rfl, trivial⟩⟩
    ·refine c_exit ?_
     first | (simp only [Exit.then, Exit.inBlock, ↓reduceIte]; fail_if_success simp only [Nat.reduceEqDiff]) | simp only [Exit.then, Exit.inBlock, ↓reduceIte, Nat.reduceEqDiff]
     exact e_ret0 H rfl h

end Go.Proofs.YtabifopphhpciaaGreatDoor
