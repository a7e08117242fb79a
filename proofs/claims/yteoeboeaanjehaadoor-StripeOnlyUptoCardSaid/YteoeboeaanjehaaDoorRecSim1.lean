/-
  The conditions give the machine's calls; printed by vcgen.py.
-/
import Derived.Test.YteoeboeaanjehaaDoorRecVc
namespace Go.Proofs.YteoeboeaanjehaaDoor
open Go Go.Vc
set_option maxRecDepth 100000
set_option maxHeartbeats 4000000
theorem sim_code_Code_K (c1 : Option Addr) (w : World) (Q : Ending → World → Prop) (h : vc_code_Code_K c1 w Q) : Calls PP F_code_Code_K #[(.pointer c1)] w Q := by
 unfold vc_code_Code_K at h
 refine enter (n := 9) Tryd.func16 rfl rfl (Nat.le_of_ble_eq_true rfl) fun a H => c_seq fun K2 hK2 => c_reg <| s_assign H rfl rfl (lt_ rfl) fun a H => c_nil <| hK2 _ _ <| c_seq fun K3 hK3 => c_seq fun K4 hK4 => c_reg <| s_move H rfl rfl (lt_ rfl) fun a H => s_bin H rfl rfl rfl (r_eqP0 ptr_29) (lt_ rfl) fun a H => c_nil <| hK4 _ _ <| c_cond H rfl (fun h5 => ?_) (fun h5 => ?_)
 ·replace h := h.1 h5
  refine c_seq fun K6 hK6 => c_reg <| s_assign H rfl rfl (lt_ rfl) fun a H => c_nil <| hK6 _ _ <| c_ret ?_
  exact e_ret1 H rfl rfl h
 ·replace h := h.2 h5
  refine c_skip <| hK3 _ _ <| c_seq fun K7 hK7 => c_reg <| s_move H rfl rfl (lt_ rfl) fun a H => ?_
  obtain ⟨a8, h11, h⟩ := h
  revert H
  subst h11
  intro H
  refine s_nil H rfl rfl (lt_ rfl) fun a H => s_fld H rfl rfl fld_69_2 (lt_ rfl) fun a H => ?_
  obtain ⟨l9, hc10, h⟩ := h
  refine s_load (v := (.i l9)) H rfl rfl one_3 hc10 (lt_ rfl) fun a H => s_assign H rfl rfl (lt_ rfl) fun a H => c_nil <| hK7 _ _ <| c_ret ?_
  exact e_ret1 H rfl rfl h

theorem sim_code_Code_Decode (c1 : Option Addr) (p2 : Slc) (w : World) (Q : Ending → World → Prop) (h : vc_code_Code_Decode c1 p2 w Q) : Calls PP F_code_Code_Decode #[(.pointer c1), p2.v] w Q := by
 unfold vc_code_Code_Decode at h
 refine enter (n := 113) Tryd.func17 rfl rfl (Nat.le_of_ble_eq_true rfl) fun a H => c_seq fun K3 hK3 => c_reg <| s_assign H rfl rfl (lt_ rfl) fun a H => s_assign H rfl rfl (lt_ rfl) fun a H => c_nil <| hK3 _ _ <| c_seq fun K4 hK4 => c_seq fun K5 hK5 => c_reg <| s_move H rfl rfl (lt_ rfl) fun a H => s_bin H rfl rfl rfl (r_eqP0 ptr_29) (lt_ rfl) fun a H => c_nil <| hK5 _ _ <| c_cond H rfl (fun h6 => ?_) (fun h6 => ?_)
 ·replace h := h.1 h6
  refine c_seq fun K7 hK7 => c_reg <| s_assign H rfl rfl (lt_ rfl) fun a H => s_assign H rfl rfl (lt_ rfl) fun a H => c_nil <| hK7 _ _ <| c_ret ?_
  exact e_ret2 H rfl rfl rfl h
 ·replace h := h.2 h6
  refine c_skip <| hK4 _ _ <| c_seq fun K8 hK8 => c_seq fun K9 hK9 => c_reg <| s_move H rfl rfl (lt_ rfl) fun a H => s_move H rfl rfl (lt_ rfl) fun a H => s_call H rfl body_28 (H.args (vs := [(.pointer c1), p2.v]) rfl) (lt_ rfl) h ?_ (fun c w' h H => e_panic (P := PP) (fn := Tryd.f17) H h)
  clear H h a
  rintro _ w10 a ⟨r11, rfl, h⟩ H
  refine s_assign H rfl rfl (lt_ rfl) fun a H => c_nil <| hK9 _ _ <| c_seq fun K12 hK12 => c_reg <| s_move H rfl rfl (lt_ rfl) fun a H => s_bin H rfl rfl rfl r_neq (lt_ rfl) fun a H => c_nil <| hK12 _ _ <| c_cond H rfl (fun h13 => ?_) (fun h13 => ?_)
  ·replace h := h.1 h13
   refine c_seq fun K14 hK14 => c_reg <| s_move H rfl rfl (lt_ rfl) fun a H => s_assign H rfl rfl (lt_ rfl) fun a H => s_assign H rfl rfl (lt_ rfl) fun a H => c_nil <| hK14 _ _ <| c_ret ?_
   exact e_ret2 H rfl rfl rfl h
  ·replace h := h.2 h13
   refine c_skip <| hK8 _ _ <| c_seq fun K15 hK15 => c_reg <| s_assign H rfl rfl (lt_ rfl) fun a H => s_assign H rfl rfl (lt_ rfl) fun a H => c_nil <| hK15 _ _ <| c_seq fun K16 hK16 => c_seq fun K17 hK17 => c_reg <| s_move H rfl rfl (lt_ rfl) fun a H => s_move H rfl rfl (lt_ rfl) fun a H => ?_
   obtain ⟨a18, h190, h⟩ := h
   revert H
   subst h190
   intro H
   refine s_nil H rfl rfl (lt_ rfl) fun a H => s_fld H rfl rfl fld_69_2 (lt_ rfl) fun a H => ?_
   obtain ⟨l19, hc20, h⟩ := h
   refine s_load (v := (.i l19)) H rfl rfl one_3 hc20 (lt_ rfl) fun a H => ?_
   obtain ⟨h21, h22, h23, h⟩ := h
   refine s_slice (v := (Slc.v (p2.cut 2 (Int.toNat (0)) (Int.toNat (l19))))) H rfl rfl ⟨rfl, rfl⟩ ⟨rfl, rfl⟩ ⟨rfl, rfl⟩ (r_sliceSlc (lo := none) (hi := (some (.i64, l19))) slc_35 rfl rfl h21 h22 h23) (lt_ rfl) fun a H => s_blt H rfl (H.args (vs := [(Slc.v (p2.cut 2 (Int.toNat (0)) (Int.toNat (l19))))]) rfl) (lt_ rfl) (fun cs => b_lenS (z := p2.cut 2 (Int.toNat (0)) (Int.toNat (l19))) sl_35) fun a H => s_move H rfl rfl (lt_ rfl) fun a H => c_nil <| hK17 _ _ <| c_block ?_
   obtain ⟨I28, m29, h188, h189⟩ := h
   refine c_loop (σ := Slc × Slc × Int) (fun z w => I28 z.1 z.2.1 z.2.2 w) (fun z w => m29 z.1 z.2.1 z.2.2 w) (fun z => [(0, (.pointer (some a18))), (1, p2.v), (7, z.1.v), (8, z.2.1.v), (33, (Slc.v (p2.cut 2 (Int.toNat (0)) (Int.toNat (l19))))), (34, (.i ((p2.cut 2 (Int.toNat (0)) (Int.toNat (l19))).l : Int))), (35, (.i z.2.2))]) (Slc.nil, Slc.nil, 0) h188 (H.weaken ⟨rfl, rfl, rfl, rfl, rfl, rfl, rfl, trivial⟩) ?_
   clear H h188
   rintro ⟨r24, g25, s26⟩ a w27 h H
   replace h := h189 r24 g25 s26 w27 h
   clear h189
   replace H : Has 113 [] a [(0, (.pointer (some a18))), (1, p2.v), (7, r24.v), (8, g25.v), (33, (Slc.v (p2.cut 2 (Int.toNat (0)) (Int.toNat (l19))))), (34, (.i ((p2.cut 2 (Int.toNat (0)) (Int.toNat (l19))).l : Int))), (35, (.i s26))] := H
   refine c_seq fun K30 hK30 => c_reg <| s_bin H rfl rfl rfl r_lss (lt_ rfl) fun a H => c_nil <| hK30 _ _ <| c_seq fun K31 hK31 => c_cond H rfl (fun h32 => ?_) (fun h32 => ?_)
   ·replace h := h.1 h32
    refine c_skip <| hK31 _ _ <| c_seq fun K33 hK33 => c_block <| c_seq fun K34 hK34 => c_reg ?_
    obtain ⟨a35, h36, h37, h38, h⟩ := h
    refine s_idxS (s := p2.cut 2 (Int.toNat (0)) (Int.toNat (l19))) H rfl rfl rfl slc_35 h36 h37 h38 (lt_ rfl) fun a H => ?_
    obtain ⟨I39, hc40, D41, hc42, h⟩ := h
    refine s_loadN (l := [(.i I39), D41.v]) H rfl rfl agg_41 rfl ⟨hc40, hc42, trivial⟩ (lt_ rfl) fun a H => ?_
    replace h := h.get
    obtain ⟨b43, w44, n45, h⟩ := h
    refine s_alloc H rfl zero_41 (lt_ rfl) ?_
    rw [← n45.at_]
    clear H a
    intro a H
    refine n45.go <| s_stoN (l := [(.i I39), D41.v]) H rfl rfl rfl rfl agg_41 rfl rfl h ?_
    clear h H
    intro w46 h H
    refine c_nil <| hK34 _ _ <| c_seq fun K47 hK47 => ?_
    replace H := H.weaken (L' := [(0, (.pointer (some a18))), (1, p2.v), (7, r24.v), (8, g25.v), (10, (.pointer (some (blk b43)))), (33, (Slc.v (p2.cut 2 (Int.toNat (0)) (Int.toNat (l19))))), (34, (.i ((p2.cut 2 (Int.toNat (0)) (Int.toNat (l19))).l : Int))), (35, (.i s26))]) ⟨rfl, rfl, rfl, rfl, rfl, rfl, rfl, rfl, trivial⟩
    obtain ⟨l48, hc49, l50, hc51, a52, h53, h54, h55, l56, hc57, h⟩ := h
    refine c_any (V := [(0, r24.v), (1, (.pointer (some a18))), (2, (.pointer (some a18))), (3, (.pointer (some (a18.add 3)))), (4, l48.v), (5, (.pointer (some ((blk b43).add 0)))), (6, (.i l50)), (7, (.pointer (some (a52.add (Int.toNat (l50) * 1))))), (8, l56.v)]) (⟨[[], [], [1], [2], [3], [], [5], [4, 6], [7], [8], [0, 9], [0, 1, 2, 3, 4, 5, 6, 7, 8, 9, 10]], [some 39, some 40, some 41, some 42, some 43, some 44, some 45, some 46, some 47, some 48, some 49, some 7], [9, 10], [0, 0, 0, 0, 0, 0, 0, 0, 0, 0, 1, 2], [1, 0, 0, 0, 0, 0, 0, 0, 0, 1, 2, 2]⟩ : Rg) [(0, (.pointer (some a18))), (1, p2.v), (7, r24.v), (8, g25.v), (10, (.pointer (some (blk b43)))), (33, (Slc.v (p2.cut 2 (Int.toNat (0)) (Int.toNat (l19))))), (34, (.i ((p2.cut 2 (Int.toNat (0)) (Int.toNat (l19))).l : Int))), (35, (.i s26))] mixed (by kernel_rfl) H ?_
    refine Stg.eff [0, 1, 2, 3, 4, 5, 6, 7, 8] (by kernel_rfl) rfl (.cons ?_ (.cons ?_ (.cons ?_ (.cons ?_ (.cons ?_ (.cons ?_ (.cons ?_ (.cons ?_ (.cons ?_ .nil))))))))) ?_
    ·refine Ans.mk rfl rfl fun a H => s_move H rfl rfl (lt_ rfl) fun a H => ?_
     exact Ans.fin H rfl
    ·refine Ans.mk rfl rfl fun a H => s_move H rfl rfl (lt_ rfl) fun a H => ?_
     exact Ans.fin H rfl
    ·refine Ans.mk rfl rfl fun a H => s_nil H rfl rfl (lt_ rfl) fun a H => ?_
     exact Ans.fin H rfl
    ·refine Ans.mk rfl rfl fun a H => s_fld H rfl rfl fld_69_3 (lt_ rfl) fun a H => ?_
     exact Ans.fin H rfl
    ·refine Ans.mk rfl rfl fun a H => s_load (v := l48.v) H rfl rfl one_25 hc49 (lt_ rfl) fun a H => ?_
     exact Ans.fin H rfl
    ·refine Ans.mk rfl rfl fun a H => s_fld H rfl rfl fld_41_0 (lt_ rfl) fun a H => ?_
     exact Ans.fin H rfl
    ·refine Ans.mk rfl rfl fun a H => s_load (v := (.i l50)) H rfl rfl one_3 hc51 (lt_ rfl) fun a H => ?_
     exact Ans.fin H rfl
    ·refine Ans.mk rfl rfl fun a H => s_idxS (s := l48) H rfl rfl rfl slc_25 h53 h54 h55 (lt_ rfl) fun a H => ?_
     exact Ans.fin H rfl
    ·refine Ans.mk rfl rfl fun a H => s_load (v := l56.v) H rfl rfl one_24 hc57 (lt_ rfl) fun a H => ?_
     exact Ans.fin H rfl
    ·intro a H
     replace H := H.weaken (L' := [(47, l56.v)]) ⟨rfl, trivial⟩
     replace h := h.get
     obtain ⟨b58, w59, n60, h⟩ := h
     refine s_bslc H rfl (by rw [H.parts (vs := [(0, l56.v)]) rfl]; exact bs_25_1_s0 (w46.drewN 1) l56) (lt_ rfl) ?_
     rw [← n60.at_]
     clear H a
     intro a H
     refine n60.go <| c_nil <| effQ.go [] H rfl rfl <| Stg.eff [0] (by kernel_rfl) rfl (.cons ?_ .nil) ?_
     ·refine Ans.mk rfl rfl fun a H => s_move H rfl rfl (lt_ rfl) fun a H => ?_
      exact Ans.fin H rfl
     ·intro a H
      replace H := H.weaken (L' := [(39, r24.v), (48, (Slc.v (Slc.mk (some (blk b58)) 1 1)))]) ⟨rfl, rfl, trivial⟩
      obtain ⟨s61, w62, h63, h⟩ := h
      refine s_blt H rfl (H.args (vs := [r24.v, (Slc.v (Slc.mk (some (blk b58)) 1 1))]) rfl) (lt_ rfl) (fun cs => b_app (z := s61) h63) ?_
      clear H a h63
      intro a H
      refine c_nil <| effQ.go [(11, s61.v)] H rfl rfl <| Stg.fin [11] (by kernel_rfl) (.cons ?_ .nil) ?_
      ·refine Ans.mk rfl rfl fun a H => s_assign H rfl rfl (lt_ rfl) fun a H => ?_
       exact Ans.fin H rfl
      ·intro a H
       replace H := H.weaken (L' := [(0, (.pointer (some a18))), (1, p2.v), (7, s61.v), (8, g25.v), (10, (.pointer (some (blk b43)))), (33, (Slc.v (p2.cut 2 (Int.toNat (0)) (Int.toNat (l19))))), (34, (.i ((p2.cut 2 (Int.toNat (0)) (Int.toNat (l19))).l : Int))), (35, (.i s26))]) ⟨rfl, rfl, rfl, rfl, rfl, rfl, rfl, rfl, trivial⟩
       refine hK47 _ _ <| c_reg <| s_move H rfl rfl (lt_ rfl) fun a H => s_fld H rfl rfl fld_41_1 (lt_ rfl) fun a H => ?_
       obtain ⟨l64, hc65, h⟩ := h
       refine s_load (v := l64.v) H rfl rfl one_24 hc65 (lt_ rfl) fun a H => ?_
       replace h := h.get
       obtain ⟨b66, w67, n68, h⟩ := h
       refine s_bslc H rfl (by rw [H.parts (vs := [(0, l64.v)]) rfl]; exact bs_25_1_s0 w62 l64) (lt_ rfl) ?_
       rw [← n68.at_]
       clear H a
       intro a H
       refine n68.go ?_
       obtain ⟨s69, w70, h71, h⟩ := h
       refine s_blt H rfl (H.args (vs := [g25.v, (Slc.v (Slc.mk (some (blk b66)) 1 1))]) rfl) (lt_ rfl) (fun cs => b_app (z := s69) h71) ?_
       clear H a h71
       intro a H
       refine s_assign H rfl rfl (lt_ rfl) fun a H => c_nil <| hK33 _ _ <| c_reg <| s_bin H rfl rfl rfl r_add (lt_ rfl) fun a H => s_move H rfl rfl (lt_ rfl) fun a H => c_nil <| Exists.intro (s61, s69, wr .i64 (s26 + 1)) ⟨h.1, h.2, H.weaken ⟨rfl, rfl, rfl, rfl, rfl, rfl, rfl, trivial⟩⟩
   ·replace h := h.2 h32
    refine c_exit ?_
    first | (simp only [Exit.then, Exit.inBlock, ↓reduceIte]; fail_if_success simp only [Nat.reduceEqDiff]) | simp only [Exit.then, Exit.inBlock, ↓reduceIte, Nat.reduceEqDiff]
    refine hK16 _ _ <| c_seq fun K72 hK72 => c_reg <| s_move H rfl rfl (lt_ rfl) fun a H => s_nil H rfl rfl (lt_ rfl) fun a H => s_fld H rfl rfl fld_69_0 (lt_ rfl) fun a H => ?_
    obtain ⟨l73, hc74, h⟩ := h
    refine s_load (v := (.pointer l73)) H rfl rfl one_65 hc74 (lt_ rfl) fun a H => s_move H rfl rfl (lt_ rfl) fun a H => s_call H rfl body_29 (H.args (vs := [(.pointer l73), r24.v]) rfl) (lt_ rfl) h ?_ (fun c w' h H => e_panic (P := PP) (fn := Tryd.f17) H h)
    clear H h a
    rintro _ w75 a ⟨N76, N77, rfl, h⟩ H
    refine s_move H rfl rfl (lt_ rfl) fun a H => s_ext H rfl rfl rfl (lt_ rfl) fun a H => s_ext H rfl rfl rfl (lt_ rfl) fun a H => s_assign H rfl rfl (lt_ rfl) fun a H => s_assign H rfl rfl (lt_ rfl) fun a H => c_nil <| hK72 _ _ <| c_seq fun K78 hK78 => c_reg <| s_move H rfl rfl (lt_ rfl) fun a H => s_call H rfl body_30 (H.args (vs := [(.pointer N76)]) rfl) (lt_ rfl) h ?_ (fun c w' h H => e_panic (P := PP) (fn := Tryd.f17) H h)
    clear H h a
    rintro _ w79 a ⟨I80, I81, rfl, h⟩ H
    refine s_move H rfl rfl (lt_ rfl) fun a H => s_ext H rfl rfl rfl (lt_ rfl) fun a H => s_ext H rfl rfl rfl (lt_ rfl) fun a H => s_assign H rfl rfl (lt_ rfl) fun a H => s_assign H rfl rfl (lt_ rfl) fun a H => c_nil <| hK78 _ _ <| c_seq fun K82 hK82 => c_reg <| s_assign H rfl rfl (lt_ rfl) fun a H => c_nil <| hK82 _ _ <| c_seq fun K83 hK83 => c_seq fun K84 hK84 => c_reg <| s_move H rfl rfl (lt_ rfl) fun a H => ?_
    refine s_call H rfl body_31 (H.args (vs := [(.pointer I80)]) rfl) (lt_ rfl) h ?_ (fun c w' h H => e_panic (P := PP) (fn := Tryd.f17) H h)
    clear H h a
    rintro _ w85 a ⟨R86, rfl, h⟩ H
    refine s_blt H rfl (H.args (vs := [R86.v]) rfl) (lt_ rfl) (fun cs => b_lenS (z := R86) sl_25) fun a H => s_move H rfl rfl (lt_ rfl) fun a H => c_nil <| hK84 _ _ <| c_block ?_
    obtain ⟨I90, m91, h174, h175⟩ := h
    refine c_loop (σ := Slc × Int) (fun z w => I90 z.1 z.2 w) (fun z w => m91 z.1 z.2 w) (fun z => [(0, (.pointer (some a18))), (1, p2.v), (8, g25.v), (15, z.1.v), (71, R86.v), (72, (.i (R86.l : Int))), (73, (.i z.2))]) (Slc.nil, 0) h174 (H.weaken ⟨rfl, rfl, rfl, rfl, rfl, rfl, rfl, trivial⟩) ?_
    clear H h174
    rintro ⟨d87, s88⟩ a w89 h H
    replace h := h175 d87 s88 w89 h
    clear h175
    replace H : Has 113 [] a [(0, (.pointer (some a18))), (1, p2.v), (8, g25.v), (15, d87.v), (71, R86.v), (72, (.i (R86.l : Int))), (73, (.i s88))] := H
    refine c_seq fun K92 hK92 => c_reg <| s_bin H rfl rfl rfl r_lss (lt_ rfl) fun a H => c_nil <| hK92 _ _ <| c_seq fun K93 hK93 => c_cond H rfl (fun h94 => ?_) (fun h94 => ?_)
    ·replace h := h.1 h94
     refine c_skip <| hK93 _ _ <| c_seq fun K95 hK95 => c_block <| c_seq fun K96 hK96 => c_reg ?_
     obtain ⟨a97, h98, h99, h100, h⟩ := h
     refine s_idxS (s := R86) H rfl rfl rfl slc_25 h98 h99 h100 (lt_ rfl) fun a H => ?_
     obtain ⟨l101, hc102, h⟩ := h
     refine s_load (v := l101.v) H rfl rfl one_24 hc102 (lt_ rfl) fun a H => s_assign H rfl rfl (lt_ rfl) fun a H => c_nil <| hK96 _ _ <| c_reg ?_
     iterate 4 refine s_move H rfl rfl (lt_ rfl) fun a H => ?_
     refine s_call H rfl body_27 (H.args (vs := [(.pointer (some a18)), l101.v, g25.v]) rfl) (lt_ rfl) h ?_ (fun c w' h H => e_panic (P := PP) (fn := Tryd.f17) H h)
     clear H h a
     rintro _ w103 a ⟨s104, rfl, h⟩ H
     replace h := h.get
     obtain ⟨b105, w106, n107, h⟩ := h
     refine s_bslc H rfl (by rw [H.parts (vs := [(0, s104.v)]) rfl]; exact bs_25_1_s0 w103 s104) (lt_ rfl) ?_
     rw [← n107.at_]
     clear H a
     intro a H
     refine n107.go ?_
     obtain ⟨s108, w109, h110, h⟩ := h
     refine s_blt H rfl (H.args (vs := [d87.v, (Slc.v (Slc.mk (some (blk b105)) 1 1))]) rfl) (lt_ rfl) (fun cs => b_app (z := s108) h110) ?_
     clear H a h110
     intro a H
     refine s_assign H rfl rfl (lt_ rfl) fun a H => c_nil <| hK95 _ _ <| c_reg <| s_bin H rfl rfl rfl r_add (lt_ rfl) fun a H => s_move H rfl rfl (lt_ rfl) fun a H => c_nil <| Exists.intro (s108, wr .i64 (s88 + 1)) ⟨h.1, h.2, H.weaken ⟨rfl, rfl, rfl, rfl, rfl, rfl, rfl, trivial⟩⟩
    ·replace h := h.2 h94
     refine c_exit ?_
     first | (simp only [Exit.then, Exit.inBlock, ↓reduceIte]; fail_if_success simp only [Nat.reduceEqDiff]) | simp only [Exit.then, Exit.inBlock, ↓reduceIte, Nat.reduceEqDiff]
     refine hK83 _ _ <| c_seq fun K115 hK115 => c_seq fun K116 hK116 => c_reg <| s_move H rfl rfl (lt_ rfl) fun a H => s_move H rfl rfl (lt_ rfl) fun a H => s_nil H rfl rfl (lt_ rfl) fun a H => s_fld H rfl rfl fld_69_2 (lt_ rfl) fun a H => ?_
     obtain ⟨l117, hc118, h⟩ := h
     refine s_load (v := (.i l117)) H rfl rfl one_3 hc118 (lt_ rfl) fun a H => ?_
     obtain ⟨h119, h120, h121, h⟩ := h
     refine s_slice (v := (Slc.v (p2.cut 2 (Int.toNat (l117)) (Int.toNat ((p2.l : Int)))))) H rfl rfl ⟨rfl, rfl⟩ ⟨rfl, rfl⟩ ⟨rfl, rfl⟩ (r_sliceSlc (lo := (some (.i64, l117))) (hi := none) slc_35 rfl rfl h119 h120 h121) (lt_ rfl) fun a H => s_blt H rfl (H.args (vs := [(Slc.v (p2.cut 2 (Int.toNat (l117)) (Int.toNat ((p2.l : Int)))))]) rfl) (lt_ rfl) (fun cs => b_lenS (z := p2.cut 2 (Int.toNat (l117)) (Int.toNat ((p2.l : Int)))) sl_35) fun a H => s_move H rfl rfl (lt_ rfl) fun a H => c_nil ?_
     refine hK116 _ _ <| c_block ?_
     obtain ⟨I124, m125, h172, h173⟩ := h
     refine c_loop (σ := Int) (fun z w => I124 z w) (fun z w => m125 z w) (fun z => [(0, (.pointer (some a18))), (15, d87.v), (90, (Slc.v (p2.cut 2 (Int.toNat (l117)) (Int.toNat ((p2.l : Int)))))), (91, (.i ((p2.cut 2 (Int.toNat (l117)) (Int.toNat ((p2.l : Int)))).l : Int))), (92, (.i z))]) 0 h172 (H.weaken ⟨rfl, rfl, rfl, rfl, rfl, trivial⟩) ?_
     clear H h172
     rintro s122 a w123 h H
     replace h := h173 s122 w123 h
     clear h173
     replace H : Has 113 [] a [(0, (.pointer (some a18))), (15, d87.v), (90, (Slc.v (p2.cut 2 (Int.toNat (l117)) (Int.toNat ((p2.l : Int)))))), (91, (.i ((p2.cut 2 (Int.toNat (l117)) (Int.toNat ((p2.l : Int)))).l : Int))), (92, (.i s122))] := H
     refine c_seq fun K126 hK126 => c_reg <| s_bin H rfl rfl rfl r_lss (lt_ rfl) fun a H => c_nil <| hK126 _ _ <| c_seq fun K127 hK127 => c_cond H rfl (fun h128 => ?_) (fun h128 => ?_)
     ·replace h := h.1 h128
      refine c_skip <| hK127 _ _ <| c_seq fun K129 hK129 => c_block <| c_seq fun K130 hK130 => c_reg ?_
      obtain ⟨a131, h132, h133, h134, h⟩ := h
      refine s_idxS (s := p2.cut 2 (Int.toNat (l117)) (Int.toNat ((p2.l : Int)))) H rfl rfl rfl slc_35 h132 h133 h134 (lt_ rfl) fun a H => ?_
      obtain ⟨I135, hc136, D137, hc138, h⟩ := h
      refine s_loadN (l := [(.i I135), D137.v]) H rfl rfl agg_41 rfl ⟨hc136, hc138, trivial⟩ (lt_ rfl) fun a H => ?_
      replace h := h.get
      obtain ⟨b139, w140, n141, h⟩ := h
      refine s_alloc H rfl zero_41 (lt_ rfl) ?_
      rw [← n141.at_]
      clear H a
      intro a H
      refine n141.go <| s_stoN (l := [(.i I135), D137.v]) H rfl rfl rfl rfl agg_41 rfl rfl h ?_
      clear h H
      intro w142 h H
      refine c_nil <| hK130 _ _ <| c_seq fun K143 hK143 => ?_
      replace H := H.weaken (L' := [(0, (.pointer (some a18))), (15, d87.v), (19, (.pointer (some (blk b139)))), (90, (Slc.v (p2.cut 2 (Int.toNat (l117)) (Int.toNat ((p2.l : Int)))))), (91, (.i ((p2.cut 2 (Int.toNat (l117)) (Int.toNat ((p2.l : Int)))).l : Int))), (92, (.i s122))]) ⟨rfl, rfl, rfl, rfl, rfl, rfl, trivial⟩
      obtain ⟨l144, hc145, l146, hc147, a148, h149, h150, h151, l152, hc153, l154, hc155, h⟩ := h
      refine c_any (V := [(0, (.pointer (some a18))), (1, (.pointer (some a18))), (2, (.pointer (some a18))), (3, (.pointer (some (a18.add 3)))), (4, l144.v), (5, (.pointer (some ((blk b139).add 0)))), (6, (.i l146)), (7, (.pointer (some (a148.add (Int.toNat (l146) * 1))))), (8, l152.v), (9, d87.v), (11, (.pointer (some ((blk b139).add 1)))), (12, l154.v)]) (⟨[[], [], [1], [2], [3], [], [5], [4, 6], [7], [], [0, 8, 9], [], [11], [10, 12], [13]], [some 96, some 97, some 98, some 99, some 100, some 101, some 102, some 103, some 104, some 105, some 106, some 107, some 108, some 109, some 110], [10, 13], [0, 0, 0, 0, 0, 0, 0, 0, 0, 0, 0, 0, 0, 1, 2], [0, 0, 0, 0, 0, 0, 0, 0, 0, 0, 1, 1, 1, 2, 2]⟩ : Rg) [(0, (.pointer (some a18))), (15, d87.v), (19, (.pointer (some (blk b139)))), (90, (Slc.v (p2.cut 2 (Int.toNat (l117)) (Int.toNat ((p2.l : Int)))))), (91, (.i ((p2.cut 2 (Int.toNat (l117)) (Int.toNat ((p2.l : Int)))).l : Int))), (92, (.i s122))] mixed (by kernel_rfl) H ?_
      refine Stg.eff [0, 1, 2, 3, 4, 5, 6, 7, 8, 9, 11, 12] (by kernel_rfl) rfl (.cons ?_ (.cons ?_ (.cons ?_ (.cons ?_ (.cons ?_ (.cons ?_ (.cons ?_ (.cons ?_ (.cons ?_ (.cons ?_ (.cons ?_ (.cons ?_ .nil)))))))))))) ?_
      ·refine Ans.mk rfl rfl fun a H => s_move H rfl rfl (lt_ rfl) fun a H => ?_
       exact Ans.fin H rfl
      ·refine Ans.mk rfl rfl fun a H => s_move H rfl rfl (lt_ rfl) fun a H => ?_
       exact Ans.fin H rfl
      ·refine Ans.mk rfl rfl fun a H => s_nil H rfl rfl (lt_ rfl) fun a H => ?_
       exact Ans.fin H rfl
      ·refine Ans.mk rfl rfl fun a H => s_fld H rfl rfl fld_69_3 (lt_ rfl) fun a H => ?_
       exact Ans.fin H rfl
      ·refine Ans.mk rfl rfl fun a H => s_load (v := l144.v) H rfl rfl one_25 hc145 (lt_ rfl) fun a H => ?_
       exact Ans.fin H rfl
      ·refine Ans.mk rfl rfl fun a H => s_fld H rfl rfl fld_41_0 (lt_ rfl) fun a H => ?_
       exact Ans.fin H rfl
      ·refine Ans.mk rfl rfl fun a H => s_load (v := (.i l146)) H rfl rfl one_3 hc147 (lt_ rfl) fun a H => ?_
       exact Ans.fin H rfl
      ·refine Ans.mk rfl rfl fun a H => s_idxS (s := l144) H rfl rfl rfl slc_25 h149 h150 h151 (lt_ rfl) fun a H => ?_
       exact Ans.fin H rfl
      ·refine Ans.mk rfl rfl fun a H => s_load (v := l152.v) H rfl rfl one_24 hc153 (lt_ rfl) fun a H => ?_
       exact Ans.fin H rfl
      ·refine Ans.mk rfl rfl fun a H => s_move H rfl rfl (lt_ rfl) fun a H => ?_
       exact Ans.fin H rfl
      ·refine Ans.mk rfl rfl fun a H => s_fld H rfl rfl fld_41_1 (lt_ rfl) fun a H => ?_
       exact Ans.fin H rfl
      ·refine Ans.mk rfl rfl fun a H => s_load (v := l154.v) H rfl rfl one_24 hc155 (lt_ rfl) fun a H => ?_
       exact Ans.fin H rfl
      ·intro a H
       replace H := H.weaken (L' := [(96, (.pointer (some a18))), (104, l152.v), (105, d87.v)]) ⟨rfl, rfl, rfl, trivial⟩
       refine s_call H rfl body_27 (H.args (vs := [(.pointer (some a18)), l152.v, d87.v]) rfl) (lt_ rfl) h ?_ (fun c w' h H => e_panic (P := PP) (fn := Tryd.f17) H h)
       clear H h a
       rintro _ w156 a ⟨s157, rfl, h⟩ H
       refine c_nil ?_
       obtain ⟨hc158, h⟩ := h
       refine effQ.go [] H rfl rfl <| Stg.eff [11, 12] (by kernel_rfl) rfl (.cons ?_ (.cons ?_ .nil)) ?_
       ·refine Ans.mk rfl rfl fun a H => s_fld H rfl rfl fld_41_1 (lt_ rfl) fun a H => ?_
        exact Ans.fin H rfl
       ·refine Ans.mk rfl rfl fun a H => s_load (v := l154.v) H rfl rfl one_24 hc158 (lt_ rfl) fun a H => ?_
        exact Ans.fin H rfl
       ·intro a H
        replace H := H.weaken (L' := [(106, s157.v), (108, l154.v)]) ⟨rfl, rfl, trivial⟩
        refine s_call H rfl body_32 (H.args (vs := [s157.v, l154.v]) rfl) (lt_ rfl) h ?_ (fun c w' h H => e_panic (P := PP) (fn := Tryd.f17) H h)
        clear H h a
        rintro _ w159 a ⟨E160, rfl, h⟩ H
        refine c_nil <| effQ.go [(14, (.bool (!E160)))] H rfl rfl <| Stg.fin [14] (by kernel_rfl) (.cons ?_ .nil) ?_
        ·refine Ans.mk rfl rfl fun a H => s_un H rfl rfl r_not (lt_ rfl) fun a H => ?_
         exact Ans.fin H rfl
        ·intro a H
         replace H := H.weaken (L' := [(0, (.pointer (some a18))), (15, d87.v), (90, (Slc.v (p2.cut 2 (Int.toNat (l117)) (Int.toNat ((p2.l : Int)))))), (91, (.i ((p2.cut 2 (Int.toNat (l117)) (Int.toNat ((p2.l : Int)))).l : Int))), (92, (.i s122)), (110, (.bool (!E160)))]) ⟨rfl, rfl, rfl, rfl, rfl, rfl, trivial⟩
         refine hK143 _ _ <| c_cond H rfl (fun h161 => ?_) (fun h161 => ?_)
         ·replace h := h.1 h161
          refine c_seq fun K162 hK162 => c_reg <| s_assign H rfl rfl (lt_ rfl) fun a H => s_assign H rfl rfl (lt_ rfl) fun a H => c_nil <| hK162 _ _ <| c_ret ?_
          exact e_ret2 H rfl rfl rfl h
         ·replace h := h.2 h161
          refine c_skip <| hK129 _ _ <| c_reg <| s_bin H rfl rfl rfl r_add (lt_ rfl) fun a H => s_move H rfl rfl (lt_ rfl) fun a H => c_nil <| Exists.intro (wr .i64 (s122 + 1)) ⟨h.1, h.2, H.weaken ⟨rfl, rfl, rfl, rfl, rfl, trivial⟩⟩
     ·replace h := h.2 h128
      refine c_exit ?_
      first | (simp only [Exit.then, Exit.inBlock, ↓reduceIte]; fail_if_success simp only [Nat.reduceEqDiff]) | simp only [Exit.then, Exit.inBlock, ↓reduceIte, Nat.reduceEqDiff]
      refine hK115 _ _ <| c_seq fun K171 hK171 => c_reg <| s_move H rfl rfl (lt_ rfl) fun a H => s_assign H rfl rfl (lt_ rfl) fun a H => s_assign H rfl rfl (lt_ rfl) fun a H => c_nil <| hK171 _ _ <| c_ret ?_
      exact e_ret2 H rfl rfl rfl h

theorem sim_stripe_why (w1 : ByteArray) (e2 : Int) (w : World) (Q : Ending → World → Prop) (h : vc_stripe_why w1 e2 w Q) : Calls PP F_stripe_why #[(.string w1), (.i e2)] w Q := by
 unfold vc_stripe_why at h
 refine enter (n := 12) Tryd.func18 rfl rfl (Nat.le_of_ble_eq_true rfl) fun a H => c_seq fun K3 hK3 => c_reg <| s_assign H rfl rfl (lt_ rfl) fun a H => c_nil <| hK3 _ _ <| c_seq fun K4 hK4 => c_seq fun K5 hK5 => c_reg <| s_move H rfl rfl (lt_ rfl) fun a H => s_bin H rfl rfl rfl r_eql (lt_ rfl) fun a H => c_nil <| hK5 _ _ <| c_cond H rfl (fun h6 => ?_) (fun h6 => ?_)
 ·replace h := h.1 h6
  refine c_seq fun K7 hK7 => c_reg <| s_assign H rfl rfl (lt_ rfl) fun a H => c_nil <| hK7 _ _ <| c_ret ?_
  exact e_ret1 H rfl rfl h
 ·replace h := h.2 h6
  refine c_skip <| hK4 _ _ <| c_seq fun K8 hK8 => c_reg <| s_move H rfl rfl (lt_ rfl) fun a H => s_move H rfl rfl (lt_ rfl) fun a H => s_build H rfl (by rw [H.parts (vs := [(0, (.string w1)), (1, (.i e2))]) rfl]; exact bd_81_s0_ii641 w w1 e2) (lt_ rfl) fun a H => ?_
  replace h := h.get
  obtain ⟨b9, w10, n11, h⟩ := h
  refine s_box H rfl rfl (lt_ rfl) ?_
  rw [← n11.at_]
  clear H a
  intro a H
  refine n11.go <| s_iface H rfl rfl ni_79 (lt_ rfl) fun a H => s_assign H rfl rfl (lt_ rfl) fun a H => c_nil <| hK8 _ _ <| c_ret ?_
  exact e_ret1 H rfl rfl h

theorem sim_stripe_number (e1 : Value) (w : World) (Q : Ending → World → Prop) (h : vc_stripe_number e1 w Q) : Calls PP F_stripe_number #[e1] w Q := by
 unfold vc_stripe_number at h
 refine enter (n := 8) Tryd.func20 rfl rfl (Nat.le_of_ble_eq_true rfl) fun a H => c_seq fun K2 hK2 => c_reg <| s_assign H rfl rfl (lt_ rfl) fun a H => c_nil <| hK2 _ _ <| c_seq fun K3 hK3 => c_reg ?_
 replace h := h.get
 obtain ⟨b4, w5, n6, h⟩ := h
 refine s_alloc H rfl zero_32 (lt_ rfl) ?_
 rw [← n6.at_]
 clear H a
 intro a H
 refine n6.go <| c_nil <| hK3 _ _ <| c_seq fun K7 hK7 => c_seq fun K8 hK8 => c_reg <| s_move H rfl rfl (lt_ rfl) fun a H => s_iface H rfl rfl ni_87 (lt_ rfl) fun a H => s_call H rfl body_35 (H.args (vs := [e1, (.iface 87 (.pointer (some (blk b4))))]) rfl) (lt_ rfl) h ?_ (fun c w' h H => e_panic (P := PP) (fn := Tryd.f20) H h)
 clear H h a
 rintro _ w9 a ⟨A10, rfl, h⟩ H
 refine c_nil <| hK8 _ _ <| c_cond H rfl (fun h11 => ?_) (fun h11 => ?_)
 ·replace h := h.1 h11
  refine c_seq fun K12 hK12 => c_reg ?_
  obtain ⟨l13, hc14, h⟩ := h
  refine s_load (v := (.i l13)) H rfl rfl one_32 hc14 (lt_ rfl) fun a H => s_assign H rfl rfl (lt_ rfl) fun a H => c_nil <| hK12 _ _ <| c_ret ?_
  exact e_ret1 H rfl rfl h
 ·replace h := h.2 h11
  refine c_skip <| hK7 _ _ <| c_seq fun K15 hK15 => c_reg <| s_assign H rfl rfl (lt_ rfl) fun a H => c_nil <| hK15 _ _ <| c_ret ?_
  exact e_ret1 H rfl rfl h

theorem sim_stripe_whole (r1 : Slc) (w : World) (Q : Ending → World → Prop) (h : vc_stripe_whole r1 w Q) : Calls PP F_stripe_whole #[r1.v] w Q := by
 unfold vc_stripe_whole at h
 refine enter (n := 70) Tryd.func21 rfl rfl (Nat.le_of_ble_eq_true rfl) fun a H => c_seq fun K2 hK2 => c_reg <| s_assign H rfl rfl (lt_ rfl) fun a H => s_assign H rfl rfl (lt_ rfl) fun a H => c_nil <| hK2 _ _ <| c_seq fun K3 hK3 => c_reg <| s_move H rfl rfl (lt_ rfl) fun a H => s_blt H rfl (H.args (vs := [r1.v]) rfl) (lt_ rfl) (fun cs => b_lenS (z := r1) sl_25) fun a H => s_assign H rfl rfl (lt_ rfl) fun a H => c_nil <| hK3 _ _ <| c_seq fun K4 hK4 => c_reg ?_
 refine s_move H rfl rfl (lt_ rfl) fun a H => ?_
 obtain ⟨a5, h6, h7, h8, h⟩ := h
 refine s_idxS (s := r1) H rfl rfl rfl slc_25 h6 h7 h8 (lt_ rfl) fun a H => ?_
 obtain ⟨l9, hc10, h⟩ := h
 refine s_load (v := l9.v) H rfl rfl one_24 hc10 (lt_ rfl) fun a H => s_blt H rfl (H.args (vs := [l9.v]) rfl) (lt_ rfl) (fun cs => b_lenS (z := l9) sl_24) fun a H => s_assign H rfl rfl (lt_ rfl) fun a H => c_nil <| hK4 _ _ <| c_seq fun K11 hK11 => c_seq fun K12 hK12 => c_reg <| s_move H rfl rfl (lt_ rfl) fun a H => s_move H rfl rfl (lt_ rfl) fun a H => s_bin H rfl rfl rfl r_mul (lt_ rfl) fun a H => s_bin H rfl rfl rfl r_lss (lt_ rfl) fun a H => s_move H rfl rfl (lt_ rfl) fun a H => ?_
 obtain ⟨R15, h, h116⟩ := h
 refine g_joinW (n := 70) R15 (fun x16 => [(23, (.bool x16)), (0, r1.v), (4, (.i (r1.l : Int))), (5, (.i (l9.l : Int)))]) (.succ (.succ (.succ (.succ (.succ (.zero _)))))) ?_ ?_
 ·intro h14
  clear h116
  rcases Bool.eq_false_or_eq_true (decide ((wr .i64 ((l9.l : Int) * (r1.l : Int))) < 4)) with h13 | h13
  ·replace H := H.ch (t := 18) (b := true) rfl h13
   replace h := h.2 h13
   iterate 4 refine s_skip H (wantN H rfl rfl rfl) rfl (lt_ rfl) fun a H => ?_
   refine s_pickT H rfl rfl rfl (lt_ rfl) fun a H => ?_
   exact h14 _ _ _ h (H.weaken ⟨rfl, rfl, rfl, rfl, trivial⟩)
  ·replace H := H.ch (t := 18) (b := false) rfl h13
   replace h := h.1 h13
   refine s_move H (wantG H rfl rfl) rfl (lt_ rfl) fun a H => s_move H (wantG H rfl rfl) rfl (lt_ rfl) fun a H => s_call H (wantG H rfl rfl) body_22 (H.args (vs := [(.i 65536), (.i (r1.l : Int))]) rfl) (lt_ rfl) h ?_ (fun c w' h H => e_panic (P := PP) (fn := Tryd.f21) H h)
   clear H h a
   rintro _ w18 a ⟨s19, rfl, h⟩ H
   refine s_bin H (wantG H rfl rfl) rfl rfl r_gtr (lt_ rfl) fun a H => s_pickF H rfl rfl rfl (lt_ rfl) fun a H => ?_
   exact h14 _ _ _ h (H.weaken ⟨rfl, rfl, rfl, rfl, trivial⟩)
 ·clear H a h
  intro a x16 w17 h H
  replace h := h116 x16 w17 h
  clear h116
  refine c_nil <| hK12 _ _ <| c_cond H rfl (fun h24 => ?_) (fun h24 => ?_)
  ·replace h := h.1 h24
   refine c_seq fun K25 hK25 => c_reg <| s_call H rfl body_18 (H.args (vs := [(.string (ByteArray.mk #[116, 104, 101, 32, 114, 111, 119, 115])), (.i 23)]) rfl) (lt_ rfl) h ?_ (fun c w' h H => e_panic (P := PP) (fn := Tryd.f21) H h)
   clear H h a
   rintro w27 w26 a ⟨_, rfl, h⟩ H
   refine s_assign H rfl rfl (lt_ rfl) fun a H => s_assign H rfl rfl (lt_ rfl) fun a H => c_nil <| hK25 _ _ <| c_ret ?_
   exact e_ret2 H rfl rfl rfl h
  ·replace h := h.2 h24
   refine c_skip <| hK11 _ _ <| c_seq fun K32 hK32 => c_reg <| s_move H rfl rfl (lt_ rfl) fun a H => s_call H rfl body_36 (H.args (vs := [r1.v]) rfl) (lt_ rfl) h ?_ (fun c w' h H => e_panic (P := PP) (fn := Tryd.f21) H h)
   clear H h a
   rintro _ w33 a ⟨C34, rfl, h⟩ H
   refine s_assign H rfl rfl (lt_ rfl) fun a H => c_nil <| hK32 _ _ <| c_seq fun K35 hK35 => c_regD mixed (by kernel_rfl) <| z_move H rfl rfl (lt_ rfl) fun a H => ?_
   obtain ⟨a37, h38, h39, h40, h⟩ := h
   refine z_idxS (s := C34) H rfl rfl rfl slc_24 h38 h39 h40 (lt_ rfl) fun a H => ?_
   obtain ⟨l41, hc42, h⟩ := h
   refine z_load (v := (.int .u8 l41)) H rfl rfl one_5 hc42 (lt_ rfl) fun a H => z_cv H rfl rfl (fun w => r_cvI some_5 int_3) (lt_ rfl) fun a H => z_move H rfl rfl (lt_ rfl) fun a H => ?_
   obtain ⟨a43, h44, h45, h46, h⟩ := h
   refine z_idxS (s := C34) H rfl rfl rfl slc_24 h44 h45 h46 (lt_ rfl) fun a H => ?_
   obtain ⟨l47, hc48, h⟩ := h
   refine z_load (v := (.int .u8 l47)) H rfl rfl one_5 hc48 (lt_ rfl) fun a H => z_cv H rfl rfl (fun w => r_cvI some_5 int_3) (lt_ rfl) fun a H => z_bin H rfl rfl rfl (r_shl (by decide)) (lt_ rfl) fun a H => z_bin H rfl rfl rfl r_or (lt_ rfl) fun a H => z_move H rfl rfl (lt_ rfl) fun a H => ?_
   obtain ⟨a49, h50, h51, h52, h⟩ := h
   refine z_idxS (s := C34) H rfl rfl rfl slc_24 h50 h51 h52 (lt_ rfl) fun a H => ?_
   obtain ⟨l53, hc54, h⟩ := h
   refine z_load (v := (.int .u8 l53)) H rfl rfl one_5 hc54 (lt_ rfl) fun a H => z_cv H rfl rfl (fun w => r_cvI some_5 int_3) (lt_ rfl) fun a H => z_bin H rfl rfl rfl (r_shl (by decide)) (lt_ rfl) fun a H => z_bin H rfl rfl rfl r_or (lt_ rfl) fun a H => z_move H rfl rfl (lt_ rfl) fun a H => ?_
   obtain ⟨a55, h56, h57, h58, h⟩ := h
   refine z_idxS (s := C34) H rfl rfl rfl slc_24 h56 h57 h58 (lt_ rfl) fun a H => ?_
   obtain ⟨l59, hc60, h⟩ := h
   refine z_load (v := (.int .u8 l59)) H rfl rfl one_5 hc60 (lt_ rfl) fun a H => z_cv H rfl rfl (fun w => r_cvI some_5 int_3) (lt_ rfl) fun a H => z_bin H rfl rfl rfl (r_shl (by decide)) (lt_ rfl) fun a H => z_bin H rfl rfl rfl r_or (lt_ rfl) fun a H => z_assign H rfl rfl (lt_ rfl) fun a H => wpQuiet_nil ?_
   rintro _ ⟨k36, rfl⟩
   replace h := h k36
   refine hK35 _ _ <| c_seq fun K61 hK61 => c_seq fun K62 hK62 => c_reg <| s_move H rfl rfl (lt_ rfl) fun a H => s_bin H rfl rfl rfl r_gtr (lt_ rfl) fun a H => s_move H rfl rfl (lt_ rfl) fun a H => ?_
   obtain ⟨R65, h, h111⟩ := h
   refine g_joinW (n := 70) R65 (fun x66 => [(57, (.bool x66)), (6, C34.v), (7, (.i (orI .i64 (orI .i64 (orI .i64 (wr .i64 l41) (shlI .i64 (wr .i64 l47) 8)) (shlI .i64 (wr .i64 l53) 16)) (shlI .i64 (wr .i64 l59) 24))))]) (.succ (.succ (.succ (.succ (.succ (.succ (.zero _))))))) ?_ ?_
   ·intro h64
    clear h111
    rcases Bool.eq_false_or_eq_true (decide (65536 < (orI .i64 (orI .i64 (orI .i64 (wr .i64 l41) (shlI .i64 (wr .i64 l47) 8)) (shlI .i64 (wr .i64 l53) 16)) (shlI .i64 (wr .i64 l59) 24)))) with h63 | h63
    ·replace H := H.ch (t := 51) (b := true) rfl h63
     replace h := h.2 h63
     iterate 5 refine s_skip H (wantN H rfl rfl rfl) rfl (lt_ rfl) fun a H => ?_
     refine s_pickT H rfl rfl rfl (lt_ rfl) fun a H => ?_
     exact h64 _ _ _ h (H.weaken ⟨rfl, rfl, rfl, trivial⟩)
    ·replace H := H.ch (t := 51) (b := false) rfl h63
     replace h := h.1 h63
     refine s_move H (wantG H rfl rfl) rfl (lt_ rfl) fun a H => s_move H (wantG H rfl rfl) rfl (lt_ rfl) fun a H => s_call H (wantG H rfl rfl) body_22 (H.args (vs := [(.i (orI .i64 (orI .i64 (orI .i64 (wr .i64 l41) (shlI .i64 (wr .i64 l47) 8)) (shlI .i64 (wr .i64 l53) 16)) (shlI .i64 (wr .i64 l59) 24))), (.i (r1.l : Int))]) rfl) (lt_ rfl) h ?_ (fun c w' h H => e_panic (P := PP) (fn := Tryd.f21) H h)
     clear H h a
     rintro _ w68 a ⟨s69, rfl, h⟩ H
     refine s_move H (wantG H rfl rfl) rfl (lt_ rfl) fun a H => s_bin H (wantG H rfl rfl) rfl rfl r_neq (lt_ rfl) fun a H => s_pickF H rfl rfl rfl (lt_ rfl) fun a H => ?_
     exact h64 _ _ _ h (H.weaken ⟨rfl, rfl, rfl, trivial⟩)
   ·clear H a h
    intro a x66 w67 h H
    replace h := h111 x66 w67 h
    clear h111
    refine c_nil <| hK62 _ _ <| c_cond H rfl (fun h74 => ?_) (fun h74 => ?_)
    ·replace h := h.1 h74
     refine c_seq fun K75 hK75 => c_reg <| s_call H rfl body_18 (H.args (vs := [(.string (ByteArray.mk #[116, 104, 101, 32, 108, 101, 110, 103, 116, 104])), (.i 25)]) rfl) (lt_ rfl) h ?_ (fun c w' h H => e_panic (P := PP) (fn := Tryd.f21) H h)
     clear H h a
     rintro w77 w76 a ⟨_, rfl, h⟩ H
     refine s_assign H rfl rfl (lt_ rfl) fun a H => s_assign H rfl rfl (lt_ rfl) fun a H => c_nil <| hK75 _ _ <| c_ret ?_
     exact e_ret2 H rfl rfl rfl h
    ·replace h := h.2 h74
     refine c_skip <| hK61 _ _ <| c_seq fun K82 hK82 => c_seq fun K83 hK83 => c_reg <| s_move H rfl rfl (lt_ rfl) fun a H => s_move H rfl rfl (lt_ rfl) fun a H => s_bin H rfl rfl rfl r_add (lt_ rfl) fun a H => ?_
     obtain ⟨h84, h85, h86, h⟩ := h
     refine s_slice (v := (Slc.v (C34.cut 1 (Int.toNat (wr .i64 (4 + (orI .i64 (orI .i64 (orI .i64 (wr .i64 l41) (shlI .i64 (wr .i64 l47) 8)) (shlI .i64 (wr .i64 l53) 16)) (shlI .i64 (wr .i64 l59) 24))))) (Int.toNat ((C34.l : Int)))))) H rfl rfl ⟨rfl, rfl⟩ ⟨rfl, rfl⟩ ⟨rfl, rfl⟩ (r_sliceSlc (lo := (some (.i64, wr .i64 (4 + (orI .i64 (orI .i64 (orI .i64 (wr .i64 l41) (shlI .i64 (wr .i64 l47) 8)) (shlI .i64 (wr .i64 l53) 16)) (shlI .i64 (wr .i64 l59) 24)))))) (hi := none) slc_24 rfl rfl h84 h85 h86) (lt_ rfl) fun a H => ?_
     refine s_call H rfl body_37 (H.args (vs := [(Slc.v (C34.cut 1 (Int.toNat (wr .i64 (4 + (orI .i64 (orI .i64 (orI .i64 (wr .i64 l41) (shlI .i64 (wr .i64 l47) 8)) (shlI .i64 (wr .i64 l53) 16)) (shlI .i64 (wr .i64 l59) 24))))) (Int.toNat ((C34.l : Int))))), (.func (.func 38) #[] #[])]) rfl) (lt_ rfl) h ?_ (fun c w' h H => e_panic (P := PP) (fn := Tryd.f21) H h)
     clear H h a
     rintro _ w87 a ⟨r88, rfl, h⟩ H
     refine c_nil <| hK83 _ _ <| c_cond H rfl (fun h89 => ?_) (fun h89 => ?_)
     ·replace h := h.1 h89
      refine c_seq fun K90 hK90 => c_reg <| s_call H rfl body_18 (H.args (vs := [(.string (ByteArray.mk #[116, 104, 101, 32, 101, 110, 100])), (.i 24)]) rfl) (lt_ rfl) h ?_ (fun c w' h H => e_panic (P := PP) (fn := Tryd.f21) H h)
      clear H h a
      rintro w92 w91 a ⟨_, rfl, h⟩ H
      refine s_assign H rfl rfl (lt_ rfl) fun a H => s_assign H rfl rfl (lt_ rfl) fun a H => c_nil <| hK90 _ _ <| c_ret ?_
      exact e_ret2 H rfl rfl rfl h
     ·replace h := h.2 h89
      refine c_skip <| hK82 _ _ <| c_seq fun K97 hK97 => c_reg <| s_move H rfl rfl (lt_ rfl) fun a H => s_move H rfl rfl (lt_ rfl) fun a H => s_bin H rfl rfl rfl r_add (lt_ rfl) fun a H => ?_
      obtain ⟨h98, h99, h100, h⟩ := h
      refine s_slice (v := (Slc.v (C34.cut 1 (Int.toNat (4)) (Int.toNat (wr .i64 (4 + (orI .i64 (orI .i64 (orI .i64 (wr .i64 l41) (shlI .i64 (wr .i64 l47) 8)) (shlI .i64 (wr .i64 l53) 16)) (shlI .i64 (wr .i64 l59) 24)))))))) H rfl rfl ⟨rfl, rfl⟩ ⟨rfl, rfl⟩ ⟨rfl, rfl⟩ (r_sliceSlc (lo := (some (.i64, 4))) (hi := (some (.i64, wr .i64 (4 + (orI .i64 (orI .i64 (orI .i64 (wr .i64 l41) (shlI .i64 (wr .i64 l47) 8)) (shlI .i64 (wr .i64 l53) 16)) (shlI .i64 (wr .i64 l59) 24)))))) slc_24 rfl rfl h98 h99 h100) (lt_ rfl) fun a H => ?_
      refine s_call H rfl body_39 (H.args (vs := [(Slc.v (C34.cut 1 (Int.toNat (4)) (Int.toNat (wr .i64 (4 + (orI .i64 (orI .i64 (orI .i64 (wr .i64 l41) (shlI .i64 (wr .i64 l47) 8)) (shlI .i64 (wr .i64 l53) 16)) (shlI .i64 (wr .i64 l59) 24)))))))]) rfl) (lt_ rfl) h ?_ (fun c w' h H => e_panic (P := PP) (fn := Tryd.f21) H h)
      clear H h a
      rintro _ w101 a ⟨C102, rfl, h⟩ H
      refine s_assign H rfl rfl (lt_ rfl) fun a H => s_assign H rfl rfl (lt_ rfl) fun a H => c_nil <| hK97 _ _ <| c_ret ?_
      exact e_ret2 H rfl rfl rfl h

theorem sim_stripe_size (l1 k2 : Int) (w : World) (Q : Ending → World → Prop) (h : vc_stripe_size l1 k2 w Q) : Calls PP F_stripe_size #[(.i l1), (.i k2)] w Q := by
 unfold vc_stripe_size at h
 refine enter (n := 12) Tryd.func22 rfl rfl (Nat.le_of_ble_eq_true rfl) fun a H => c_seq fun K3 hK3 => c_reg <| s_assign H rfl rfl (lt_ rfl) fun a H => c_nil <| hK3 _ _ <| c_seq fun K4 hK4 => c_reg <| s_move H rfl rfl (lt_ rfl) fun a H => s_bin H rfl rfl rfl r_add (lt_ rfl) fun a H => s_move H rfl rfl (lt_ rfl) fun a H => s_bin H rfl rfl rfl r_add (lt_ rfl) fun a H => s_bin H rfl rfl rfl r_sub (lt_ rfl) fun a H => s_move H rfl rfl (lt_ rfl) fun a H => ?_
 obtain ⟨h5, h⟩ := h
 refine s_bin H rfl rfl rfl (r_quo h5) (lt_ rfl) fun a H => s_assign H rfl rfl (lt_ rfl) fun a H => c_nil <| hK4 _ _ <| c_ret ?_
 exact e_ret1 H rfl rfl h

theorem sim_code_Code_Row (c1 : Option Addr) (d2 : Slc) (i3 : Int) (w : World) (Q : Ending → World → Prop) (h : vc_code_Code_Row c1 d2 i3 w Q) : Calls PP F_code_Code_Row #[(.pointer c1), d2.v, (.i i3)] w Q := by
 unfold vc_code_Code_Row at h
 refine enter (n := 34) Tryd.func23 rfl rfl (Nat.le_of_ble_eq_true rfl) fun a H => c_seq fun K4 hK4 => c_reg <| s_assign H rfl rfl (lt_ rfl) fun a H => s_assign H rfl rfl (lt_ rfl) fun a H => c_nil <| hK4 _ _ <| c_seq fun K5 hK5 => c_seq fun K6 hK6 => c_reg <| s_move H rfl rfl (lt_ rfl) fun a H => s_bin H rfl rfl rfl (r_eqP0 ptr_29) (lt_ rfl) fun a H => c_nil <| hK6 _ _ <| c_cond H rfl (fun h7 => ?_) (fun h7 => ?_)
 ·replace h := h.1 h7
  refine c_seq fun K8 hK8 => c_reg <| s_assign H rfl rfl (lt_ rfl) fun a H => s_assign H rfl rfl (lt_ rfl) fun a H => c_nil <| hK8 _ _ <| c_ret ?_
  exact e_ret2 H rfl rfl rfl h
 ·replace h := h.2 h7
  refine c_skip <| hK5 _ _ <| c_seq fun K9 hK9 => c_seq fun K10 hK10 => c_reg <| s_move H rfl rfl (lt_ rfl) fun a H => s_bin H rfl rfl rfl r_lss (lt_ rfl) fun a H => s_move H rfl rfl (lt_ rfl) fun a H => ?_
  obtain ⟨x17, h18, h19, h⟩ := h
  refine g_join (n := 34) [(19, (.bool x17)), (0, (.pointer c1)), (1, d2.v), (2, (.i i3))] (.succ (.succ (.succ (.succ (.succ (.succ (.succ (.zero _)))))))) ?_ ?_
  ·intro h12
   try clear h
   rcases Bool.eq_false_or_eq_true (decide (i3 < 0)) with h11 | h11
   ·replace H := H.ch (t := 12) (b := true) rfl h11
    iterate 6 refine s_skip H (wantN H rfl rfl rfl) rfl (lt_ rfl) fun a H => ?_
    refine s_pickT H rfl rfl rfl (lt_ rfl) fun a H => ?_
    replace h := h19 h11
    subst h
    exact h12 _ (H.weaken ⟨rfl, rfl, rfl, rfl, trivial⟩)
   ·replace H := H.ch (t := 12) (b := false) rfl h11
    replace h := h18 h11
    refine s_move H (wantG H rfl rfl) rfl (lt_ rfl) fun a H => s_move H (wantG H rfl rfl) rfl (lt_ rfl) fun a H => ?_
    obtain ⟨a13, h16, h⟩ := h
    revert H
    subst h16
    intro H
    refine s_nil H (wantG H rfl rfl) rfl (lt_ rfl) fun a H => s_fld H (wantG H rfl rfl) rfl fld_69_1 (lt_ rfl) fun a H => ?_
    obtain ⟨l14, hc15, h⟩ := h
    refine s_load (v := (.i l14)) H (wantG H rfl rfl) rfl one_3 hc15 (lt_ rfl) fun a H => s_bin H (wantG H rfl rfl) rfl rfl r_geq (lt_ rfl) fun a H => s_pickF H rfl rfl rfl (lt_ rfl) fun a H => ?_
    subst h
    exact h12 _ (H.weaken ⟨rfl, rfl, rfl, rfl, trivial⟩)
  ·clear H a
   clear h18 h19
   intro a H
   refine c_nil <| hK10 _ _ <| c_cond H rfl (fun h20 => ?_) (fun h20 => ?_)
   ·replace h := h.1 h20
    refine c_seq fun K21 hK21 => c_reg <| s_assign H rfl rfl (lt_ rfl) fun a H => s_assign H rfl rfl (lt_ rfl) fun a H => c_nil <| hK21 _ _ <| c_ret ?_
    exact e_ret2 H rfl rfl rfl h
   ·replace h := h.2 h20
    refine c_skip <| hK9 _ _ <| c_seq fun K22 hK22 => c_seq fun K23 hK23 => c_reg <| s_move H rfl rfl (lt_ rfl) fun a H => s_move H rfl rfl (lt_ rfl) fun a H => s_call H rfl body_26 (H.args (vs := [(.pointer c1), d2.v]) rfl) (lt_ rfl) h ?_ (fun c w' h H => e_panic (P := PP) (fn := Tryd.f23) H h)
    clear H h a
    rintro _ w24 a ⟨s25, rfl, h⟩ H
    refine s_un H rfl rfl r_not (lt_ rfl) fun a H => c_nil <| hK23 _ _ <| c_cond H rfl (fun h26 => ?_) (fun h26 => ?_)
    ·replace h := h.1 h26
     refine c_seq fun K27 hK27 => c_reg <| s_assign H rfl rfl (lt_ rfl) fun a H => s_assign H rfl rfl (lt_ rfl) fun a H => c_nil <| hK27 _ _ <| c_ret ?_
     exact e_ret2 H rfl rfl rfl h
    ·replace h := h.2 h26
     refine c_skip <| hK22 _ _ <| c_seq fun K28 hK28 => c_reg <| s_move H rfl rfl (lt_ rfl) fun a H => s_move H rfl rfl (lt_ rfl) fun a H => ?_
     obtain ⟨a29, h44, h⟩ := h
     revert H
     subst h44
     intro H
     refine s_nil H rfl rfl (lt_ rfl) fun a H => s_fld H rfl rfl fld_69_3 (lt_ rfl) fun a H => ?_
     obtain ⟨l30, hc31, h⟩ := h
     refine s_load (v := l30.v) H rfl rfl one_25 hc31 (lt_ rfl) fun a H => s_move H rfl rfl (lt_ rfl) fun a H => ?_
     obtain ⟨a32, h33, h34, h35, h⟩ := h
     refine s_idxS (s := l30) H rfl rfl rfl slc_25 h33 h34 h35 (lt_ rfl) fun a H => ?_
     obtain ⟨l36, hc37, h⟩ := h
     refine s_load (v := l36.v) H rfl rfl one_24 hc37 (lt_ rfl) fun a H => s_move H rfl rfl (lt_ rfl) fun a H => s_call H rfl body_27 (H.args (vs := [(.pointer (some a29)), l36.v, d2.v]) rfl) (lt_ rfl) h ?_ (fun c w' h H => e_panic (P := PP) (fn := Tryd.f23) H h)
     clear H h a
     rintro _ w38 a ⟨s39, rfl, h⟩ H
     refine s_assign H rfl rfl (lt_ rfl) fun a H => s_assign H rfl rfl (lt_ rfl) fun a H => c_nil <| hK28 _ _ <| c_ret ?_
     exact e_ret2 H rfl rfl rfl h

theorem sim_gf_Std (w : World) (Q : Ending → World → Prop) (h : vc_gf_Std w Q) : Calls PP F_gf_Std #[] w Q := by
 unfold vc_gf_Std at h
 refine enter (n := 8) Tryd.func24 rfl rfl (Nat.le_of_ble_eq_true rfl) fun a H => c_seq fun K1 hK1 => c_reg <| s_assign H rfl rfl (lt_ rfl) fun a H => c_nil <| hK1 _ _ <| c_seq fun K2 hK2 => c_reg <| s_call H rfl body_40 (H.args (vs := [(.i 285)]) rfl) (lt_ rfl) h ?_ (fun c w' h H => e_panic (P := PP) (fn := Tryd.f24) H h)
 clear H h a
 rintro _ w3 a ⟨N4, N5, rfl, h⟩ H
 refine s_move H rfl rfl (lt_ rfl) fun a H => s_ext H rfl rfl rfl (lt_ rfl) fun a H => s_ext H rfl rfl rfl (lt_ rfl) fun a H => s_assign H rfl rfl (lt_ rfl) fun a H => s_assign H rfl rfl (lt_ rfl) fun a H => c_nil <| hK2 _ _ <| c_seq fun K6 hK6 => c_reg <| s_move H rfl rfl (lt_ rfl) fun a H => s_assign H rfl rfl (lt_ rfl) fun a H => c_nil <| hK6 _ _ <| c_ret ?_
 exact e_ret1 H rfl rfl h

theorem sim_code_generator (f1 : Option Addr) (n2 k3 : Int) (w : World) (Q : Ending → World → Prop) (h : vc_code_generator f1 n2 k3 w Q) : Calls PP F_code_generator #[(.pointer f1), (.i n2), (.i k3)] w Q := by
 unfold vc_code_generator at h
 refine enter (n := 59) Tryd.func25 rfl rfl (Nat.le_of_ble_eq_true rfl) fun a H => c_seq fun K4 hK4 => c_reg <| s_assign H rfl rfl (lt_ rfl) fun a H => c_nil <| hK4 _ _ <| c_seq fun K5 hK5 => c_reg <| s_move H rfl rfl (lt_ rfl) fun a H => ?_
 obtain ⟨s6, w7, h8, h⟩ := h
 refine s_mk H rfl rfl rfl h8 (lt_ rfl) ?_
 clear H a h8
 intro a H
 refine s_assign H rfl rfl (lt_ rfl) fun a H => c_nil <| hK5 _ _ <| c_seq fun K9 hK9 => c_seq fun K10 hK10 => c_reg <| s_move H rfl rfl (lt_ rfl) fun a H => s_blt H rfl (H.args (vs := [s6.v]) rfl) (lt_ rfl) (fun cs => b_lenS (z := s6) sl_24) fun a H => s_move H rfl rfl (lt_ rfl) fun a H => c_nil <| hK10 _ _ <| c_block ?_
 obtain ⟨I13, m14, h69, h70⟩ := h
 refine c_loop (σ := Int) (fun z w => I13 z w) (fun z w => m14 z w) (fun z => [(0, (.pointer f1)), (2, (.i k3)), (7, s6.v), (20, (.i (s6.l : Int))), (21, (.i z))]) 0 h69 (H.weaken ⟨rfl, rfl, rfl, rfl, rfl, trivial⟩) ?_
 clear H h69
 rintro s11 a w12 h H
 replace h := h70 s11 w12 h
 clear h70
 replace H : Has 59 [] a [(0, (.pointer f1)), (2, (.i k3)), (7, s6.v), (20, (.i (s6.l : Int))), (21, (.i s11))] := H
 refine c_seq fun K15 hK15 => c_reg <| s_bin H rfl rfl rfl r_lss (lt_ rfl) fun a H => c_nil <| hK15 _ _ <| c_seq fun K16 hK16 => c_cond H rfl (fun h17 => ?_) (fun h17 => ?_)
 ·replace h := h.1 h17
  refine c_skip <| hK16 _ _ <| c_seq fun K18 hK18 => c_block <| c_seq fun K19 hK19 => c_reg <| s_move H rfl rfl (lt_ rfl) fun a H => s_assign H rfl rfl (lt_ rfl) fun a H => c_nil <| hK19 _ _ <| c_reg ?_
  iterate 3 refine s_move H rfl rfl (lt_ rfl) fun a H => ?_
  refine s_cv H rfl rfl (r_cvI some_3 int_5) (lt_ rfl) fun a H => ?_
  obtain ⟨a20, h21, h22, h23, h⟩ := h
  refine s_idxS (s := s6) H rfl rfl rfl slc_24 h21 h22 h23 (lt_ rfl) fun a H => ?_
  obtain ⟨h25, h26, h⟩ := h
  refine s_sto (p := a20.add (Int.toNat (s11) * 1)) (v := (.int .u8 (wr .u8 s11))) H rfl rfl rfl rfl one_5 rfl h25 h26 ?_
  clear H
  intro H
  generalize hww24 : World.setCell w12 (a20.add (Int.toNat (s11) * 1)) (.int .u8 (wr .u8 s11)) = w24 at h ⊢
  have w24S : SetAt w12 (a20.add (Int.toNat (s11) * 1)) (.int .u8 (wr .u8 s11)) w24 := ⟨hww24.symm⟩
  clear hww24 h25 h26
  refine c_nil <| hK18 _ _ <| c_reg <| s_bin H rfl rfl rfl r_add (lt_ rfl) fun a H => s_move H rfl rfl (lt_ rfl) fun a H => c_nil <| Exists.intro (wr .i64 (s11 + 1)) ⟨h.1, h.2, H.weaken ⟨rfl, rfl, rfl, rfl, rfl, trivial⟩⟩
 ·replace h := h.2 h17
  refine c_exit ?_
  first | (simp only [Exit.then, Exit.inBlock, ↓reduceIte]; fail_if_success simp only [Nat.reduceEqDiff]) | simp only [Exit.then, Exit.inBlock, ↓reduceIte, Nat.reduceEqDiff]
  refine hK9 _ _ <| c_seq fun K27 hK27 => c_reg ?_
  iterate 3 refine s_move H rfl rfl (lt_ rfl) fun a H => ?_
  refine s_call H rfl body_41 (H.args (vs := [(.pointer f1), s6.v, (.i k3)]) rfl) (lt_ rfl) h ?_ (fun c w' h H => e_panic (P := PP) (fn := Tryd.f25) H h)
  clear H h a
  rintro _ w28 a ⟨V29, V30, rfl, h⟩ H
  refine s_move H rfl rfl (lt_ rfl) fun a H => s_ext H rfl rfl rfl (lt_ rfl) fun a H => s_ext H rfl rfl rfl (lt_ rfl) fun a H => s_assign H rfl rfl (lt_ rfl) fun a H => s_assign H rfl rfl (lt_ rfl) fun a H => c_nil <| hK27 _ _ <| c_seq fun K31 hK31 => c_reg ?_
  iterate 3 refine s_move H rfl rfl (lt_ rfl) fun a H => ?_
  obtain ⟨h32, h33, h34, h⟩ := h
  refine s_slice (v := (Slc.v (s6.cut 1 (Int.toNat (0)) (Int.toNat (k3))))) H rfl rfl ⟨rfl, rfl⟩ ⟨rfl, rfl⟩ ⟨rfl, rfl⟩ (r_sliceSlc (lo := none) (hi := (some (.i64, k3))) slc_24 rfl rfl h32 h33 h34) (lt_ rfl) fun a H => s_move H rfl rfl (lt_ rfl) fun a H => s_call H rfl body_41 (H.args (vs := [(.pointer f1), (Slc.v (s6.cut 1 (Int.toNat (0)) (Int.toNat (k3)))), (.i k3)]) rfl) (lt_ rfl) h ?_ (fun c w' h H => e_panic (P := PP) (fn := Tryd.f25) H h)
  clear H h a
  rintro _ w35 a ⟨V36, V37, rfl, h⟩ H
  refine s_move H rfl rfl (lt_ rfl) fun a H => s_ext H rfl rfl rfl (lt_ rfl) fun a H => s_ext H rfl rfl rfl (lt_ rfl) fun a H => s_assign H rfl rfl (lt_ rfl) fun a H => s_assign H rfl rfl (lt_ rfl) fun a H => c_nil <| hK31 _ _ <| c_seq fun K38 hK38 => c_reg <| s_move H rfl rfl (lt_ rfl) fun a H => s_call H rfl body_30 (H.args (vs := [(.pointer V36)]) rfl) (lt_ rfl) h ?_ (fun c w' h H => e_panic (P := PP) (fn := Tryd.f25) H h)
  clear H h a
  rintro _ w39 a ⟨I40, I41, rfl, h⟩ H
  refine s_move H rfl rfl (lt_ rfl) fun a H => s_ext H rfl rfl rfl (lt_ rfl) fun a H => s_ext H rfl rfl rfl (lt_ rfl) fun a H => s_assign H rfl rfl (lt_ rfl) fun a H => s_assign H rfl rfl (lt_ rfl) fun a H => c_nil <| hK38 _ _ <| c_seq fun K42 hK42 => c_reg <| s_move H rfl rfl (lt_ rfl) fun a H => s_move H rfl rfl (lt_ rfl) fun a H => s_call H rfl body_42 (H.args (vs := [(.pointer V29), (.pointer I40)]) rfl) (lt_ rfl) h ?_ (fun c w' h H => e_panic (P := PP) (fn := Tryd.f25) H h)
  clear H h a
  rintro _ w43 a ⟨M44, M45, rfl, h⟩ H
  refine s_move H rfl rfl (lt_ rfl) fun a H => s_ext H rfl rfl rfl (lt_ rfl) fun a H => s_ext H rfl rfl rfl (lt_ rfl) fun a H => s_assign H rfl rfl (lt_ rfl) fun a H => s_assign H rfl rfl (lt_ rfl) fun a H => c_nil <| hK42 _ _ <| c_seq fun K46 hK46 => c_reg <| s_move H rfl rfl (lt_ rfl) fun a H => s_call H rfl body_31 (H.args (vs := [(.pointer M44)]) rfl) (lt_ rfl) h ?_ (fun c w' h H => e_panic (P := PP) (fn := Tryd.f25) H h)
  clear H h a
  rintro _ w47 a ⟨R48, rfl, h⟩ H
  refine s_assign H rfl rfl (lt_ rfl) fun a H => c_nil <| hK46 _ _ <| c_ret ?_
  exact e_ret1 H rfl rfl h

theorem sim_code_Code_shaped (c1 : Option Addr) (d2 : Slc) (w : World) (Q : Ending → World → Prop) (h : vc_code_Code_shaped c1 d2 w Q) : Calls PP F_code_Code_shaped #[(.pointer c1), d2.v] w Q := by
 unfold vc_code_Code_shaped at h
 refine enter (n := 18) Tryd.func26 rfl rfl (Nat.le_of_ble_eq_true rfl) fun a H => c_seq fun K3 hK3 => c_reg ?_
 replace h := h.get
 obtain ⟨b4, w5, n6, h⟩ := h
 refine s_box H rfl rfl (lt_ rfl) ?_
 rw [← n6.at_]
 clear H a
 intro a H
 refine n6.go <| s_assign H rfl rfl (lt_ rfl) fun a H => c_nil <| hK3 _ _ <| c_seq fun K7 hK7 => ?_
 obtain ⟨R9, h, h27⟩ := h
 have h11 : ∀ (a : Act) (s8 : Bool) (w10 : World), R9 s8 w10 → Has 18 [] a [(4, (.bool s8))] → K7 a w10 := by
  clear h
  intro a s8 w10 h H
  replace h := h27 s8 w10 h
  refine hK7 _ _ <| c_ret ?_
  exact e_ret1 H rfl rfl h
 clear h27
 replace H := H.weaken (L' := [(0, (.pointer c1)), (3, (.pointer (some (blk b4)))), (4, (.bool false))]) ⟨rfl, rfl, rfl, trivial⟩
 obtain ⟨l12, hc13, a14, h15, h⟩ := h
 revert H
 subst h15
 intro H
 obtain ⟨l16, hc17, h⟩ := h
 rcases Bool.eq_false_or_eq_true (decide ((l12.l : Int) = l16)) with h18 | h18
 ·replace h := h.1 h18
  obtain ⟨l19, hc20, h⟩ := h
  refine c_any (V := [(0, l12.v), (1, (.i (l12.l : Int))), (2, (.pointer (some a14))), (3, (.pointer (some a14))), (4, (.pointer (some (a14.add 2)))), (5, (.i l16)), (6, (.bool (decide ((l12.l : Int) = l16)))), (7, (.bool (decide ((l12.l : Int) = l16)))), (8, l19.v), (9, (.func (.func F_code_Code_shaped_c1) #[] #[(.pointer (some (blk b4)))]))]) (⟨[[], [0], [], [2], [3], [4], [1, 5], [6], [7], [7], [7, 8, 9], [7, 10], [7, 11], [0, 1, 2, 3, 4, 5, 6, 7, 8, 9, 10, 11, 12]], [some 5, some 6, some 7, some 8, some 9, some 10, some 11, some 12, some 13, some 14, some 15, some 16, some 17, some 4], [10], [0, 0, 0, 0, 0, 0, 0, 0, 0, 0, 0, 1, 1, 1], [0, 0, 0, 0, 0, 0, 0, 0, 0, 0, 1, 1, 1, 1]⟩ : Rg) [(0, (.pointer (some a14))), (3, (.pointer (some (blk b4)))), (4, (.bool false))] mixed (by kernel_rfl) H ?_
  refine Stg.eff [0, 1, 2, 3, 4, 5, 6, 7, 8, 9] (by kernel_rfl) rfl (.cons ?_ (.cons ?_ (.cons ?_ (.cons ?_ (.cons ?_ (.cons ?_ (.cons ?_ (.cons ?_ (.cons ?_ (.cons ?_ .nil)))))))))) ?_
  ·refine Ans.mk rfl rfl fun a H => s_load (v := l12.v) H rfl rfl one_25 hc13 (lt_ rfl) fun a H => ?_
   exact Ans.fin H rfl
  ·refine Ans.mk rfl rfl fun a H => s_blt H rfl (H.args (vs := [l12.v]) rfl) (lt_ rfl) (fun cs => b_lenS (z := l12) sl_25) fun a H => ?_
   exact Ans.fin H rfl
  ·refine Ans.mk rfl rfl fun a H => s_move H rfl rfl (lt_ rfl) fun a H => ?_
   exact Ans.fin H rfl
  ·refine Ans.mk rfl rfl fun a H => s_nil H rfl rfl (lt_ rfl) fun a H => ?_
   exact Ans.fin H rfl
  ·refine Ans.mk rfl rfl fun a H => s_fld H rfl rfl fld_69_2 (lt_ rfl) fun a H => ?_
   exact Ans.fin H rfl
  ·refine Ans.mk rfl rfl fun a H => s_load (v := (.i l16)) H rfl rfl one_3 hc17 (lt_ rfl) fun a H => ?_
   exact Ans.fin H rfl
  ·refine Ans.mk rfl rfl fun a H => s_bin H rfl rfl rfl r_eql (lt_ rfl) fun a H => ?_
   exact Ans.fin H rfl
  ·refine Ans.mk rfl rfl fun a H => s_move H rfl rfl (lt_ rfl) fun a H => ?_
   exact Ans.fin H rfl
  ·refine Ans.mk rfl rfl fun a H => ?_
   replace H := H.ch (t := 12) (b := true) rfl h18
   refine s_load (v := l19.v) H (wantG H rfl rfl) rfl one_25 hc20 (lt_ rfl) fun a H => ?_
   exact Ans.fin H rfl
  ·refine Ans.mk rfl rfl fun a H => ?_
   replace H := H.ch (t := 12) (b := true) rfl h18
   refine s_mkf H (wantG H rfl rfl) (H.args (vs := [(.pointer (some (blk b4)))]) rfl) (lt_ rfl) fun a H => ?_
   exact Ans.fin H rfl
  ·intro a H
   replace H := H.weaken (L' := [(12, (.bool (decide ((l12.l : Int) = l16)))), (13, l19.v), (14, (.func (.func F_code_Code_shaped_c1) #[] #[(.pointer (some (blk b4)))]))]) ⟨rfl, rfl, rfl, trivial⟩
   replace H := H.ch (t := 12) (b := true) rfl h18
   refine s_call H (wantG H rfl rfl) body_43 (H.args (vs := [l19.v, (.func (.func F_code_Code_shaped_c1) #[] #[(.pointer (some (blk b4)))])]) rfl) (lt_ rfl) h ?_ (fun c w' h H => e_panic (P := PP) (fn := Tryd.f26) H h)
   clear H h a
   rintro _ w21 a ⟨b22, rfl, h⟩ H
   refine c_nil <| effQ.go [(11, (.bool (!b22))), (12, (.bool (!b22))), (13, (.bool (!b22)))] H rfl rfl <| Stg.fin [11, 12, 13] (by kernel_rfl) (.cons ?_ (.cons ?_ (.cons ?_ .nil))) ?_
   ·refine Ans.mk rfl rfl fun a H => ?_
    replace H := H.ch (t := 12) (b := true) rfl h18
    refine s_un H (wantG H rfl rfl) rfl r_not (lt_ rfl) fun a H => ?_
    exact Ans.fin H rfl
   ·refine Ans.mk rfl rfl fun a H => ?_
    replace H := H.ch (t := 12) (b := true) rfl h18
    refine s_pickT H rfl rfl rfl (lt_ rfl) fun a H => ?_
    exact Ans.fin H rfl
   ·refine Ans.mk rfl rfl fun a H => s_assign H rfl rfl (lt_ rfl) fun a H => ?_
    exact Ans.fin H rfl
   ·intro a H
    replace H := H.weaken (L' := [(4, (.bool (!b22)))]) ⟨rfl, trivial⟩
    exact h11 _ _ _ h (H.weaken ⟨rfl, trivial⟩)
 ·replace h := h.2 h18
  refine c_any (V := [(0, l12.v), (1, (.i (l12.l : Int))), (2, (.pointer (some a14))), (3, (.pointer (some a14))), (4, (.pointer (some (a14.add 2)))), (5, (.i l16)), (6, (.bool (decide ((l12.l : Int) = l16)))), (7, (.bool (decide ((l12.l : Int) = l16)))), (8, undef), (9, undef)]) (⟨[[], [0], [], [2], [3], [4], [1, 5], [6], [7], [7], [7, 8, 9], [7, 10], [7, 11], [0, 1, 2, 3, 4, 5, 6, 7, 8, 9, 10, 11, 12]], [some 5, some 6, some 7, some 8, some 9, some 10, some 11, some 12, some 13, some 14, some 15, some 16, some 17, some 4], [10], [0, 0, 0, 0, 0, 0, 0, 0, 0, 0, 0, 1, 1, 1], [0, 0, 0, 0, 0, 0, 0, 0, 0, 0, 1, 1, 1, 1]⟩ : Rg) [(0, (.pointer (some a14))), (3, (.pointer (some (blk b4)))), (4, (.bool false))] mixed (by kernel_rfl) H ?_
  refine Stg.eff [0, 1, 2, 3, 4, 5, 6, 7, 8, 9] (by kernel_rfl) rfl (.cons ?_ (.cons ?_ (.cons ?_ (.cons ?_ (.cons ?_ (.cons ?_ (.cons ?_ (.cons ?_ (.cons ?_ (.cons ?_ .nil)))))))))) ?_
  ·refine Ans.mk rfl rfl fun a H => s_load (v := l12.v) H rfl rfl one_25 hc13 (lt_ rfl) fun a H => ?_
   exact Ans.fin H rfl
  ·refine Ans.mk rfl rfl fun a H => s_blt H rfl (H.args (vs := [l12.v]) rfl) (lt_ rfl) (fun cs => b_lenS (z := l12) sl_25) fun a H => ?_
   exact Ans.fin H rfl
  ·refine Ans.mk rfl rfl fun a H => s_move H rfl rfl (lt_ rfl) fun a H => ?_
   exact Ans.fin H rfl
  ·refine Ans.mk rfl rfl fun a H => s_nil H rfl rfl (lt_ rfl) fun a H => ?_
   exact Ans.fin H rfl
  ·refine Ans.mk rfl rfl fun a H => s_fld H rfl rfl fld_69_2 (lt_ rfl) fun a H => ?_
   exact Ans.fin H rfl
  ·refine Ans.mk rfl rfl fun a H => s_load (v := (.i l16)) H rfl rfl one_3 hc17 (lt_ rfl) fun a H => ?_
   exact Ans.fin H rfl
  ·refine Ans.mk rfl rfl fun a H => s_bin H rfl rfl rfl r_eql (lt_ rfl) fun a H => ?_
   exact Ans.fin H rfl
  ·refine Ans.mk rfl rfl fun a H => s_move H rfl rfl (lt_ rfl) fun a H => ?_
   exact Ans.fin H rfl
  ·exact .skip rfl rfl rfl rfl rfl rfl h18 rfl
  ·exact .skip rfl rfl rfl rfl rfl rfl h18 rfl
  ·intro a H
   replace H := H.weaken (L' := [(12, (.bool (decide ((l12.l : Int) = l16)))), (13, undef), (14, undef)]) ⟨rfl, rfl, rfl, trivial⟩
   replace H := H.ch (t := 12) (b := false) rfl h18
   refine s_skip H (wantN H rfl rfl rfl) rfl (lt_ rfl) fun a H => c_nil <| effQ.go [(11, undef), (12, (.bool false)), (13, (.bool false))] H rfl rfl <| Stg.fin [11, 12, 13] (by kernel_rfl) (.cons ?_ (.cons ?_ (.cons ?_ .nil))) ?_
   ·exact .skip rfl rfl rfl rfl rfl rfl h18 rfl
   ·refine Ans.mk rfl rfl fun a H => ?_
    replace H := H.ch (t := 12) (b := false) rfl h18
    refine s_pickF H rfl rfl rfl (lt_ rfl) fun a H => ?_
    exact Ans.fin H rfl
   ·refine Ans.mk rfl rfl fun a H => s_assign H rfl rfl (lt_ rfl) fun a H => ?_
    exact Ans.fin H rfl
   ·intro a H
    replace H := H.weaken (L' := [(4, (.bool false))]) ⟨rfl, trivial⟩
    exact h11 _ _ _ h (H.weaken ⟨rfl, trivial⟩)

theorem sim_code_Code_sum (c1 : Option Addr) (f2 r3 : Slc) (w : World) (Q : Ending → World → Prop) (h : vc_code_Code_sum c1 f2 r3 w Q) : Calls PP F_code_Code_sum #[(.pointer c1), f2.v, r3.v] w Q := by
 unfold vc_code_Code_sum at h
 refine enter (n := 35) Tryd.func27 rfl rfl (Nat.le_of_ble_eq_true rfl) fun a H => c_seq fun K4 hK4 => c_reg <| s_assign H rfl rfl (lt_ rfl) fun a H => c_nil <| hK4 _ _ <| c_seq fun K5 hK5 => c_reg <| s_move H rfl rfl (lt_ rfl) fun a H => ?_
 obtain ⟨a6, h7, h8, h9, h⟩ := h
 refine s_idxS (s := r3) H rfl rfl rfl slc_25 h7 h8 h9 (lt_ rfl) fun a H => ?_
 obtain ⟨l10, hc11, h⟩ := h
 refine s_load (v := l10.v) H rfl rfl one_24 hc11 (lt_ rfl) fun a H => s_blt H rfl (H.args (vs := [l10.v]) rfl) (lt_ rfl) (fun cs => b_lenS (z := l10) sl_24) fun a H => ?_
 obtain ⟨s12, w13, h14, h⟩ := h
 refine s_mk H rfl rfl rfl h14 (lt_ rfl) ?_
 clear H a h14
 intro a H
 refine s_assign H rfl rfl (lt_ rfl) fun a H => c_nil <| hK5 _ _ <| c_seq fun K15 hK15 => c_seq fun K16 hK16 => c_reg <| s_move H rfl rfl (lt_ rfl) fun a H => s_blt H rfl (H.args (vs := [r3.v]) rfl) (lt_ rfl) (fun cs => b_lenS (z := r3) sl_25) fun a H => s_move H rfl rfl (lt_ rfl) fun a H => c_nil <| hK16 _ _ <| c_block ?_
 obtain ⟨I19, m20, h49, h50⟩ := h
 refine c_loop (σ := Int) (fun z w => I19 z w) (fun z w => m20 z w) (fun z => [(0, (.pointer c1)), (1, f2.v), (7, s12.v), (15, r3.v), (16, (.i (r3.l : Int))), (17, (.i z))]) 0 h49 (H.weaken ⟨rfl, rfl, rfl, rfl, rfl, rfl, trivial⟩) ?_
 clear H h49
 rintro s17 a w18 h H
 replace h := h50 s17 w18 h
 clear h50
 replace H : Has 35 [] a [(0, (.pointer c1)), (1, f2.v), (7, s12.v), (15, r3.v), (16, (.i (r3.l : Int))), (17, (.i s17))] := H
 refine c_seq fun K21 hK21 => c_reg <| s_bin H rfl rfl rfl r_lss (lt_ rfl) fun a H => c_nil <| hK21 _ _ <| c_seq fun K22 hK22 => c_cond H rfl (fun h23 => ?_) (fun h23 => ?_)
 ·replace h := h.1 h23
  refine c_skip <| hK22 _ _ <| c_seq fun K24 hK24 => c_block <| c_seq fun K25 hK25 => c_reg <| s_move H rfl rfl (lt_ rfl) fun a H => ?_
  obtain ⟨a26, h27, h28, h29, h⟩ := h
  refine s_idxS (s := r3) H rfl rfl rfl slc_25 h27 h28 h29 (lt_ rfl) fun a H => ?_
  obtain ⟨l30, hc31, h⟩ := h
  refine s_load (v := l30.v) H rfl rfl one_24 hc31 (lt_ rfl) fun a H => s_assign H rfl rfl (lt_ rfl) fun a H => s_assign H rfl rfl (lt_ rfl) fun a H => c_nil <| hK25 _ _ ?_
  replace H := H.weaken (L' := [(0, (.pointer c1)), (1, f2.v), (7, s12.v), (8, (.i s17)), (9, l30.v), (15, r3.v), (16, (.i (r3.l : Int))), (17, (.i s17))]) ⟨rfl, rfl, rfl, rfl, rfl, rfl, rfl, rfl, trivial⟩
  obtain ⟨a32, h33, h⟩ := h
  revert H
  subst h33
  intro H
  obtain ⟨l34, hc35, a36, h37, h38, h39, l40, hc41, h⟩ := h
  refine c_any (V := [(0, (.pointer (some a32))), (1, (.pointer (some a32))), (2, (.pointer (some (a32.add 0)))), (3, (.pointer l34)), (4, s12.v), (5, f2.v), (6, (.i s17)), (7, (.pointer (some (a36.add (Int.toNat (s17) * 1))))), (8, (.int .u8 l40)), (9, l30.v)]) (⟨[[], [0], [1], [2], [], [], [], [5, 6], [7], [], [3, 4, 8, 9]], [some 22, some 23, some 24, some 25, some 26, some 27, some 28, some 29, some 30, some 31, some 32], [10], [0, 0, 0, 0, 0, 0, 0, 0, 0, 0, 0], [0, 0, 0, 0, 0, 0, 0, 0, 0, 0, 1]⟩ : Rg) [(0, (.pointer (some a32))), (1, f2.v), (7, s12.v), (8, (.i s17)), (9, l30.v), (15, r3.v), (16, (.i (r3.l : Int))), (17, (.i s17))] mixed (by kernel_rfl) H ?_
  refine Stg.eff [0, 1, 2, 3, 4, 5, 6, 7, 8, 9] (by kernel_rfl) rfl (.cons ?_ (.cons ?_ (.cons ?_ (.cons ?_ (.cons ?_ (.cons ?_ (.cons ?_ (.cons ?_ (.cons ?_ (.cons ?_ .nil)))))))))) ?_
  ·refine Ans.mk rfl rfl fun a H => s_move H rfl rfl (lt_ rfl) fun a H => ?_
   exact Ans.fin H rfl
  ·refine Ans.mk rfl rfl fun a H => s_nil H rfl rfl (lt_ rfl) fun a H => ?_
   exact Ans.fin H rfl
  ·refine Ans.mk rfl rfl fun a H => s_fld H rfl rfl fld_69_0 (lt_ rfl) fun a H => ?_
   exact Ans.fin H rfl
  ·refine Ans.mk rfl rfl fun a H => s_load (v := (.pointer l34)) H rfl rfl one_65 hc35 (lt_ rfl) fun a H => ?_
   exact Ans.fin H rfl
  ·refine Ans.mk rfl rfl fun a H => s_move H rfl rfl (lt_ rfl) fun a H => ?_
   exact Ans.fin H rfl
  ·refine Ans.mk rfl rfl fun a H => s_move H rfl rfl (lt_ rfl) fun a H => ?_
   exact Ans.fin H rfl
  ·refine Ans.mk rfl rfl fun a H => s_move H rfl rfl (lt_ rfl) fun a H => ?_
   exact Ans.fin H rfl
  ·refine Ans.mk rfl rfl fun a H => s_idxS (s := f2) H rfl rfl rfl slc_24 h37 h38 h39 (lt_ rfl) fun a H => ?_
   exact Ans.fin H rfl
  ·refine Ans.mk rfl rfl fun a H => s_load (v := (.int .u8 l40)) H rfl rfl one_5 hc41 (lt_ rfl) fun a H => ?_
   exact Ans.fin H rfl
  ·refine Ans.mk rfl rfl fun a H => s_move H rfl rfl (lt_ rfl) fun a H => ?_
   exact Ans.fin H rfl
  ·intro a H
   replace H := H.weaken (L' := [(25, (.pointer l34)), (26, s12.v), (30, (.int .u8 l40)), (31, l30.v)]) ⟨rfl, rfl, rfl, rfl, trivial⟩
   refine s_call H rfl body_45 (H.args (vs := [(.pointer l34), s12.v, (.int .u8 l40), l30.v]) rfl) (lt_ rfl) h ?_ (fun c w' h H => e_panic (P := PP) (fn := Tryd.f27) H h)
   clear H h a
   rintro _ w42 a ⟨A43, rfl, h⟩ H
   refine c_nil <| effQ.go [] H rfl rfl <| Stg.fin [] (by kernel_rfl) .nil ?_
   ·intro a H
    replace H := H.weaken (L' := [(0, (.pointer (some a32))), (1, f2.v), (7, s12.v), (15, r3.v), (16, (.i (r3.l : Int))), (17, (.i s17))]) ⟨rfl, rfl, rfl, rfl, rfl, rfl, trivial⟩
    refine hK24 _ _ <| c_reg <| s_bin H rfl rfl rfl r_add (lt_ rfl) fun a H => s_move H rfl rfl (lt_ rfl) fun a H => c_nil <| Exists.intro (wr .i64 (s17 + 1)) ⟨h.1, h.2, H.weaken ⟨rfl, rfl, rfl, rfl, rfl, rfl, trivial⟩⟩
 ·replace h := h.2 h23
  refine c_exit ?_
  first | (simp only [Exit.then, Exit.inBlock, ↓reduceIte]; fail_if_success simp only [Nat.reduceEqDiff]) | simp only [Exit.then, Exit.inBlock, ↓reduceIte, Nat.reduceEqDiff]
  refine hK15 _ _ <| c_seq fun K48 hK48 => c_reg <| s_move H rfl rfl (lt_ rfl) fun a H => s_assign H rfl rfl (lt_ rfl) fun a H => c_nil <| hK48 _ _ <| c_ret ?_
  exact e_ret1 H rfl rfl h

theorem sim_code_Code_refused (c1 : Option Addr) (p2 : Slc) (w : World) (Q : Ending → World → Prop) (h : vc_code_Code_refused c1 p2 w Q) : Calls PP F_code_Code_refused #[(.pointer c1), p2.v] w Q := by
 unfold vc_code_Code_refused at h
 refine enter (n := 53) Tryd.func28 rfl rfl (Nat.le_of_ble_eq_true rfl) fun a H => c_seq fun K3 hK3 => c_reg ?_
 replace h := h.get
 obtain ⟨b4, w5, n6, h⟩ := h
 refine s_box H rfl rfl (lt_ rfl) ?_
 rw [← n6.at_]
 clear H a
 intro a H
 refine n6.go <| s_assign H rfl rfl (lt_ rfl) fun a H => c_nil <| hK3 _ _ <| c_seq fun K7 hK7 => c_reg <| s_build H rfl (by rw [H.parts (vs := []) rfl]; exact bd_99 w5) (lt_ rfl) fun a H => ?_
 replace h := h.get
 obtain ⟨b8, w9, n10, h⟩ := h
 refine s_alloc H rfl zero_99 (lt_ rfl) ?_
 rw [← n10.at_]
 clear H a
 intro a H
 refine n10.go ?_
 refine s_stoN (l := [(.bool false), (.bool false), (.bool false), (.bool false), (.bool false), (.bool false), (.bool false), (.bool false), (.bool false), (.bool false), (.bool false), (.bool false), (.bool false), (.bool false), (.bool false), (.bool false), (.bool false), (.bool false), (.bool false), (.bool false), (.bool false), (.bool false), (.bool false), (.bool false), (.bool false), (.bool false), (.bool false), (.bool false), (.bool false), (.bool false), (.bool false), (.bool false), (.bool false), (.bool false), (.bool false), (.bool false), (.bool false), (.bool false), (.bool false), (.bool false), (.bool false), (.bool false), (.bool false), (.bool false), (.bool false), (.bool false), (.bool false), (.bool false), (.bool false), (.bool false), (.bool false), (.bool false), (.bool false), (.bool false), (.bool false), (.bool false), (.bool false), (.bool false), (.bool false), (.bool false), (.bool false), (.bool false), (.bool false), (.bool false), (.bool false), (.bool false), (.bool false), (.bool false), (.bool false), (.bool false), (.bool false), (.bool false), (.bool false), (.bool false), (.bool false), (.bool false), (.bool false), (.bool false), (.bool false), (.bool false), (.bool false), (.bool false), (.bool false), (.bool false), (.bool false), (.bool false), (.bool false), (.bool false), (.bool false), (.bool false), (.bool false), (.bool false), (.bool false), (.bool false), (.bool false), (.bool false), (.bool false), (.bool false), (.bool false), (.bool false), (.bool false), (.bool false), (.bool false), (.bool false), (.bool false), (.bool false), (.bool false), (.bool false), (.bool false), (.bool false), (.bool false), (.bool false), (.bool false), (.bool false), (.bool false), (.bool false), (.bool false), (.bool false), (.bool false), (.bool false), (.bool false), (.bool false), (.bool false), (.bool false), (.bool false), (.bool false), (.bool false), (.bool false), (.bool false), (.bool false), (.bool false), (.bool false), (.bool false), (.bool false), (.bool false), (.bool false), (.bool false), (.bool false), (.bool false), (.bool false), (.bool false), (.bool false), (.bool false), (.bool false), (.bool false), (.bool false), (.bool false), (.bool false), (.bool false), (.bool false), (.bool false), (.bool false), (.bool false), (.bool false), (.bool false), (.bool false), (.bool false), (.bool false), (.bool false), (.bool false), (.bool false), (.bool false), (.bool false), (.bool false), (.bool false), (.bool false), (.bool false), (.bool false), (.bool false), (.bool false), (.bool false), (.bool false), (.bool false), (.bool false), (.bool false), (.bool false), (.bool false), (.bool false), (.bool false), (.bool false), (.bool false), (.bool false), (.bool false), (.bool false), (.bool false), (.bool false), (.bool false), (.bool false), (.bool false), (.bool false), (.bool false), (.bool false), (.bool false), (.bool false), (.bool false), (.bool false), (.bool false), (.bool false), (.bool false), (.bool false), (.bool false), (.bool false), (.bool false), (.bool false), (.bool false), (.bool false), (.bool false), (.bool false), (.bool false), (.bool false), (.bool false), (.bool false), (.bool false), (.bool false), (.bool false), (.bool false), (.bool false), (.bool false), (.bool false), (.bool false), (.bool false), (.bool false), (.bool false), (.bool false), (.bool false), (.bool false), (.bool false), (.bool false), (.bool false), (.bool false), (.bool false), (.bool false), (.bool false), (.bool false), (.bool false), (.bool false), (.bool false), (.bool false), (.bool false), (.bool false), (.bool false), (.bool false), (.bool false), (.bool false), (.bool false), (.bool false), (.bool false), (.bool false), (.bool false), (.bool false), (.bool false), (.bool false), (.bool false), (.bool false), (.bool false)]) H rfl rfl rfl rfl agg_99 (by kernel_rfl) (by kernel_rfl) (by exact h) ?_
 clear h H
 intro w11 h H
 refine c_nil <| hK7 _ _ <| c_seq fun K12 hK12 => c_reg <| s_assign H rfl rfl (lt_ rfl) fun a H => c_nil <| hK12 _ _ <| c_seq fun K13 hK13 => c_seq fun K14 hK14 => c_reg ?_
 obtain ⟨l15, hc16, h⟩ := h
 refine s_load (v := l15.v) H rfl rfl one_35 hc16 (lt_ rfl) fun a H => s_blt H rfl (H.args (vs := [l15.v]) rfl) (lt_ rfl) (fun cs => b_lenS (z := l15) sl_35) fun a H => s_move H rfl rfl (lt_ rfl) fun a H => c_nil <| hK14 _ _ <| c_block ?_
 obtain ⟨I20, m21, h102, h103⟩ := h
 refine c_loop (σ := Bool × Int) (fun z w => I20 z.1 z.2 w) (fun z w => m21 z.1 z.2 w) (fun z => [(0, (.pointer c1)), (3, (.pointer (some (blk b4)))), (5, (.pointer (some (blk b8)))), (6, (.bool z.1)), (10, l15.v), (11, (.i (l15.l : Int))), (12, (.i z.2))]) (false, 0) h102 (H.weaken ⟨rfl, rfl, rfl, rfl, rfl, rfl, rfl, trivial⟩) ?_
 clear H h102
 rintro ⟨t17, s18⟩ a w19 h H
 replace h := h103 t17 s18 w19 h
 clear h103
 replace H : Has 53 [] a [(0, (.pointer c1)), (3, (.pointer (some (blk b4)))), (5, (.pointer (some (blk b8)))), (6, (.bool t17)), (10, l15.v), (11, (.i (l15.l : Int))), (12, (.i s18))] := H
 refine c_seq fun K22 hK22 => c_reg <| s_bin H rfl rfl rfl r_lss (lt_ rfl) fun a H => c_nil <| hK22 _ _ <| c_seq fun K23 hK23 => c_cond H rfl (fun h24 => ?_) (fun h24 => ?_)
 ·replace h := h.1 h24
  refine c_skip <| hK23 _ _ <| c_seq fun K25 hK25 => c_block <| c_seq fun K26 hK26 => c_reg ?_
  obtain ⟨a27, h28, h29, h30, h⟩ := h
  refine s_idxS (s := l15) H rfl rfl rfl slc_35 h28 h29 h30 (lt_ rfl) fun a H => ?_
  obtain ⟨I31, hc32, D33, hc34, h⟩ := h
  refine s_loadN (l := [(.i I31), D33.v]) H rfl rfl agg_41 rfl ⟨hc32, hc34, trivial⟩ (lt_ rfl) fun a H => ?_
  replace h := h.get
  obtain ⟨b35, w36, n37, h⟩ := h
  refine s_alloc H rfl zero_41 (lt_ rfl) ?_
  rw [← n37.at_]
  clear H a
  intro a H
  refine n37.go <| s_stoN (l := [(.i I31), D33.v]) H rfl rfl rfl rfl agg_41 rfl rfl h ?_
  clear h H
  intro w38 h H
  refine c_nil <| hK26 _ _ <| c_seq fun K39 hK39 => c_seq fun K40 hK40 => c_regD mixed (by kernel_rfl) <| z_fld H rfl rfl fld_41_0 (lt_ rfl) fun a H => ?_
  obtain ⟨l42, hc43, h⟩ := h
  refine z_load (v := (.i l42)) H rfl rfl one_3 hc43 (lt_ rfl) fun a H => z_bin H rfl rfl rfl r_lss (lt_ rfl) fun a H => z_move H rfl rfl (lt_ rfl) fun a H => ?_
  obtain ⟨x52, h53, h54, h⟩ := h
  refine zg_join (n := 53) [(27, (.bool x52)), (0, (.pointer c1)), (3, (.pointer (some (blk b4)))), (5, (.pointer (some (blk b8)))), (6, (.bool t17)), (8, (.pointer (some (blk b35)))), (10, l15.v), (11, (.i (l15.l : Int))), (12, (.i s18))] (.succ (.succ (.succ (.succ (.succ (.succ (.succ (.succ (.zero _))))))))) ?_ ?_
  ·intro h45
   try clear h
   rcases Bool.eq_false_or_eq_true (decide (l42 < 0)) with h44 | h44
   ·replace H := H.ch (t := 19) (b := true) rfl h44
    iterate 7 refine z_skip H (wantN H rfl rfl rfl) rfl (lt_ rfl) fun a H => ?_
    refine z_pickT H rfl rfl rfl (lt_ rfl) fun a H => ?_
    replace h := h54 h44
    subst h
    exact h45 _ (H.weaken ⟨rfl, rfl, rfl, rfl, rfl, rfl, rfl, rfl, rfl, trivial⟩)
   ·replace H := H.ch (t := 19) (b := false) rfl h44
    replace h := h53 h44
    refine z_fld H (wantG H rfl rfl) rfl fld_41_0 (lt_ rfl) fun a H => ?_
    obtain ⟨l46, hc47, h⟩ := h
    refine z_load (v := (.i l46)) H (wantG H rfl rfl) rfl one_3 hc47 (lt_ rfl) fun a H => z_move H (wantG H rfl rfl) rfl (lt_ rfl) fun a H => ?_
    obtain ⟨a48, h51, h⟩ := h
    revert H
    subst h51
    intro H
    refine z_nil H (wantG H rfl rfl) rfl (lt_ rfl) fun a H => z_fld H (wantG H rfl rfl) rfl fld_69_1 (lt_ rfl) fun a H => ?_
    obtain ⟨l49, hc50, h⟩ := h
    refine z_load (v := (.i l49)) H (wantG H rfl rfl) rfl one_3 hc50 (lt_ rfl) fun a H => z_bin H (wantG H rfl rfl) rfl rfl r_geq (lt_ rfl) fun a H => z_pickF H rfl rfl rfl (lt_ rfl) fun a H => ?_
    subst h
    exact h45 _ (H.weaken ⟨rfl, rfl, rfl, rfl, rfl, rfl, rfl, rfl, rfl, trivial⟩)
  ·clear H a
   clear h53 h54
   intro a H
   refine wpQuiet_nil ?_
   rintro _ ⟨k41, rfl⟩
   replace h := h k41
   refine hK40 _ _ <| c_cond H rfl (fun h55 => ?_) (fun h55 => ?_)
   ·replace h := h.1 h55
    refine c_seq fun K56 hK56 => c_reg <| s_assign H rfl rfl (lt_ rfl) fun a H => c_nil <| hK56 _ _ <| c_ret ?_
    exact e_ret1 H rfl rfl h
   ·replace h := h.2 h55
    refine c_skip <| hK39 _ _ <| c_seq fun K57 hK57 => c_reg <| s_move H rfl rfl (lt_ rfl) fun a H => s_move H rfl rfl (lt_ rfl) fun a H => ?_
    obtain ⟨x66, h67, h68, h⟩ := h
    refine g_join (n := 53) [(34, (.bool x66)), (0, (.pointer c1)), (3, (.pointer (some (blk b4)))), (5, (.pointer (some (blk b8)))), (8, (.pointer (some (blk b35)))), (10, l15.v), (11, (.i (l15.l : Int))), (12, (.i s18))] (.succ (.succ (.succ (.succ (.succ (.zero _)))))) ?_ ?_
    ·intro h59
     try clear h
     rcases Bool.eq_false_or_eq_true t17 with h58 | h58
     ·replace H := H.ch (t := 29) (b := true) rfl h58
      iterate 4 refine s_skip H (wantN H rfl rfl rfl) rfl (lt_ rfl) fun a H => ?_
      refine s_pickT H rfl rfl rfl (lt_ rfl) fun a H => ?_
      replace h := h68 h58
      subst h
      exact h59 _ (H.weaken ⟨rfl, rfl, rfl, rfl, rfl, rfl, rfl, rfl, trivial⟩)
     ·replace H := H.ch (t := 29) (b := false) rfl h58
      replace h := h67 h58
      refine s_fld H (wantG H rfl rfl) rfl fld_41_0 (lt_ rfl) fun a H => ?_
      obtain ⟨l60, hc61, h⟩ := h
      refine s_load (v := (.i l60)) H (wantG H rfl rfl) rfl one_3 hc61 (lt_ rfl) fun a H => ?_
      obtain ⟨h62, h63, h⟩ := h
      refine s_idxA H (wantG H rfl rfl) rfl rfl arr_99 h62 h63 (lt_ rfl) fun a H => ?_
      obtain ⟨l64, hc65, h⟩ := h
      refine s_load (v := (.bool l64)) H (wantG H rfl rfl) rfl one_4 hc65 (lt_ rfl) fun a H => s_pickF H rfl rfl rfl (lt_ rfl) fun a H => ?_
      subst h
      exact h59 _ (H.weaken ⟨rfl, rfl, rfl, rfl, rfl, rfl, rfl, rfl, trivial⟩)
    ·clear H a
     clear h67 h68
     intro a H
     refine s_assign H rfl rfl (lt_ rfl) fun a H => c_nil <| hK57 _ _ <| c_reg <| s_fld H rfl rfl fld_41_0 (lt_ rfl) fun a H => ?_
     obtain ⟨l69, hc70, h⟩ := h
     refine s_load (v := (.i l69)) H rfl rfl one_3 hc70 (lt_ rfl) fun a H => ?_
     obtain ⟨h71, h72, h⟩ := h
     refine s_idxA H rfl rfl rfl arr_99 h71 h72 (lt_ rfl) fun a H => ?_
     obtain ⟨h74, h75, h⟩ := h
     refine s_sto (p := (blk b8).add (Int.toNat (l69) * 1)) (v := (.bool true)) H rfl rfl rfl rfl one_4 rfl h74 h75 ?_
     clear H
     intro H
     generalize hww73 : World.setCell (w38.drewN k41) ((blk b8).add (Int.toNat (l69) * 1)) (.bool true) = w73 at h ⊢
     have w73S : SetAt (w38.drewN k41) ((blk b8).add (Int.toNat (l69) * 1)) (.bool true) w73 := ⟨hww73.symm⟩
     clear hww73 h74 h75
     refine c_nil <| hK25 _ _ <| c_reg <| s_bin H rfl rfl rfl r_add (lt_ rfl) fun a H => s_move H rfl rfl (lt_ rfl) fun a H => c_nil <| Exists.intro (x66, wr .i64 (s18 + 1)) ⟨h.1, h.2, H.weaken ⟨rfl, rfl, rfl, rfl, rfl, rfl, rfl, trivial⟩⟩
 ·replace h := h.2 h24
  refine c_exit ?_
  first | (simp only [Exit.then, Exit.inBlock, ↓reduceIte]; fail_if_success simp only [Nat.reduceEqDiff]) | simp only [Exit.then, Exit.inBlock, ↓reduceIte, Nat.reduceEqDiff]
  refine hK13 _ _ <| c_seq fun K76 hK76 => c_block <| c_seq fun K77 hK77 => c_reg <| s_move H rfl rfl (lt_ rfl) fun a H => s_assign H rfl rfl (lt_ rfl) fun a H => c_nil <| hK77 _ _ <| c_cond H rfl (fun h78 => ?_) (fun h78 => ?_)
  ·replace h := h.1 h78
   refine c_seq fun K79 hK79 => c_reg <| s_assign H rfl rfl (lt_ rfl) fun a H => c_nil <| hK79 _ _ <| c_ret ?_
   exact e_ret1 H rfl rfl h
  ·replace h := h.2 h78
   refine c_seq fun K80 hK80 => c_reg ?_
   obtain ⟨l81, hc82, h⟩ := h
   refine s_load (v := l81.v) H rfl rfl one_35 hc82 (lt_ rfl) fun a H => s_mkf H rfl (H.args (vs := [(.pointer (some (blk b4)))]) rfl) (lt_ rfl) fun a H => s_call H rfl body_46 (H.args (vs := [l81.v, (.func (.func F_code_Code_refused_c1) #[] #[(.pointer (some (blk b4)))])]) rfl) (lt_ rfl) h ?_ (fun c w' h H => e_panic (P := PP) (fn := Tryd.f28) H h)
   clear H h a
   rintro _ w83 a ⟨P84, rfl, h⟩ H
   refine s_assign H rfl rfl (lt_ rfl) fun a H => c_nil <| hK80 _ _ <| c_cond H rfl (fun h85 => ?_) (fun h85 => ?_)
   ·replace h := h.1 h85
    refine c_seq fun K86 hK86 => c_reg <| s_assign H rfl rfl (lt_ rfl) fun a H => c_nil <| hK86 _ _ <| c_ret ?_
    exact e_ret1 H rfl rfl h
   ·replace h := h.2 h85
    refine c_seq fun K87 hK87 => c_regD mixed (by kernel_rfl) ?_
    obtain ⟨l89, hc90, h⟩ := h
    refine z_load (v := l89.v) H rfl rfl one_35 hc90 (lt_ rfl) fun a H => z_blt H rfl (H.args (vs := [l89.v]) rfl) (lt_ rfl) (fun cs w => b_lenS (z := l89) sl_35) fun a H => z_move H rfl rfl (lt_ rfl) fun a H => ?_
    obtain ⟨a91, h97, h⟩ := h
    revert H
    subst h97
    intro H
    refine z_nil H rfl rfl (lt_ rfl) fun a H => z_fld H rfl rfl fld_69_2 (lt_ rfl) fun a H => ?_
    obtain ⟨l92, hc93, h⟩ := h
    refine z_load (v := (.i l92)) H rfl rfl one_3 hc93 (lt_ rfl) fun a H => z_bin H rfl rfl rfl r_lss (lt_ rfl) fun a H => z_assign H rfl rfl (lt_ rfl) fun a H => wpQuiet_nil ?_
    rintro _ ⟨k88, rfl⟩
    replace h := h k88
    refine hK87 _ _ <| c_cond H rfl (fun h94 => ?_) (fun h94 => ?_)
    ·replace h := h.1 h94
     refine c_seq fun K95 hK95 => c_reg <| s_assign H rfl rfl (lt_ rfl) fun a H => c_nil <| hK95 _ _ <| c_ret ?_
     exact e_ret1 H rfl rfl h
    ·replace h := h.2 h94
     refine c_skip <| hK76 _ _ <| c_seq fun K96 hK96 => c_reg <| s_assign H rfl rfl (lt_ rfl) fun a H => c_nil <| hK96 _ _ <| c_ret ?_
     exact e_ret1 H rfl rfl h

theorem sim_matrix_New (f1 : Option Addr) (r2 : Slc) (w : World) (Q : Ending → World → Prop) (h : vc_matrix_New f1 r2 w Q) : Calls PP F_matrix_New #[(.pointer f1), r2.v] w Q := by
 unfold vc_matrix_New at h
 refine enter (n := 62) Tryd.func29 rfl rfl (Nat.le_of_ble_eq_true rfl) fun a H => c_seq fun K3 hK3 => c_reg ?_
 replace h := h.get
 obtain ⟨b4, w5, n6, h⟩ := h
 refine s_box H rfl rfl (lt_ rfl) ?_
 rw [← n6.at_]
 clear H a
 intro a H
 refine n6.go <| s_assign H rfl rfl (lt_ rfl) fun a H => s_assign H rfl rfl (lt_ rfl) fun a H => c_nil <| hK3 _ _ <| c_seq fun K7 hK7 => c_seq fun K8 hK8 => c_reg <| s_move H rfl rfl (lt_ rfl) fun a H => s_bin H rfl rfl rfl (r_eqP0 ptr_65) (lt_ rfl) fun a H => c_nil <| hK8 _ _ <| c_cond H rfl (fun h9 => ?_) (fun h9 => ?_)
 ·replace h := h.1 h9
  refine c_seq fun K10 hK10 => c_reg <| s_assign H rfl rfl (lt_ rfl) fun a H => s_assign H rfl rfl (lt_ rfl) fun a H => c_nil <| hK10 _ _ <| c_ret ?_
  exact e_ret2 H rfl rfl rfl h
 ·replace h := h.2 h9
  refine c_skip <| hK7 _ _ <| c_seq fun K11 hK11 => c_seq fun K12 hK12 => c_reg <| s_load (v := r2.v) H rfl rfl one_25 (n6.cell (i := 0) rfl) (lt_ rfl) fun a H => s_blt H rfl (H.args (vs := [r2.v]) rfl) (lt_ rfl) (fun cs => b_lenS (z := r2) sl_25) fun a H => s_bin H rfl rfl rfl r_eql (lt_ rfl) fun a H => s_move H rfl rfl (lt_ rfl) fun a H => ?_
  obtain ⟨x21, h22, h23, h⟩ := h
  refine g_join (n := 62) [(20, (.bool x21)), (0, (.pointer f1)), (3, (.pointer (some (blk b4))))] (.succ (.succ (.succ (.succ (.succ (.succ (.zero _))))))) ?_ ?_
  ·intro h14
   try clear h
   rcases Bool.eq_false_or_eq_true (decide ((r2.l : Int) = 0)) with h13 | h13
   ·replace H := H.ch (t := 14) (b := true) rfl h13
    iterate 5 refine s_skip H (wantN H rfl rfl rfl) rfl (lt_ rfl) fun a H => ?_
    refine s_pickT H rfl rfl rfl (lt_ rfl) fun a H => ?_
    replace h := h23 h13
    subst h
    exact h14 _ (H.weaken ⟨rfl, rfl, rfl, trivial⟩)
   ·replace H := H.ch (t := 14) (b := false) rfl h13
    replace h := h22 h13
    refine s_load (v := r2.v) H (wantG H rfl rfl) rfl one_25 (n6.cell (i := 0) rfl) (lt_ rfl) fun a H => ?_
    obtain ⟨a15, h16, h17, h18, h⟩ := h
    refine s_idxS (s := r2) H (wantG H rfl rfl) rfl rfl slc_25 h16 h17 h18 (lt_ rfl) fun a H => ?_
    obtain ⟨l19, hc20, h⟩ := h
    refine s_load (v := l19.v) H (wantG H rfl rfl) rfl one_24 hc20 (lt_ rfl) fun a H => s_blt H (wantG H rfl rfl) (H.args (vs := [l19.v]) rfl) (lt_ rfl) (fun cs => b_lenS (z := l19) sl_24) fun a H => s_bin H (wantG H rfl rfl) rfl rfl r_eql (lt_ rfl) fun a H => s_pickF H rfl rfl rfl (lt_ rfl) fun a H => ?_
    subst h
    exact h14 _ (H.weaken ⟨rfl, rfl, rfl, trivial⟩)
  ·clear H a
   clear h22 h23
   intro a H
   refine s_move H rfl rfl (lt_ rfl) fun a H => ?_
   obtain ⟨R26, h, h108⟩ := h
   refine g_joinW (n := 62) R26 (fun x27 => [(25, (.bool x27)), (0, (.pointer f1)), (3, (.pointer (some (blk b4))))]) (.succ (.succ (.succ (.succ (.zero _))))) ?_ ?_
   ·intro h25
    clear h108
    rcases Bool.eq_false_or_eq_true x21 with h24 | h24
    ·replace H := H.ch (t := 21) (b := true) rfl h24
     replace h := h.2 h24
     iterate 3 refine s_skip H (wantN H rfl rfl rfl) rfl (lt_ rfl) fun a H => ?_
     refine s_pickT H rfl rfl rfl (lt_ rfl) fun a H => ?_
     exact h25 _ _ _ h (H.weaken ⟨rfl, rfl, rfl, trivial⟩)
    ·replace H := H.ch (t := 21) (b := false) rfl h24
     replace h := h.1 h24
     refine s_load (v := r2.v) H (wantG H rfl rfl) rfl one_25 (n6.cell (i := 0) rfl) (lt_ rfl) fun a H => s_mkf H (wantG H rfl rfl) (H.args (vs := [(.pointer (some (blk b4)))]) rfl) (lt_ rfl) fun a H => s_call H (wantG H rfl rfl) body_43 (H.args (vs := [r2.v, (.func (.func F_matrix_New_c1) #[] #[(.pointer (some (blk b4)))])]) rfl) (lt_ rfl) h ?_ (fun c w' h H => e_panic (P := PP) (fn := Tryd.f29) H h)
     clear H h a
     rintro _ w29 a ⟨b30, rfl, h⟩ H
     refine s_pickF H rfl rfl rfl (lt_ rfl) fun a H => ?_
     exact h25 _ _ _ h (H.weaken ⟨rfl, rfl, rfl, trivial⟩)
   ·clear H a h
    intro a x27 w28 h H
    replace h := h108 x27 w28 h
    clear h108
    refine c_nil <| hK12 _ _ <| c_cond H rfl (fun h35 => ?_) (fun h35 => ?_)
    ·replace h := h.1 h35
     refine c_seq fun K36 hK36 => c_reg <| s_assign H rfl rfl (lt_ rfl) fun a H => s_assign H rfl rfl (lt_ rfl) fun a H => c_nil <| hK36 _ _ <| c_ret ?_
     exact e_ret2 H rfl rfl rfl h
    ·replace h := h.2 h35
     refine c_skip <| hK11 _ _ <| c_seq fun K37 hK37 => c_seq fun K38 hK38 => c_reg ?_
     obtain ⟨l39, hc40, h⟩ := h
     refine s_load (v := l39.v) H rfl rfl one_25 hc40 (lt_ rfl) fun a H => s_blt H rfl (H.args (vs := [l39.v]) rfl) (lt_ rfl) (fun cs => b_lenS (z := l39) sl_25) fun a H => s_bin H rfl rfl rfl r_gtr (lt_ rfl) fun a H => s_move H rfl rfl (lt_ rfl) fun a H => ?_
     obtain ⟨x51, h52, h53, h⟩ := h
     refine g_join (n := 62) [(35, (.bool x51)), (0, (.pointer f1)), (3, (.pointer (some (blk b4))))] (.succ (.succ (.succ (.succ (.succ (.succ (.zero _))))))) ?_ ?_
     ·intro h42
      try clear h
      rcases Bool.eq_false_or_eq_true (decide (256 < (l39.l : Int))) with h41 | h41
      ·replace H := H.ch (t := 29) (b := true) rfl h41
       iterate 5 refine s_skip H (wantN H rfl rfl rfl) rfl (lt_ rfl) fun a H => ?_
       refine s_pickT H rfl rfl rfl (lt_ rfl) fun a H => ?_
       replace h := h53 h41
       subst h
       exact h42 _ (H.weaken ⟨rfl, rfl, rfl, trivial⟩)
      ·replace H := H.ch (t := 29) (b := false) rfl h41
       replace h := h52 h41
       obtain ⟨l43, hc44, h⟩ := h
       refine s_load (v := l43.v) H (wantG H rfl rfl) rfl one_25 hc44 (lt_ rfl) fun a H => ?_
       obtain ⟨a45, h46, h47, h48, h⟩ := h
       refine s_idxS (s := l43) H (wantG H rfl rfl) rfl rfl slc_25 h46 h47 h48 (lt_ rfl) fun a H => ?_
       obtain ⟨l49, hc50, h⟩ := h
       refine s_load (v := l49.v) H (wantG H rfl rfl) rfl one_24 hc50 (lt_ rfl) fun a H => s_blt H (wantG H rfl rfl) (H.args (vs := [l49.v]) rfl) (lt_ rfl) (fun cs => b_lenS (z := l49) sl_24) fun a H => s_bin H (wantG H rfl rfl) rfl rfl r_gtr (lt_ rfl) fun a H => s_pickF H rfl rfl rfl (lt_ rfl) fun a H => ?_
       subst h
       exact h42 _ (H.weaken ⟨rfl, rfl, rfl, trivial⟩)
     ·clear H a
      clear h52 h53
      intro a H
      refine c_nil <| hK38 _ _ <| c_cond H rfl (fun h54 => ?_) (fun h54 => ?_)
      ·replace h := h.1 h54
       refine c_seq fun K55 hK55 => c_reg <| s_assign H rfl rfl (lt_ rfl) fun a H => s_assign H rfl rfl (lt_ rfl) fun a H => c_nil <| hK55 _ _ <| c_ret ?_
       exact e_ret2 H rfl rfl rfl h
      ·replace h := h.2 h54
       refine c_skip <| hK37 _ _ <| c_seq fun K56 hK56 => ?_
       replace H := H.weaken (L' := [(0, (.pointer f1)), (3, (.pointer (some (blk b4))))]) ⟨rfl, rfl, trivial⟩
       obtain ⟨l57, hc58, l59, hc60, a61, h62, h63, h64, l65, hc66, h⟩ := h
       refine c_any (V := [(0, (.pointer f1)), (1, l57.v), (2, (.i (l57.l : Int))), (3, l59.v), (4, (.pointer (some (a61.add (Int.toNat (0) * 1))))), (5, l65.v), (6, (.i (l65.l : Int)))]) (⟨[[], [], [1], [], [3], [4], [5], [0, 2, 6], [0, 1, 2, 3, 4, 5, 6, 7]], [some 36, some 37, some 38, some 39, some 40, some 41, some 42, some 43, some 6], [7], [0, 0, 0, 0, 0, 0, 0, 0, 1], [0, 0, 0, 0, 0, 0, 0, 1, 1]⟩ : Rg) [(0, (.pointer f1)), (3, (.pointer (some (blk b4))))] mixed (by kernel_rfl) H ?_
       refine Stg.eff [0, 1, 2, 3, 4, 5, 6] (by kernel_rfl) rfl (.cons ?_ (.cons ?_ (.cons ?_ (.cons ?_ (.cons ?_ (.cons ?_ (.cons ?_ .nil))))))) ?_
       ·refine Ans.mk rfl rfl fun a H => s_move H rfl rfl (lt_ rfl) fun a H => ?_
        exact Ans.fin H rfl
       ·refine Ans.mk rfl rfl fun a H => s_load (v := l57.v) H rfl rfl one_25 hc58 (lt_ rfl) fun a H => ?_
        exact Ans.fin H rfl
       ·refine Ans.mk rfl rfl fun a H => s_blt H rfl (H.args (vs := [l57.v]) rfl) (lt_ rfl) (fun cs => b_lenS (z := l57) sl_25) fun a H => ?_
        exact Ans.fin H rfl
       ·refine Ans.mk rfl rfl fun a H => s_load (v := l59.v) H rfl rfl one_25 hc60 (lt_ rfl) fun a H => ?_
        exact Ans.fin H rfl
       ·refine Ans.mk rfl rfl fun a H => s_idxS (s := l59) H rfl rfl rfl slc_25 h62 h63 h64 (lt_ rfl) fun a H => ?_
        exact Ans.fin H rfl
       ·refine Ans.mk rfl rfl fun a H => s_load (v := l65.v) H rfl rfl one_24 hc66 (lt_ rfl) fun a H => ?_
        exact Ans.fin H rfl
       ·refine Ans.mk rfl rfl fun a H => s_blt H rfl (H.args (vs := [l65.v]) rfl) (lt_ rfl) (fun cs => b_lenS (z := l65) sl_24) fun a H => ?_
        exact Ans.fin H rfl
       ·intro a H
        replace H := H.weaken (L' := [(36, (.pointer f1)), (38, (.i (l57.l : Int))), (42, (.i (l65.l : Int)))]) ⟨rfl, rfl, rfl, trivial⟩
        refine s_call H rfl body_49 (H.args (vs := [(.pointer f1), (.i (l57.l : Int)), (.i (l65.l : Int))]) rfl) (lt_ rfl) h ?_ (fun c w' h H => e_panic (P := PP) (fn := Tryd.f29) H h)
        clear H h a
        rintro _ w67 a ⟨b68, rfl, h⟩ H
        refine c_nil <| effQ.go [(8, (.pointer b68))] H rfl rfl <| Stg.fin [8] (by kernel_rfl) (.cons ?_ .nil) ?_
        ·refine Ans.mk rfl rfl fun a H => s_assign H rfl rfl (lt_ rfl) fun a H => ?_
         exact Ans.fin H rfl
        ·intro a H
         replace H := H.weaken (L' := [(3, (.pointer (some (blk b4)))), (6, (.pointer b68))]) ⟨rfl, rfl, trivial⟩
         refine hK56 _ _ <| c_seq fun K69 hK69 => c_seq fun K70 hK70 => c_reg ?_
         obtain ⟨l71, hc72, h⟩ := h
         refine s_load (v := l71.v) H rfl rfl one_25 hc72 (lt_ rfl) fun a H => s_blt H rfl (H.args (vs := [l71.v]) rfl) (lt_ rfl) (fun cs => b_lenS (z := l71) sl_25) fun a H => s_move H rfl rfl (lt_ rfl) fun a H => c_nil <| hK70 _ _ <| c_block ?_
         obtain ⟨I75, m76, h102, h103⟩ := h
         refine c_loop (σ := Int) (fun z w => I75 z w) (fun z w => m76 z w) (fun z => [(6, (.pointer b68)), (44, l71.v), (45, (.i (l71.l : Int))), (46, (.i z))]) 0 h102 (H.weaken ⟨rfl, rfl, rfl, rfl, trivial⟩) ?_
         clear H h102
         rintro s73 a w74 h H
         replace h := h103 s73 w74 h
         clear h103
         replace H : Has 62 [] a [(6, (.pointer b68)), (44, l71.v), (45, (.i (l71.l : Int))), (46, (.i s73))] := H
         refine c_seq fun K77 hK77 => c_reg <| s_bin H rfl rfl rfl r_lss (lt_ rfl) fun a H => c_nil <| hK77 _ _ <| c_seq fun K78 hK78 => c_cond H rfl (fun h79 => ?_) (fun h79 => ?_)
         ·replace h := h.1 h79
          refine c_skip <| hK78 _ _ <| c_seq fun K80 hK80 => c_block <| c_seq fun K81 hK81 => c_reg <| s_move H rfl rfl (lt_ rfl) fun a H => ?_
          obtain ⟨a82, h83, h84, h85, h⟩ := h
          refine s_idxS (s := l71) H rfl rfl rfl slc_25 h83 h84 h85 (lt_ rfl) fun a H => ?_
          obtain ⟨l86, hc87, h⟩ := h
          refine s_load (v := l86.v) H rfl rfl one_24 hc87 (lt_ rfl) fun a H => s_assign H rfl rfl (lt_ rfl) fun a H => s_assign H rfl rfl (lt_ rfl) fun a H => c_nil <| hK81 _ _ <| c_reg <| s_move H rfl rfl (lt_ rfl) fun a H => ?_
          obtain ⟨a88, h100, h⟩ := h
          revert H
          subst h100
          intro H
          refine s_nil H rfl rfl (lt_ rfl) fun a H => s_fld H rfl rfl fld_104_1 (lt_ rfl) fun a H => ?_
          obtain ⟨l89, hc90, h⟩ := h
          refine s_load (v := l89.v) H rfl rfl one_25 hc90 (lt_ rfl) fun a H => s_move H rfl rfl (lt_ rfl) fun a H => ?_
          obtain ⟨a91, h92, h93, h94, h⟩ := h
          refine s_idxS (s := l89) H rfl rfl rfl slc_25 h92 h93 h94 (lt_ rfl) fun a H => ?_
          obtain ⟨l95, hc96, h⟩ := h
          refine s_load (v := l95.v) H rfl rfl one_24 hc96 (lt_ rfl) fun a H => s_move H rfl rfl (lt_ rfl) fun a H => ?_
          obtain ⟨n97, w98, h99, h⟩ := h
          refine s_blt H rfl (H.args (vs := [l95.v, l86.v]) rfl) (lt_ rfl) (fun cs => b_cpy (a := n97) h99) ?_
          clear H a h99
          intro a H
          refine c_nil <| hK80 _ _ <| c_reg <| s_bin H rfl rfl rfl r_add (lt_ rfl) fun a H => s_move H rfl rfl (lt_ rfl) fun a H => c_nil <| Exists.intro (wr .i64 (s73 + 1)) ⟨h.1, h.2, H.weaken ⟨rfl, rfl, rfl, rfl, trivial⟩⟩
         ·replace h := h.2 h79
          refine c_exit ?_
          first | (simp only [Exit.then, Exit.inBlock, ↓reduceIte]; fail_if_success simp only [Nat.reduceEqDiff]) | simp only [Exit.then, Exit.inBlock, ↓reduceIte, Nat.reduceEqDiff]
          refine hK69 _ _ <| c_seq fun K101 hK101 => c_reg <| s_move H rfl rfl (lt_ rfl) fun a H => s_assign H rfl rfl (lt_ rfl) fun a H => s_assign H rfl rfl (lt_ rfl) fun a H => c_nil <| hK101 _ _ <| c_ret ?_
          exact e_ret2 H rfl rfl rfl h

theorem sim_matrix_Matrix_Invert (m1 : Option Addr) (w : World) (Q : Ending → World → Prop) (h : vc_matrix_Matrix_Invert m1 w Q) : Calls PP F_matrix_Matrix_Invert #[(.pointer m1)] w Q := by
 unfold vc_matrix_Matrix_Invert at h
 refine enter (n := 109) Tryd.func30 rfl rfl (Nat.le_of_ble_eq_true rfl) fun a H => c_seq fun K2 hK2 => c_reg <| s_assign H rfl rfl (lt_ rfl) fun a H => s_assign H rfl rfl (lt_ rfl) fun a H => c_nil <| hK2 _ _ <| c_seq fun K3 hK3 => c_seq fun K4 hK4 => c_reg <| s_move H rfl rfl (lt_ rfl) fun a H => s_bin H rfl rfl rfl (r_eqP0 ptr_73) (lt_ rfl) fun a H => c_nil <| hK4 _ _ <| c_cond H rfl (fun h5 => ?_) (fun h5 => ?_)
 ·replace h := h.1 h5
  refine c_seq fun K6 hK6 => c_reg <| s_assign H rfl rfl (lt_ rfl) fun a H => s_assign H rfl rfl (lt_ rfl) fun a H => c_nil <| hK6 _ _ <| c_ret ?_
  exact e_ret2 H rfl rfl rfl h
 ·replace h := h.2 h5
  refine c_skip <| hK3 _ _ <| c_seq fun K7 hK7 => c_reg <| s_move H rfl rfl (lt_ rfl) fun a H => ?_
  obtain ⟨a8, h145, h⟩ := h
  revert H
  subst h145
  intro H
  refine s_nil H rfl rfl (lt_ rfl) fun a H => s_fld H rfl rfl fld_104_1 (lt_ rfl) fun a H => ?_
  obtain ⟨l9, hc10, h⟩ := h
  refine s_load (v := l9.v) H rfl rfl one_25 hc10 (lt_ rfl) fun a H => s_blt H rfl (H.args (vs := [l9.v]) rfl) (lt_ rfl) (fun cs => b_lenS (z := l9) sl_25) fun a H => s_assign H rfl rfl (lt_ rfl) fun a H => c_nil <| hK7 _ _ <| c_seq fun K11 hK11 => c_seq fun K12 hK12 => c_reg <| s_move H rfl rfl (lt_ rfl) fun a H => s_move H rfl rfl (lt_ rfl) fun a H => s_nil H rfl rfl (lt_ rfl) fun a H => s_fld H rfl rfl fld_104_1 (lt_ rfl) fun a H => ?_
  obtain ⟨l13, hc14, h⟩ := h
  refine s_load (v := l13.v) H rfl rfl one_25 hc14 (lt_ rfl) fun a H => ?_
  obtain ⟨a15, h16, h17, h18, h⟩ := h
  refine s_idxS (s := l13) H rfl rfl rfl slc_25 h16 h17 h18 (lt_ rfl) fun a H => ?_
  obtain ⟨l19, hc20, h⟩ := h
  refine s_load (v := l19.v) H rfl rfl one_24 hc20 (lt_ rfl) fun a H => s_blt H rfl (H.args (vs := [l19.v]) rfl) (lt_ rfl) (fun cs => b_lenS (z := l19) sl_24) fun a H => s_bin H rfl rfl rfl r_neq (lt_ rfl) fun a H => c_nil <| hK12 _ _ <| c_cond H rfl (fun h21 => ?_) (fun h21 => ?_)
  ·replace h := h.1 h21
   refine c_seq fun K22 hK22 => c_reg <| s_assign H rfl rfl (lt_ rfl) fun a H => s_assign H rfl rfl (lt_ rfl) fun a H => c_nil <| hK22 _ _ <| c_ret ?_
   exact e_ret2 H rfl rfl rfl h
  ·replace h := h.2 h21
   refine c_skip <| hK11 _ _ <| c_seq fun K23 hK23 => c_reg <| s_move H rfl rfl (lt_ rfl) fun a H => s_nil H rfl rfl (lt_ rfl) fun a H => s_fld H rfl rfl fld_104_0 (lt_ rfl) fun a H => ?_
   obtain ⟨l24, hc25, h⟩ := h
   refine s_load (v := (.pointer l24)) H rfl rfl one_65 hc25 (lt_ rfl) fun a H => s_move H rfl rfl (lt_ rfl) fun a H => s_move H rfl rfl (lt_ rfl) fun a H => s_bin H rfl rfl rfl r_mul (lt_ rfl) fun a H => s_call H rfl body_49 (H.args (vs := [(.pointer l24), (.i (l9.l : Int)), (.i (wr .i64 (2 * (l9.l : Int))))]) rfl) (lt_ rfl) h ?_ (fun c w' h H => e_panic (P := PP) (fn := Tryd.f30) H h)
   clear H h a
   rintro _ w26 a ⟨b27, rfl, h⟩ H
   refine s_assign H rfl rfl (lt_ rfl) fun a H => c_nil <| hK23 _ _ <| c_seq fun K28 hK28 => c_seq fun K29 hK29 => c_reg <| s_move H rfl rfl (lt_ rfl) fun a H => s_nil H rfl rfl (lt_ rfl) fun a H => s_fld H rfl rfl fld_104_1 (lt_ rfl) fun a H => ?_
   obtain ⟨l30, hc31, h⟩ := h
   refine s_load (v := l30.v) H rfl rfl one_25 hc31 (lt_ rfl) fun a H => s_blt H rfl (H.args (vs := [l30.v]) rfl) (lt_ rfl) (fun cs => b_lenS (z := l30) sl_25) fun a H => s_move H rfl rfl (lt_ rfl) fun a H => c_nil <| hK29 _ _ <| c_block ?_
   obtain ⟨I34, m35, h139, h140⟩ := h
   refine c_loop (σ := Int) (fun z w => I34 z w) (fun z w => m35 z w) (fun z => [(0, (.pointer (some a8))), (4, (.i (l9.l : Int))), (5, (.pointer b27)), (38, l30.v), (39, (.i (l30.l : Int))), (40, (.i z))]) 0 h139 (H.weaken ⟨rfl, rfl, rfl, rfl, rfl, rfl, trivial⟩) ?_
   clear H h139
   rintro s32 a w33 h H
   replace h := h140 s32 w33 h
   clear h140
   replace H : Has 109 [] a [(0, (.pointer (some a8))), (4, (.i (l9.l : Int))), (5, (.pointer b27)), (38, l30.v), (39, (.i (l30.l : Int))), (40, (.i s32))] := H
   refine c_seq fun K36 hK36 => c_reg <| s_bin H rfl rfl rfl r_lss (lt_ rfl) fun a H => c_nil <| hK36 _ _ <| c_seq fun K37 hK37 => c_cond H rfl (fun h38 => ?_) (fun h38 => ?_)
   ·replace h := h.1 h38
    refine c_skip <| hK37 _ _ <| c_seq fun K39 hK39 => c_block <| c_seq fun K40 hK40 => c_reg <| s_move H rfl rfl (lt_ rfl) fun a H => ?_
    obtain ⟨a41, h42, h43, h44, h⟩ := h
    refine s_idxS (s := l30) H rfl rfl rfl slc_25 h42 h43 h44 (lt_ rfl) fun a H => ?_
    obtain ⟨l45, hc46, h⟩ := h
    refine s_load (v := l45.v) H rfl rfl one_24 hc46 (lt_ rfl) fun a H => s_assign H rfl rfl (lt_ rfl) fun a H => s_assign H rfl rfl (lt_ rfl) fun a H => c_nil <| hK40 _ _ <| c_seq fun K47 hK47 => c_reg <| s_move H rfl rfl (lt_ rfl) fun a H => ?_
    obtain ⟨a48, h75, h⟩ := h
    revert H
    subst h75
    intro H
    refine s_nil H rfl rfl (lt_ rfl) fun a H => s_fld H rfl rfl fld_104_1 (lt_ rfl) fun a H => ?_
    obtain ⟨l49, hc50, h⟩ := h
    refine s_load (v := l49.v) H rfl rfl one_25 hc50 (lt_ rfl) fun a H => s_move H rfl rfl (lt_ rfl) fun a H => ?_
    obtain ⟨a51, h52, h53, h54, h⟩ := h
    refine s_idxS (s := l49) H rfl rfl rfl slc_25 h52 h53 h54 (lt_ rfl) fun a H => ?_
    obtain ⟨l55, hc56, h⟩ := h
    refine s_load (v := l55.v) H rfl rfl one_24 hc56 (lt_ rfl) fun a H => s_move H rfl rfl (lt_ rfl) fun a H => ?_
    obtain ⟨n57, w58, h59, h⟩ := h
    refine s_blt H rfl (H.args (vs := [l55.v, l45.v]) rfl) (lt_ rfl) (fun cs => b_cpy (a := n57) h59) ?_
    clear H a h59
    intro a H
    refine c_nil <| hK47 _ _ <| c_reg <| s_move H rfl rfl (lt_ rfl) fun a H => s_nil H rfl rfl (lt_ rfl) fun a H => s_fld H rfl rfl fld_104_1 (lt_ rfl) fun a H => ?_
    obtain ⟨l60, hc61, h⟩ := h
    refine s_load (v := l60.v) H rfl rfl one_25 hc61 (lt_ rfl) fun a H => s_move H rfl rfl (lt_ rfl) fun a H => ?_
    obtain ⟨a62, h63, h64, h65, h⟩ := h
    refine s_idxS (s := l60) H rfl rfl rfl slc_25 h63 h64 h65 (lt_ rfl) fun a H => ?_
    obtain ⟨l66, hc67, h⟩ := h
    refine s_load (v := l66.v) H rfl rfl one_24 hc67 (lt_ rfl) fun a H => s_move H rfl rfl (lt_ rfl) fun a H => s_move H rfl rfl (lt_ rfl) fun a H => s_bin H rfl rfl rfl r_add (lt_ rfl) fun a H => ?_
    obtain ⟨a68, h69, h70, h71, h⟩ := h
    refine s_idxS (s := l66) H rfl rfl rfl slc_24 h69 h70 h71 (lt_ rfl) fun a H => ?_
    obtain ⟨h73, h74, h⟩ := h
    refine s_sto (p := a68.add (Int.toNat (wr .i64 ((l9.l : Int) + s32)) * 1)) (v := (.int .u8 1)) H rfl rfl rfl rfl one_5 rfl h73 h74 ?_
    clear H
    intro H
    generalize hww72 : World.setCell w58 (a68.add (Int.toNat (wr .i64 ((l9.l : Int) + s32)) * 1)) (.int .u8 1) = w72 at h ⊢
    have w72S : SetAt w58 (a68.add (Int.toNat (wr .i64 ((l9.l : Int) + s32)) * 1)) (.int .u8 1) w72 := ⟨hww72.symm⟩
    clear hww72 h73 h74
    refine c_nil <| hK39 _ _ <| c_reg <| s_bin H rfl rfl rfl r_add (lt_ rfl) fun a H => s_move H rfl rfl (lt_ rfl) fun a H => c_nil <| Exists.intro (wr .i64 (s32 + 1)) ⟨h.1, h.2, H.weaken ⟨rfl, rfl, rfl, rfl, rfl, rfl, trivial⟩⟩
   ·replace h := h.2 h38
    refine c_exit ?_
    first | (simp only [Exit.then, Exit.inBlock, ↓reduceIte]; fail_if_success simp only [Nat.reduceEqDiff]) | simp only [Exit.then, Exit.inBlock, ↓reduceIte, Nat.reduceEqDiff]
    refine hK28 _ _ <| c_seq fun K76 hK76 => c_seq fun K77 hK77 => ?_
    replace H := H.weaken (L' := [(0, (.pointer (some a8))), (4, (.i (l9.l : Int))), (5, (.pointer b27))]) ⟨rfl, rfl, rfl, trivial⟩
    obtain ⟨l78, hc79, a80, h81, h⟩ := h
    revert H
    subst h81
    intro H
    obtain ⟨l82, hc83, h⟩ := h
    refine c_any (V := [(0, (.pointer (some a8))), (1, (.pointer (some a8))), (2, (.pointer (some (a8.add 0)))), (3, (.pointer l78)), (4, (.pointer (some a80))), (5, (.pointer (some a80))), (6, (.pointer (some (a80.add 1)))), (7, l82.v), (8, (.i (l9.l : Int))), (11, (.i (l9.l : Int)))]) (⟨[[], [0], [1], [2], [], [4], [5], [6], [], [3, 7, 8], [9], [], [10, 11]], [some 66, some 67, some 68, some 69, some 70, some 71, some 72, some 73, some 74, some 75, some 76, some 77, some 78], [9], [0, 0, 0, 0, 0, 0, 0, 0, 0, 0, 1, 0, 1], [0, 0, 0, 0, 0, 0, 0, 0, 0, 1, 1, 1, 1]⟩ : Rg) [(0, (.pointer (some a8))), (4, (.i (l9.l : Int))), (5, (.pointer (some a80)))] mixed (by kernel_rfl) H ?_
    refine Stg.eff [0, 1, 2, 3, 4, 5, 6, 7, 8, 11] (by kernel_rfl) rfl (.cons ?_ (.cons ?_ (.cons ?_ (.cons ?_ (.cons ?_ (.cons ?_ (.cons ?_ (.cons ?_ (.cons ?_ (.cons ?_ .nil)))))))))) ?_
    ·refine Ans.mk rfl rfl fun a H => s_move H rfl rfl (lt_ rfl) fun a H => ?_
     exact Ans.fin H rfl
    ·refine Ans.mk rfl rfl fun a H => s_nil H rfl rfl (lt_ rfl) fun a H => ?_
     exact Ans.fin H rfl
    ·refine Ans.mk rfl rfl fun a H => s_fld H rfl rfl fld_104_0 (lt_ rfl) fun a H => ?_
     exact Ans.fin H rfl
    ·refine Ans.mk rfl rfl fun a H => s_load (v := (.pointer l78)) H rfl rfl one_65 hc79 (lt_ rfl) fun a H => ?_
     exact Ans.fin H rfl
    ·refine Ans.mk rfl rfl fun a H => s_move H rfl rfl (lt_ rfl) fun a H => ?_
     exact Ans.fin H rfl
    ·refine Ans.mk rfl rfl fun a H => s_nil H rfl rfl (lt_ rfl) fun a H => ?_
     exact Ans.fin H rfl
    ·refine Ans.mk rfl rfl fun a H => s_fld H rfl rfl fld_104_1 (lt_ rfl) fun a H => ?_
     exact Ans.fin H rfl
    ·refine Ans.mk rfl rfl fun a H => s_load (v := l82.v) H rfl rfl one_25 hc83 (lt_ rfl) fun a H => ?_
     exact Ans.fin H rfl
    ·refine Ans.mk rfl rfl fun a H => s_move H rfl rfl (lt_ rfl) fun a H => ?_
     exact Ans.fin H rfl
    ·refine Ans.mk rfl rfl fun a H => s_move H rfl rfl (lt_ rfl) fun a H => ?_
     exact Ans.fin H rfl
    ·intro a H
     replace H := H.weaken (L' := [(69, (.pointer l78)), (73, l82.v), (74, (.i (l9.l : Int)))]) ⟨rfl, rfl, rfl, trivial⟩
     refine s_call H rfl body_50 (H.args (vs := [(.pointer l78), l82.v, (.i (l9.l : Int))]) rfl) (lt_ rfl) h ?_ (fun c w' h H => e_panic (P := PP) (fn := Tryd.f30) H h)
     clear H h a
     rintro _ w84 a ⟨e85, rfl, h⟩ H
     refine c_nil <| effQ.go [(10, (.i (e85.l : Int))), (12, (.bool (decide ((e85.l : Int) < (l9.l : Int)))))] H rfl rfl <| Stg.fin [10, 11, 12] (by kernel_rfl) (.cons ?_ (.cons ?_ (.cons ?_ .nil))) ?_
     ·refine Ans.mk rfl rfl fun a H => s_blt H rfl (H.args (vs := [e85.v]) rfl) (lt_ rfl) (fun cs => b_lenS (z := e85) sl_26) fun a H => ?_
      exact Ans.fin H rfl
     ·refine Ans.mk rfl rfl fun a H => s_move H rfl rfl (lt_ rfl) fun a H => ?_
      exact Ans.fin H rfl
     ·refine Ans.mk rfl rfl fun a H => s_bin H rfl rfl rfl r_lss (lt_ rfl) fun a H => ?_
      exact Ans.fin H rfl
     ·intro a H
      replace H := H.weaken (L' := [(0, (.pointer (some a8))), (4, (.i (l9.l : Int))), (5, (.pointer (some a80))), (78, (.bool (decide ((e85.l : Int) < (l9.l : Int)))))]) ⟨rfl, rfl, rfl, rfl, trivial⟩
      refine hK77 _ _ <| c_cond H rfl (fun h86 => ?_) (fun h86 => ?_)
      ·replace h := h.1 h86
       refine c_seq fun K87 hK87 => c_reg <| s_assign H rfl rfl (lt_ rfl) fun a H => s_assign H rfl rfl (lt_ rfl) fun a H => c_nil <| hK87 _ _ <| c_ret ?_
       exact e_ret2 H rfl rfl rfl h
      ·replace h := h.2 h86
       refine c_skip <| hK76 _ _ <| c_seq fun K88 hK88 => c_reg <| s_move H rfl rfl (lt_ rfl) fun a H => s_nil H rfl rfl (lt_ rfl) fun a H => s_fld H rfl rfl fld_104_0 (lt_ rfl) fun a H => ?_
       obtain ⟨l89, hc90, h⟩ := h
       refine s_load (v := (.pointer l89)) H rfl rfl one_65 hc90 (lt_ rfl) fun a H => s_move H rfl rfl (lt_ rfl) fun a H => s_move H rfl rfl (lt_ rfl) fun a H => s_call H rfl body_49 (H.args (vs := [(.pointer l89), (.i (l9.l : Int)), (.i (l9.l : Int))]) rfl) (lt_ rfl) h ?_ (fun c w' h H => e_panic (P := PP) (fn := Tryd.f30) H h)
       clear H h a
       rintro _ w91 a ⟨b92, rfl, h⟩ H
       refine s_assign H rfl rfl (lt_ rfl) fun a H => c_nil <| hK88 _ _ <| c_seq fun K93 hK93 => c_seq fun K94 hK94 => c_reg <| s_move H rfl rfl (lt_ rfl) fun a H => s_nil H rfl rfl (lt_ rfl) fun a H => s_fld H rfl rfl fld_104_1 (lt_ rfl) fun a H => ?_
       obtain ⟨l95, hc96, h⟩ := h
       refine s_load (v := l95.v) H rfl rfl one_25 hc96 (lt_ rfl) fun a H => s_blt H rfl (H.args (vs := [l95.v]) rfl) (lt_ rfl) (fun cs => b_lenS (z := l95) sl_25) fun a H => s_move H rfl rfl (lt_ rfl) fun a H => c_nil <| hK94 _ _ <| c_block ?_
       obtain ⟨I99, m100, h129, h130⟩ := h
       refine c_loop (σ := Int) (fun z w => I99 z w) (fun z w => m100 z w) (fun z => [(4, (.i (l9.l : Int))), (8, (.pointer b92)), (89, l95.v), (90, (.i (l95.l : Int))), (91, (.i z))]) 0 h129 (H.weaken ⟨rfl, rfl, rfl, rfl, rfl, trivial⟩) ?_
       clear H h129
       rintro s97 a w98 h H
       replace h := h130 s97 w98 h
       clear h130
       replace H : Has 109 [] a [(4, (.i (l9.l : Int))), (8, (.pointer b92)), (89, l95.v), (90, (.i (l95.l : Int))), (91, (.i s97))] := H
       refine c_seq fun K101 hK101 => c_reg <| s_bin H rfl rfl rfl r_lss (lt_ rfl) fun a H => c_nil <| hK101 _ _ <| c_seq fun K102 hK102 => c_cond H rfl (fun h103 => ?_) (fun h103 => ?_)
       ·replace h := h.1 h103
        refine c_skip <| hK102 _ _ <| c_seq fun K104 hK104 => c_block <| c_seq fun K105 hK105 => c_reg <| s_move H rfl rfl (lt_ rfl) fun a H => ?_
        obtain ⟨a106, h107, h108, h109, h⟩ := h
        refine s_idxS (s := l95) H rfl rfl rfl slc_25 h107 h108 h109 (lt_ rfl) fun a H => ?_
        obtain ⟨l110, hc111, h⟩ := h
        refine s_load (v := l110.v) H rfl rfl one_24 hc111 (lt_ rfl) fun a H => s_assign H rfl rfl (lt_ rfl) fun a H => s_assign H rfl rfl (lt_ rfl) fun a H => c_nil <| hK105 _ _ ?_
        replace H := H.weaken (L' := [(4, (.i (l9.l : Int))), (8, (.pointer b92)), (9, (.i s97)), (10, l110.v), (89, l95.v), (90, (.i (l95.l : Int))), (91, (.i s97))]) ⟨rfl, rfl, rfl, rfl, rfl, rfl, rfl, trivial⟩
        obtain ⟨a112, h113, h⟩ := h
        revert H
        subst h113
        intro H
        obtain ⟨l114, hc115, a116, h117, h118, h119, l120, hc121, h122, h123, h124, h⟩ := h
        refine c_any (V := [(0, (.pointer (some a112))), (1, (.pointer (some a112))), (2, (.pointer (some (a112.add 1)))), (3, l114.v), (4, (.i s97)), (5, (.pointer (some (a116.add (Int.toNat (s97) * 1))))), (6, l120.v), (7, l110.v), (8, (.i (l9.l : Int))), (9, (Slc.v (l110.cut 1 (Int.toNat ((l9.l : Int))) (Int.toNat ((l110.l : Int))))))]) (⟨[[], [0], [1], [2], [], [3, 4], [5], [], [], [7, 8], [6, 9]], [some 96, some 97, some 98, some 99, some 100, some 101, some 102, some 103, some 104, some 105, some 106], [10], [0, 0, 0, 0, 0, 0, 0, 0, 0, 0, 0], [0, 0, 0, 0, 0, 0, 0, 0, 0, 0, 1]⟩ : Rg) [(4, (.i (l9.l : Int))), (8, (.pointer (some a112))), (9, (.i s97)), (10, l110.v), (89, l95.v), (90, (.i (l95.l : Int))), (91, (.i s97))] mixed (by kernel_rfl) H ?_
        refine Stg.eff [0, 1, 2, 3, 4, 5, 6, 7, 8, 9] (by kernel_rfl) rfl (.cons ?_ (.cons ?_ (.cons ?_ (.cons ?_ (.cons ?_ (.cons ?_ (.cons ?_ (.cons ?_ (.cons ?_ (.cons ?_ .nil)))))))))) ?_
        ·refine Ans.mk rfl rfl fun a H => s_move H rfl rfl (lt_ rfl) fun a H => ?_
         exact Ans.fin H rfl
        ·refine Ans.mk rfl rfl fun a H => s_nil H rfl rfl (lt_ rfl) fun a H => ?_
         exact Ans.fin H rfl
        ·refine Ans.mk rfl rfl fun a H => s_fld H rfl rfl fld_104_1 (lt_ rfl) fun a H => ?_
         exact Ans.fin H rfl
        ·refine Ans.mk rfl rfl fun a H => s_load (v := l114.v) H rfl rfl one_25 hc115 (lt_ rfl) fun a H => ?_
         exact Ans.fin H rfl
        ·refine Ans.mk rfl rfl fun a H => s_move H rfl rfl (lt_ rfl) fun a H => ?_
         exact Ans.fin H rfl
        ·refine Ans.mk rfl rfl fun a H => s_idxS (s := l114) H rfl rfl rfl slc_25 h117 h118 h119 (lt_ rfl) fun a H => ?_
         exact Ans.fin H rfl
        ·refine Ans.mk rfl rfl fun a H => s_load (v := l120.v) H rfl rfl one_24 hc121 (lt_ rfl) fun a H => ?_
         exact Ans.fin H rfl
        ·refine Ans.mk rfl rfl fun a H => s_move H rfl rfl (lt_ rfl) fun a H => ?_
         exact Ans.fin H rfl
        ·refine Ans.mk rfl rfl fun a H => s_move H rfl rfl (lt_ rfl) fun a H => ?_
         exact Ans.fin H rfl
        ·refine Ans.mk rfl rfl fun a H => s_slice (v := (Slc.v (l110.cut 1 (Int.toNat ((l9.l : Int))) (Int.toNat ((l110.l : Int)))))) H rfl rfl ⟨rfl, rfl⟩ ⟨rfl, rfl⟩ ⟨rfl, rfl⟩ (r_sliceSlc (lo := (some (.i64, (l9.l : Int)))) (hi := none) slc_24 rfl rfl h122 h123 h124) (lt_ rfl) fun a H => ?_
         exact Ans.fin H rfl
        ·intro a H
         replace H := H.weaken (L' := [(102, l120.v), (105, (Slc.v (l110.cut 1 (Int.toNat ((l9.l : Int))) (Int.toNat ((l110.l : Int))))))]) ⟨rfl, rfl, trivial⟩
         obtain ⟨n125, w126, h127, h⟩ := h
         refine s_blt H rfl (H.args (vs := [l120.v, (Slc.v (l110.cut 1 (Int.toNat ((l9.l : Int))) (Int.toNat ((l110.l : Int)))))]) rfl) (lt_ rfl) (fun cs => b_cpy (a := n125) h127) ?_
         clear H a h127
         intro a H
         refine c_nil <| effQ.go [] H rfl rfl <| Stg.fin [] (by kernel_rfl) .nil ?_
         ·intro a H
          replace H := H.weaken (L' := [(4, (.i (l9.l : Int))), (8, (.pointer (some a112))), (89, l95.v), (90, (.i (l95.l : Int))), (91, (.i s97))]) ⟨rfl, rfl, rfl, rfl, rfl, trivial⟩
          refine hK104 _ _ <| c_reg <| s_bin H rfl rfl rfl r_add (lt_ rfl) fun a H => s_move H rfl rfl (lt_ rfl) fun a H => c_nil <| Exists.intro (wr .i64 (s97 + 1)) ⟨h.1, h.2, H.weaken ⟨rfl, rfl, rfl, rfl, rfl, trivial⟩⟩
       ·replace h := h.2 h103
        refine c_exit ?_
        first | (simp only [Exit.then, Exit.inBlock, ↓reduceIte]; fail_if_success simp only [Nat.reduceEqDiff]) | simp only [Exit.then, Exit.inBlock, ↓reduceIte, Nat.reduceEqDiff]
        refine hK93 _ _ <| c_seq fun K128 hK128 => c_reg <| s_move H rfl rfl (lt_ rfl) fun a H => s_assign H rfl rfl (lt_ rfl) fun a H => s_assign H rfl rfl (lt_ rfl) fun a H => c_nil <| hK128 _ _ <| c_ret ?_
        exact e_ret2 H rfl rfl rfl h

theorem sim_matrix_Matrix_Rows (m1 : Option Addr) (w : World) (Q : Ending → World → Prop) (h : vc_matrix_Matrix_Rows m1 w Q) : Calls PP F_matrix_Matrix_Rows #[(.pointer m1)] w Q := by
 unfold vc_matrix_Matrix_Rows at h
 refine enter (n := 30) Tryd.func31 rfl rfl (Nat.le_of_ble_eq_true rfl) fun a H => c_seq fun K2 hK2 => c_reg <| s_assign H rfl rfl (lt_ rfl) fun a H => c_nil <| hK2 _ _ <| c_seq fun K3 hK3 => c_seq fun K4 hK4 => c_reg <| s_move H rfl rfl (lt_ rfl) fun a H => s_bin H rfl rfl rfl (r_eqP0 ptr_73) (lt_ rfl) fun a H => c_nil <| hK4 _ _ <| c_cond H rfl (fun h5 => ?_) (fun h5 => ?_)
 ·replace h := h.1 h5
  refine c_seq fun K6 hK6 => c_reg <| s_assign H rfl rfl (lt_ rfl) fun a H => c_nil <| hK6 _ _ <| c_ret ?_
  exact e_ret1 H rfl rfl h
 ·replace h := h.2 h5
  refine c_skip <| hK3 _ _ <| c_seq fun K7 hK7 => c_reg <| s_move H rfl rfl (lt_ rfl) fun a H => ?_
  obtain ⟨a8, h46, h⟩ := h
  revert H
  subst h46
  intro H
  refine s_nil H rfl rfl (lt_ rfl) fun a H => s_fld H rfl rfl fld_104_1 (lt_ rfl) fun a H => ?_
  obtain ⟨l9, hc10, h⟩ := h
  refine s_load (v := l9.v) H rfl rfl one_25 hc10 (lt_ rfl) fun a H => s_blt H rfl (H.args (vs := [l9.v]) rfl) (lt_ rfl) (fun cs => b_lenS (z := l9) sl_25) fun a H => ?_
  obtain ⟨s11, w12, h13, h⟩ := h
  refine s_mk H rfl rfl rfl h13 (lt_ rfl) ?_
  clear H a h13
  intro a H
  refine s_assign H rfl rfl (lt_ rfl) fun a H => c_nil <| hK7 _ _ <| c_seq fun K14 hK14 => c_seq fun K15 hK15 => c_reg <| s_move H rfl rfl (lt_ rfl) fun a H => s_nil H rfl rfl (lt_ rfl) fun a H => s_fld H rfl rfl fld_104_1 (lt_ rfl) fun a H => ?_
  obtain ⟨l16, hc17, h⟩ := h
  refine s_load (v := l16.v) H rfl rfl one_25 hc17 (lt_ rfl) fun a H => s_blt H rfl (H.args (vs := [l16.v]) rfl) (lt_ rfl) (fun cs => b_lenS (z := l16) sl_25) fun a H => s_move H rfl rfl (lt_ rfl) fun a H => c_nil <| hK15 _ _ <| c_block ?_
  obtain ⟨I21, m22, h44, h45⟩ := h
  refine c_loop (σ := Slc × Int) (fun z w => I21 z.1 z.2 w) (fun z w => m22 z.1 z.2 w) (fun z => [(3, z.1.v), (17, l16.v), (18, (.i (l16.l : Int))), (19, (.i z.2))]) (s11, 0) h44 (H.weaken ⟨rfl, rfl, rfl, rfl, trivial⟩) ?_
  clear H h44
  rintro ⟨o18, s19⟩ a w20 h H
  replace h := h45 o18 s19 w20 h
  clear h45
  replace H : Has 30 [] a [(3, o18.v), (17, l16.v), (18, (.i (l16.l : Int))), (19, (.i s19))] := H
  refine c_seq fun K23 hK23 => c_reg <| s_bin H rfl rfl rfl r_lss (lt_ rfl) fun a H => c_nil <| hK23 _ _ <| c_seq fun K24 hK24 => c_cond H rfl (fun h25 => ?_) (fun h25 => ?_)
  ·replace h := h.1 h25
   refine c_skip <| hK24 _ _ <| c_seq fun K26 hK26 => c_block <| c_seq fun K27 hK27 => c_reg ?_
   obtain ⟨a28, h29, h30, h31, h⟩ := h
   refine s_idxS (s := l16) H rfl rfl rfl slc_25 h29 h30 h31 (lt_ rfl) fun a H => ?_
   obtain ⟨l32, hc33, h⟩ := h
   refine s_load (v := l32.v) H rfl rfl one_24 hc33 (lt_ rfl) fun a H => s_assign H rfl rfl (lt_ rfl) fun a H => c_nil <| hK27 _ _ <| c_reg <| s_move H rfl rfl (lt_ rfl) fun a H => s_move H rfl rfl (lt_ rfl) fun a H => ?_
   obtain ⟨s34, w35, h36, h⟩ := h
   refine s_blt H rfl (H.args (vs := [Slc.nil.v, l32.v]) rfl) (lt_ rfl) (fun cs => b_app (z := s34) h36) ?_
   clear H a h36
   intro a H
   replace h := h.get
   obtain ⟨b37, w38, n39, h⟩ := h
   refine s_bslc H rfl (by rw [H.parts (vs := [(0, s34.v)]) rfl]; exact bs_25_1_s0 w35 s34) (lt_ rfl) ?_
   rw [← n39.at_]
   clear H a
   intro a H
   refine n39.go ?_
   obtain ⟨s40, w41, h42, h⟩ := h
   refine s_blt H rfl (H.args (vs := [o18.v, (Slc.v (Slc.mk (some (blk b37)) 1 1))]) rfl) (lt_ rfl) (fun cs => b_app (z := s40) h42) ?_
   clear H a h42
   intro a H
   refine s_assign H rfl rfl (lt_ rfl) fun a H => c_nil <| hK26 _ _ <| c_reg <| s_bin H rfl rfl rfl r_add (lt_ rfl) fun a H => s_move H rfl rfl (lt_ rfl) fun a H => c_nil <| Exists.intro (s40, wr .i64 (s19 + 1)) ⟨h.1, h.2, H.weaken ⟨rfl, rfl, rfl, rfl, trivial⟩⟩
  ·replace h := h.2 h25
   refine c_exit ?_
   first | (simp only [Exit.then, Exit.inBlock, ↓reduceIte]; fail_if_success simp only [Nat.reduceEqDiff]) | simp only [Exit.then, Exit.inBlock, ↓reduceIte, Nat.reduceEqDiff]
   refine hK14 _ _ <| c_seq fun K43 hK43 => c_reg <| s_move H rfl rfl (lt_ rfl) fun a H => s_assign H rfl rfl (lt_ rfl) fun a H => c_nil <| hK43 _ _ <| c_ret ?_
   exact e_ret1 H rfl rfl h

theorem sim_slices_Equal (s1 s2 : Slc) (w : World) (Q : Ending → World → Prop) (h : vc_slices_Equal s1 s2 w Q) : Calls PP F_slices_Equal #[s1.v, s2.v] w Q := by
 unfold vc_slices_Equal at h
 refine enter (n := 26) Tryd.func32 rfl rfl (Nat.le_of_ble_eq_true rfl) fun a H => c_seq fun K3 hK3 => c_reg <| s_assign H rfl rfl (lt_ rfl) fun a H => c_nil <| hK3 _ _ <| c_seq fun K4 hK4 => c_seq fun K5 hK5 => c_reg <| s_move H rfl rfl (lt_ rfl) fun a H => s_blt H rfl (H.args (vs := [s1.v]) rfl) (lt_ rfl) (fun cs => b_lenS (z := s1) sl_24) fun a H => s_move H rfl rfl (lt_ rfl) fun a H => s_blt H rfl (H.args (vs := [s2.v]) rfl) (lt_ rfl) (fun cs => b_lenS (z := s2) sl_24) fun a H => ?_
 refine s_bin H rfl rfl rfl r_neq (lt_ rfl) fun a H => c_nil <| hK5 _ _ <| c_cond H rfl (fun h6 => ?_) (fun h6 => ?_)
 ·replace h := h.1 h6
  refine c_seq fun K7 hK7 => c_reg <| s_assign H rfl rfl (lt_ rfl) fun a H => c_nil <| hK7 _ _ <| c_ret ?_
  exact e_ret1 H rfl rfl h
 ·replace h := h.2 h6
  refine c_skip <| hK4 _ _ <| c_seq fun K8 hK8 => c_seq fun K9 hK9 => c_reg <| s_move H rfl rfl (lt_ rfl) fun a H => s_blt H rfl (H.args (vs := [s1.v]) rfl) (lt_ rfl) (fun cs => b_lenS (z := s1) sl_24) fun a H => s_move H rfl rfl (lt_ rfl) fun a H => c_nil <| hK9 _ _ <| c_block ?_
  obtain ⟨I12, m13, h36, h37⟩ := h
  refine c_loop (σ := Int) (fun z w => I12 z w) (fun z w => m13 z w) (fun z => [(0, s1.v), (1, s2.v), (12, (.i (s1.l : Int))), (13, (.i z))]) 0 h36 (H.weaken ⟨rfl, rfl, rfl, rfl, trivial⟩) ?_
  clear H h36
  rintro s10 a w11 h H
  replace h := h37 s10 w11 h
  clear h37
  replace H : Has 26 [] a [(0, s1.v), (1, s2.v), (12, (.i (s1.l : Int))), (13, (.i s10))] := H
  refine c_seq fun K14 hK14 => c_reg <| s_bin H rfl rfl rfl r_lss (lt_ rfl) fun a H => c_nil <| hK14 _ _ <| c_seq fun K15 hK15 => c_cond H rfl (fun h16 => ?_) (fun h16 => ?_)
  ·replace h := h.1 h16
   refine c_skip <| hK15 _ _ <| c_seq fun K17 hK17 => c_block <| c_seq fun K18 hK18 => c_reg <| s_move H rfl rfl (lt_ rfl) fun a H => s_assign H rfl rfl (lt_ rfl) fun a H => c_nil <| hK18 _ _ <| c_seq fun K19 hK19 => c_regD mixed (by kernel_rfl) <| z_move H rfl rfl (lt_ rfl) fun a H => z_move H rfl rfl (lt_ rfl) fun a H => ?_
   obtain ⟨a21, h22, h23, h24, h⟩ := h
   refine z_idxS (s := s1) H rfl rfl rfl slc_24 h22 h23 h24 (lt_ rfl) fun a H => ?_
   obtain ⟨l25, hc26, h⟩ := h
   refine z_load (v := (.int .u8 l25)) H rfl rfl one_5 hc26 (lt_ rfl) fun a H => z_move H rfl rfl (lt_ rfl) fun a H => z_move H rfl rfl (lt_ rfl) fun a H => ?_
   obtain ⟨a27, h28, h29, h30, h⟩ := h
   refine z_idxS (s := s2) H rfl rfl rfl slc_24 h28 h29 h30 (lt_ rfl) fun a H => ?_
   obtain ⟨l31, hc32, h⟩ := h
   refine z_load (v := (.int .u8 l31)) H rfl rfl one_5 hc32 (lt_ rfl) fun a H => z_bin H rfl rfl rfl r_neq (lt_ rfl) fun a H => wpQuiet_nil ?_
   rintro _ ⟨k20, rfl⟩
   replace h := h k20
   refine hK19 _ _ <| c_cond H rfl (fun h33 => ?_) (fun h33 => ?_)
   ·replace h := h.1 h33
    refine c_seq fun K34 hK34 => c_reg <| s_assign H rfl rfl (lt_ rfl) fun a H => c_nil <| hK34 _ _ <| c_ret ?_
    exact e_ret1 H rfl rfl h
   ·replace h := h.2 h33
    refine c_skip <| hK17 _ _ <| c_reg <| s_bin H rfl rfl rfl r_add (lt_ rfl) fun a H => s_move H rfl rfl (lt_ rfl) fun a H => c_nil <| Exists.intro (wr .i64 (s10 + 1)) ⟨h.1, h.2, H.weaken ⟨rfl, rfl, rfl, rfl, trivial⟩⟩
  ·replace h := h.2 h16
   refine c_exit ?_
   first | (simp only [Exit.then, Exit.inBlock, ↓reduceIte]; fail_if_success simp only [Nat.reduceEqDiff]) | simp only [Exit.then, Exit.inBlock, ↓reduceIte, Nat.reduceEqDiff]
   refine hK8 _ _ <| c_seq fun K35 hK35 => c_reg <| s_assign H rfl rfl (lt_ rfl) fun a H => c_nil <| hK35 _ _ <| c_ret ?_
   exact e_ret1 H rfl rfl h
end Go.Proofs.YteoeboeaanjehaaDoor
