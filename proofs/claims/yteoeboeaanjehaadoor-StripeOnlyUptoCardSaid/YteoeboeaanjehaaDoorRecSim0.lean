/-
  The conditions give the machine's calls; printed by vcgen.py.
-/
import Derived.Test.YteoeboeaanjehaaDoorRecVc
namespace Go.Proofs.YteoeboeaanjehaaDoor
open Go Go.Vc
set_option maxRecDepth 100000
set_option maxHeartbeats 4000000
theorem sim_sherdlaw05_StripeOnly (N1 K2 : Int) (V3 D4 P5 B6 : Slc) (w : World) (Q : Ending → World → Prop) (h : vc_sherdlaw05_StripeOnly N1 K2 V3 D4 P5 B6 w Q) : Calls PP F_sherdlaw05_StripeOnly #[(.agg #[(.i N1), (.i K2)]), (.agg #[V3.v, D4.v, P5.v, B6.v])] w Q := by
 unfold vc_sherdlaw05_StripeOnly at h
 refine enter (n := 156) Tryd.func3 rfl rfl (Nat.le_of_ble_eq_true rfl) fun a H => c_seq fun K7 hK7 => c_reg ?_
 replace h := h.get
 obtain ⟨b8, w9, n10, h⟩ := h
 refine s_box H rfl rfl (lt_ rfl) ?_
 rw [← n10.at_]
 clear H a
 intro a H
 refine n10.go ?_
 replace h := h.get
 obtain ⟨b11, w12, n13, h⟩ := h
 refine s_box H rfl rfl (lt_ rfl) ?_
 rw [← n13.at_]
 clear H a
 intro a H
 refine n13.go <| s_assign H rfl rfl (lt_ rfl) fun a H => c_nil <| hK7 _ _ <| c_seq fun K14 hK14 => c_regD mixed (by kernel_rfl) <| z_fld H rfl rfl fld_28_0 (lt_ rfl) fun a H => z_load (v := V3.v) H rfl rfl one_24 (n13.cell (i := 0) rfl) (lt_ rfl) fun a H => z_fld H rfl rfl fld_28_1 (lt_ rfl) fun a H => z_load (v := D4.v) H rfl rfl one_25 (n13.cell (i := 1) rfl) (lt_ rfl) fun a H => z_fld H rfl rfl fld_28_2 (lt_ rfl) fun a H => ?_
 refine z_load (v := P5.v) H rfl rfl one_26 (n13.cell (i := 2) rfl) (lt_ rfl) fun a H => ?_
 iterate 3 refine z_assign H rfl rfl (lt_ rfl) fun a H => ?_
 refine wpQuiet_nil ?_
 rintro _ ⟨k15, rfl⟩
 replace h := h k15
 refine hK14 _ _ <| c_seq fun K16 hK16 => c_reg <| s_loadN (l := [(.i N1), (.i K2)]) H rfl rfl agg_23 rfl ⟨(n13.old (n10.cell (i := 0) rfl)), (n13.old (n10.cell (i := 1) rfl)), trivial⟩ (lt_ rfl) fun a H => s_call H rfl body_5 (H.args (vs := [(.agg #[(.i N1), (.i K2)])]) rfl) (lt_ rfl) h ?_ (fun c w' h H => e_panic (P := PP) (fn := Tryd.f3) H h)
 clear H h a
 rintro _ w17 a ⟨c18, c19, c20, rfl, h⟩ H
 refine s_move H rfl rfl (lt_ rfl) fun a H => ?_
 iterate 3 refine s_ext H rfl rfl rfl (lt_ rfl) fun a H => ?_
 iterate 3 refine s_assign H rfl rfl (lt_ rfl) fun a H => ?_
 refine c_nil <| hK16 _ _ <| c_seq fun K21 hK21 => c_reg <| s_move H rfl rfl (lt_ rfl) fun a H => s_move H rfl rfl (lt_ rfl) fun a H => s_blt H rfl (H.args (vs := [V3.v]) rfl) (lt_ rfl) (fun cs => b_lenS (z := V3) sl_24) fun a H => s_blt H rfl (H.args (vs := [(.i (V3.l : Int)), (.i 65536)]) rfl) (lt_ rfl) (fun cs => b_min) fun a H => ?_
 obtain ⟨h22, h23, h24, h⟩ := h
 refine s_slice (v := (Slc.v (V3.cut 1 (Int.toNat (0)) (Int.toNat (minI (V3.l : Int) 65536))))) H rfl rfl ⟨rfl, rfl⟩ ⟨rfl, rfl⟩ ⟨rfl, rfl⟩ (r_sliceSlc (lo := none) (hi := (some (.i64, minI (V3.l : Int) 65536))) slc_24 rfl rfl h22 h23 h24) (lt_ rfl) fun a H => s_assign H rfl rfl (lt_ rfl) fun a H => c_nil <| hK21 _ _ <| c_seq fun K25 hK25 => c_reg <| s_move H rfl rfl (lt_ rfl) fun a H => s_move H rfl rfl (lt_ rfl) fun a H => ?_
 refine s_call H rfl body_6 (H.args (vs := [(.pointer c18), (Slc.v (V3.cut 1 (Int.toNat (0)) (Int.toNat (minI (V3.l : Int) 65536))))]) rfl) (lt_ rfl) h ?_ (fun c w' h H => e_panic (P := PP) (fn := Tryd.f3) H h)
 clear H h a
 rintro _ w26 a ⟨S27, S28, rfl, h⟩ H
 refine s_move H rfl rfl (lt_ rfl) fun a H => s_ext H rfl rfl rfl (lt_ rfl) fun a H => s_ext H rfl rfl rfl (lt_ rfl) fun a H => s_assign H rfl rfl (lt_ rfl) fun a H => s_assign H rfl rfl (lt_ rfl) fun a H => c_nil <| hK25 _ _ <| c_seq fun K29 hK29 => c_seq fun K30 hK30 => c_reg <| s_move H rfl rfl (lt_ rfl) fun a H => s_bin H rfl rfl rfl r_neq (lt_ rfl) fun a H => s_move H rfl rfl (lt_ rfl) fun a H => ?_
 refine g_join (n := 156) [(55, (.bool ((decide (S28 ≠ 0)) || (decide ((S27.l : Int) ≠ c19))))), (6, D4.v), (7, P5.v), (8, (.pointer c18)), (9, (.i c19)), (10, (.i c20)), (11, S27.v)] (.succ (.succ (.succ (.succ (.succ (.zero _)))))) ?_ ?_
 ·intro h32
  try clear h
  rcases Bool.eq_false_or_eq_true (decide (S28 ≠ 0)) with h31 | h31
  ·replace H := H.ch (t := 50) (b := true) rfl h31
   iterate 4 refine s_skip H (wantN H rfl rfl rfl) rfl (lt_ rfl) fun a H => ?_
   refine s_pickT H rfl rfl rfl (lt_ rfl) fun a H => ?_
   exact h32 _ (H.weaken ⟨by rw [h31]; rfl, rfl, rfl, rfl, rfl, rfl, rfl, trivial⟩)
  ·replace H := H.ch (t := 50) (b := false) rfl h31
   refine s_move H (wantG H rfl rfl) rfl (lt_ rfl) fun a H => s_blt H (wantG H rfl rfl) (H.args (vs := [S27.v]) rfl) (lt_ rfl) (fun cs => b_lenS (z := S27) sl_25) fun a H => s_move H (wantG H rfl rfl) rfl (lt_ rfl) fun a H => s_bin H (wantG H rfl rfl) rfl rfl r_neq (lt_ rfl) fun a H => s_pickF H rfl rfl rfl (lt_ rfl) fun a H => ?_
   exact h32 _ (H.weaken ⟨by rw [h31]; rfl, rfl, rfl, rfl, rfl, rfl, rfl, trivial⟩)
 ·clear H a
  intro a H
  refine c_nil <| hK30 _ _ <| c_cond H rfl (fun h33 => ?_) (fun h33 => ?_)
  ·replace h := h.1 h33
   refine c_seq fun K34 hK34 => c_reg <| s_assign H rfl rfl (lt_ rfl) fun a H => c_nil <| hK34 _ _ <| c_ret ?_
   exact e_ret1 H rfl rfl h
  ·replace h := h.2 h33
   refine c_skip <| hK29 _ _ <| c_seq fun K35 hK35 => c_reg ?_
   iterate 3 refine s_move H rfl rfl (lt_ rfl) fun a H => ?_
   refine s_call H rfl body_8 (H.args (vs := [(.i c19), (.i 0), P5.v]) rfl) (lt_ rfl) h ?_ (fun c w' h H => e_panic (P := PP) (fn := Tryd.f3) H h)
   clear H h a
   rintro _ w36 a ⟨c37, rfl, h⟩ H
   refine s_call H rfl body_7 (H.args (vs := [S27.v, c37.v]) rfl) (lt_ rfl) h ?_ (fun c w' h H => e_panic (P := PP) (fn := Tryd.f3) H h)
   clear H h a
   rintro _ w38 a ⟨p39, rfl, h⟩ H
   refine s_assign H rfl rfl (lt_ rfl) fun a H => c_nil <| hK35 _ _ <| c_seq fun K40 hK40 => ?_
   obtain ⟨R42, h, h199⟩ := h
   have h193 : ∀ (a : Act) (f41 : Slc) (w43 : World), R42 f41 w43 → Has 156 [] a [(6, D4.v), (7, P5.v), (8, (.pointer c18)), (9, (.i c19)), (10, (.i c20)), (11, S27.v), (13, f41.v)] → K40 a w43 := by
    clear h
    intro a f41 w43 h H
    replace h := h199 f41 w43 h
    refine hK40 _ _ <| c_seq fun K44 hK44 => c_seq fun K45 hK45 => c_reg <| s_move H rfl rfl (lt_ rfl) fun a H => s_move H rfl rfl (lt_ rfl) fun a H => s_call H rfl body_9 (H.args (vs := [(.pointer c18), f41.v]) rfl) (lt_ rfl) h ?_ (fun c w' h H => e_panic (P := PP) (fn := Tryd.f3) H h)
    clear H h a
    rintro _ w46 a ⟨J47, J48, rfl, h⟩ H
    refine s_move H rfl rfl (lt_ rfl) fun a H => s_ext H rfl rfl rfl (lt_ rfl) fun a H => s_ext H rfl rfl rfl (lt_ rfl) fun a H => s_assign H rfl rfl (lt_ rfl) fun a H => s_assign H rfl rfl (lt_ rfl) fun a H => c_nil <| hK45 _ _ <| c_seq fun K49 hK49 => c_reg <| s_move H rfl rfl (lt_ rfl) fun a H => s_bin H rfl rfl rfl r_neq (lt_ rfl) fun a H => s_move H rfl rfl (lt_ rfl) fun a H => ?_
    refine g_join (n := 156) [(81, (.bool ((decide (J48 ≠ 20)) || (decide ((J47.l : Int) ≠ 0))))), (6, D4.v), (7, P5.v), (8, (.pointer c18)), (9, (.i c19)), (10, (.i c20)), (11, S27.v)] (.succ (.succ (.succ (.succ (.zero _))))) ?_ ?_
    ·intro h51
     try clear h
     rcases Bool.eq_false_or_eq_true (decide (J48 ≠ 20)) with h50 | h50
     ·replace H := H.ch (t := 77) (b := true) rfl h50
      iterate 3 refine s_skip H (wantN H rfl rfl rfl) rfl (lt_ rfl) fun a H => ?_
      refine s_pickT H rfl rfl rfl (lt_ rfl) fun a H => ?_
      exact h51 _ (H.weaken ⟨by rw [h50]; rfl, rfl, rfl, rfl, rfl, rfl, rfl, trivial⟩)
     ·replace H := H.ch (t := 77) (b := false) rfl h50
      refine s_move H (wantG H rfl rfl) rfl (lt_ rfl) fun a H => s_blt H (wantG H rfl rfl) (H.args (vs := [J47.v]) rfl) (lt_ rfl) (fun cs => b_lenS (z := J47) sl_24) fun a H => s_bin H (wantG H rfl rfl) rfl rfl r_neq (lt_ rfl) fun a H => s_pickF H rfl rfl rfl (lt_ rfl) fun a H => ?_
      exact h51 _ (H.weaken ⟨by rw [h50]; rfl, rfl, rfl, rfl, rfl, rfl, rfl, trivial⟩)
    ·clear H a
     intro a H
     refine c_nil <| hK49 _ _ <| c_cond H rfl (fun h52 => ?_) (fun h52 => ?_)
     ·replace h := h.1 h52
      refine c_seq fun K53 hK53 => c_reg <| s_assign H rfl rfl (lt_ rfl) fun a H => c_nil <| hK53 _ _ <| c_ret ?_
      exact e_ret1 H rfl rfl h
     ·replace h := h.2 h52
      refine c_skip <| hK44 _ _ <| c_seq fun K54 hK54 => c_reg ?_
      iterate 4 refine s_move H rfl rfl (lt_ rfl) fun a H => ?_
      refine s_call H rfl body_8 (H.args (vs := [(.i c19), (.i c20), P5.v]) rfl) (lt_ rfl) h ?_ (fun c w' h H => e_panic (P := PP) (fn := Tryd.f3) H h)
      clear H h a
      rintro _ w55 a ⟨c56, rfl, h⟩ H
      refine s_call H rfl body_7 (H.args (vs := [S27.v, c56.v]) rfl) (lt_ rfl) h ?_ (fun c w' h H => e_panic (P := PP) (fn := Tryd.f3) H h)
      clear H h a
      rintro _ w57 a ⟨p58, rfl, h⟩ H
      refine s_assign H rfl rfl (lt_ rfl) fun a H => c_nil <| hK54 _ _ <| c_seq fun K59 hK59 => c_seq fun K60 hK60 => c_reg <| s_move H rfl rfl (lt_ rfl) fun a H => s_blt H rfl (H.args (vs := [D4.v]) rfl) (lt_ rfl) (fun cs => b_lenS (z := D4) sl_25) fun a H => s_move H rfl rfl (lt_ rfl) fun a H => c_nil <| hK60 _ _ <| c_block ?_
      obtain ⟨I63, m64, h179, h180⟩ := h
      refine c_loop (σ := Int) (fun z w => I63 z w) (fun z w => m64 z w) (fun z => [(8, (.pointer c18)), (9, (.i c19)), (16, p58.v), (88, D4.v), (89, (.i (D4.l : Int))), (90, (.i z))]) 0 h179 (H.weaken ⟨rfl, rfl, rfl, rfl, rfl, rfl, trivial⟩) ?_
      clear H h179
      rintro s61 a w62 h H
      replace h := h180 s61 w62 h
      clear h180
      replace H : Has 156 [] a [(8, (.pointer c18)), (9, (.i c19)), (16, p58.v), (88, D4.v), (89, (.i (D4.l : Int))), (90, (.i s61))] := H
      refine c_seq fun K65 hK65 => c_reg <| s_bin H rfl rfl rfl r_lss (lt_ rfl) fun a H => c_nil <| hK65 _ _ <| c_seq fun K66 hK66 => c_cond H rfl (fun h67 => ?_) (fun h67 => ?_)
      ·replace h := h.1 h67
       refine c_skip <| hK66 _ _ <| c_seq fun K68 hK68 => ?_
       obtain ⟨R69, h, h90⟩ := h
       have h71 : ∀ (a : Act) (w70 : World), R69 w70 → Has 156 [] a [(8, (.pointer c18)), (9, (.i c19)), (16, p58.v), (88, D4.v), (89, (.i (D4.l : Int))), (90, (.i s61))] → K68 a w70 := by
        clear h
        intro a w70 h H
        replace h := h90 w70 h
        refine hK68 _ _ <| c_reg <| s_bin H rfl rfl rfl r_add (lt_ rfl) fun a H => s_move H rfl rfl (lt_ rfl) fun a H => c_nil <| Exists.intro (wr .i64 (s61 + 1)) ⟨h.1, h.2, H.weaken ⟨rfl, rfl, rfl, rfl, rfl, rfl, trivial⟩⟩
       clear h90
       refine c_block <| c_seq fun K72 hK72 => c_reg <| s_move H rfl rfl (lt_ rfl) fun a H => ?_
       obtain ⟨a73, h74, h75, h76, h⟩ := h
       refine s_idxS (s := D4) H rfl rfl rfl slc_25 h74 h75 h76 (lt_ rfl) fun a H => ?_
       obtain ⟨l77, hc78, h⟩ := h
       refine s_load (v := l77.v) H rfl rfl one_24 hc78 (lt_ rfl) fun a H => s_assign H rfl rfl (lt_ rfl) fun a H => s_assign H rfl rfl (lt_ rfl) fun a H => c_nil <| hK72 _ _ <| c_seq fun K79 hK79 => c_reg <| s_move H rfl rfl (lt_ rfl) fun a H => s_move H rfl rfl (lt_ rfl) fun a H => s_blt H rfl (H.args (vs := [p58.v]) rfl) (lt_ rfl) (fun cs => b_lenS (z := p58) sl_35) fun a H => s_bin H rfl rfl rfl r_lss (lt_ rfl) fun a H => s_move H rfl rfl (lt_ rfl) fun a H => ?_
       refine g_join (n := 156) [(103, (.bool ((decide (s61 < (p58.l : Int))) && (decide (0 < (l77.l : Int)))))), (8, (.pointer c18)), (9, (.i c19)), (16, p58.v), (17, (.i s61)), (18, l77.v), (88, D4.v), (89, (.i (D4.l : Int))), (90, (.i s61))] (.succ (.succ (.succ (.succ (.zero _))))) ?_ ?_
       ·intro h81
        try clear h
        rcases Bool.eq_false_or_eq_true (decide (s61 < (p58.l : Int))) with h80 | h80
        ·replace H := H.ch (t := 99) (b := true) rfl h80
         refine s_move H (wantG H rfl rfl) rfl (lt_ rfl) fun a H => s_blt H (wantG H rfl rfl) (H.args (vs := [l77.v]) rfl) (lt_ rfl) (fun cs => b_lenS (z := l77) sl_24) fun a H => s_bin H (wantG H rfl rfl) rfl rfl r_gtr (lt_ rfl) fun a H => s_pickT H rfl rfl rfl (lt_ rfl) fun a H => ?_
         exact h81 _ (H.weaken ⟨by rw [h80]; rfl, rfl, rfl, rfl, rfl, rfl, rfl, rfl, rfl, trivial⟩)
        ·replace H := H.ch (t := 99) (b := false) rfl h80
         iterate 3 refine s_skip H (wantN H rfl rfl rfl) rfl (lt_ rfl) fun a H => ?_
         refine s_pickF H rfl rfl rfl (lt_ rfl) fun a H => ?_
         exact h81 _ (H.weaken ⟨by rw [h80]; rfl, rfl, rfl, rfl, rfl, rfl, rfl, rfl, rfl, trivial⟩)
       ·clear H a
        intro a H
        refine c_nil <| hK79 _ _ <| c_cond H rfl (fun h82 => ?_) (fun h82 => ?_)
        ·replace h := h.1 h82
         refine c_reg ?_
         iterate 3 refine s_move H rfl rfl (lt_ rfl) fun a H => ?_
         obtain ⟨a83, h84, h85, h86, h⟩ := h
         refine s_idxS (s := p58) H rfl rfl rfl slc_35 h84 h85 h86 (lt_ rfl) fun a H => s_fld H rfl rfl fld_41_1 (lt_ rfl) fun a H => ?_
         obtain ⟨h88, h89, h⟩ := h
         refine s_sto (p := (a83.add (Int.toNat (s61) * 2)).add 1) (v := l77.v) H rfl rfl rfl rfl one_24 rfl h88 h89 ?_
         clear H
         intro H
         generalize hww87 : World.setCell w62 ((a83.add (Int.toNat (s61) * 2)).add 1) l77.v = w87 at h ⊢
         have w87S : SetAt w62 ((a83.add (Int.toNat (s61) * 2)).add 1) l77.v w87 := ⟨hww87.symm⟩
         clear hww87 h88 h89
         refine c_nil ?_
         exact h71 _ _ h (H.weaken ⟨rfl, rfl, rfl, rfl, rfl, rfl, trivial⟩)
        ·replace h := h.2 h82
         refine c_skip ?_
         exact h71 _ _ h (H.weaken ⟨rfl, rfl, rfl, rfl, rfl, rfl, trivial⟩)
      ·replace h := h.2 h67
       refine c_exit ?_
       first | (simp only [Exit.then, Exit.inBlock, ↓reduceIte]; fail_if_success simp only [Nat.reduceEqDiff]) | simp only [Exit.then, Exit.inBlock, ↓reduceIte, Nat.reduceEqDiff]
       refine hK59 _ _ <| c_seq fun K91 hK91 => c_reg <| s_move H rfl rfl (lt_ rfl) fun a H => s_move H rfl rfl (lt_ rfl) fun a H => s_call H rfl body_9 (H.args (vs := [(.pointer c18), p58.v]) rfl) (lt_ rfl) h ?_ (fun c w' h H => e_panic (P := PP) (fn := Tryd.f3) H h)
       clear H h a
       rintro _ w92 a ⟨J93, J94, rfl, h⟩ H
       refine s_move H rfl rfl (lt_ rfl) fun a H => s_ext H rfl rfl rfl (lt_ rfl) fun a H => s_ext H rfl rfl rfl (lt_ rfl) fun a H => s_assign H rfl rfl (lt_ rfl) fun a H => s_assign H rfl rfl (lt_ rfl) fun a H => c_nil <| hK91 _ _ <| c_seq fun K95 hK95 => c_seq fun K96 hK96 => c_reg <| s_move H rfl rfl (lt_ rfl) fun a H => s_bin H rfl rfl rfl r_neq (lt_ rfl) fun a H => c_nil <| hK96 _ _ <| c_cond H rfl (fun h97 => ?_) (fun h97 => ?_)
       ·replace h := h.1 h97
        refine c_seq fun K98 hK98 => c_reg <| s_move H rfl rfl (lt_ rfl) fun a H => s_blt H rfl (H.args (vs := [J93.v]) rfl) (lt_ rfl) (fun cs => b_lenS (z := J93) sl_24) fun a H => s_bin H rfl rfl rfl r_eql (lt_ rfl) fun a H => s_move H rfl rfl (lt_ rfl) fun a H => ?_
        obtain ⟨R101, h, h110⟩ := h
        refine g_joinW (n := 156) R101 (fun x102 => [(123, (.bool x102))]) (.succ (.succ (.zero _))) ?_ ?_
        ·intro h100
         clear h110
         rcases Bool.eq_false_or_eq_true (decide ((J93.l : Int) = 0)) with h99 | h99
         ·replace H := H.ch (t := 121) (b := true) rfl h99
          replace h := h.1 h99
          refine s_call H (wantG H rfl rfl) body_10 (H.args (vs := []) rfl) (lt_ rfl) h ?_ (fun c w' h H => e_panic (P := PP) (fn := Tryd.f3) H h)
          clear H h a
          rintro _ w104 a ⟨t105, rfl, h⟩ H
          refine s_pickT H rfl rfl rfl (lt_ rfl) fun a H => ?_
          exact h100 _ _ _ h (H.weaken ⟨rfl, trivial⟩)
         ·replace H := H.ch (t := 121) (b := false) rfl h99
          replace h := h.2 h99
          refine s_skip H (wantN H rfl rfl rfl) rfl (lt_ rfl) fun a H => s_pickF H rfl rfl rfl (lt_ rfl) fun a H => ?_
          exact h100 _ _ _ h (H.weaken ⟨rfl, trivial⟩)
        ·clear H a h
         intro a x102 w103 h H
         replace h := h110 x102 w103 h
         clear h110
         refine s_assign H rfl rfl (lt_ rfl) fun a H => c_nil <| hK98 _ _ <| c_ret ?_
         exact e_ret1 H rfl rfl h
       ·replace h := h.2 h97
        refine c_skip <| hK95 _ _ <| c_seq fun K111 hK111 => c_reg <| s_move H rfl rfl (lt_ rfl) fun a H => s_move H rfl rfl (lt_ rfl) fun a H => s_call H rfl body_6 (H.args (vs := [(.pointer c18), J93.v]) rfl) (lt_ rfl) h ?_ (fun c w' h H => e_panic (P := PP) (fn := Tryd.f3) H h)
        clear H h a
        rintro _ w112 a ⟨S113, S114, rfl, h⟩ H
        refine s_move H rfl rfl (lt_ rfl) fun a H => s_ext H rfl rfl rfl (lt_ rfl) fun a H => s_ext H rfl rfl rfl (lt_ rfl) fun a H => s_assign H rfl rfl (lt_ rfl) fun a H => s_assign H rfl rfl (lt_ rfl) fun a H => c_nil <| hK111 _ _ <| c_seq fun K115 hK115 => c_seq fun K116 hK116 => c_reg <| s_move H rfl rfl (lt_ rfl) fun a H => s_bin H rfl rfl rfl r_neq (lt_ rfl) fun a H => s_move H rfl rfl (lt_ rfl) fun a H => ?_
        refine g_join (n := 156) [(137, (.bool ((decide (S114 ≠ 0)) || (decide ((S113.l : Int) ≠ c19))))), (16, p58.v), (21, S113.v)] (.succ (.succ (.succ (.succ (.succ (.zero _)))))) ?_ ?_
        ·intro h118
         try clear h
         rcases Bool.eq_false_or_eq_true (decide (S114 ≠ 0)) with h117 | h117
         ·replace H := H.ch (t := 132) (b := true) rfl h117
          iterate 4 refine s_skip H (wantN H rfl rfl rfl) rfl (lt_ rfl) fun a H => ?_
          refine s_pickT H rfl rfl rfl (lt_ rfl) fun a H => ?_
          exact h118 _ (H.weaken ⟨by rw [h117]; rfl, rfl, rfl, trivial⟩)
         ·replace H := H.ch (t := 132) (b := false) rfl h117
          refine s_move H (wantG H rfl rfl) rfl (lt_ rfl) fun a H => s_blt H (wantG H rfl rfl) (H.args (vs := [S113.v]) rfl) (lt_ rfl) (fun cs => b_lenS (z := S113) sl_25) fun a H => s_move H (wantG H rfl rfl) rfl (lt_ rfl) fun a H => s_bin H (wantG H rfl rfl) rfl rfl r_neq (lt_ rfl) fun a H => s_pickF H rfl rfl rfl (lt_ rfl) fun a H => ?_
          exact h118 _ (H.weaken ⟨by rw [h117]; rfl, rfl, rfl, trivial⟩)
        ·clear H a
         intro a H
         refine c_nil <| hK116 _ _ <| c_cond H rfl (fun h119 => ?_) (fun h119 => ?_)
         ·replace h := h.1 h119
          refine c_seq fun K120 hK120 => c_reg <| s_assign H rfl rfl (lt_ rfl) fun a H => c_nil <| hK120 _ _ <| c_ret ?_
          exact e_ret1 H rfl rfl h
         ·replace h := h.2 h119
          refine c_skip <| hK115 _ _ <| c_seq fun K121 hK121 => c_seq fun K122 hK122 => c_reg <| s_move H rfl rfl (lt_ rfl) fun a H => s_blt H rfl (H.args (vs := [p58.v]) rfl) (lt_ rfl) (fun cs => b_lenS (z := p58) sl_35) fun a H => s_move H rfl rfl (lt_ rfl) fun a H => c_nil <| hK122 _ _ <| c_block ?_
          obtain ⟨I125, m126, h169, h170⟩ := h
          refine c_loop (σ := Int) (fun z w => I125 z w) (fun z w => m126 z w) (fun z => [(21, S113.v), (138, p58.v), (139, (.i (p58.l : Int))), (140, (.i z))]) 0 h169 (H.weaken ⟨rfl, rfl, rfl, rfl, trivial⟩) ?_
          clear H h169
          rintro s123 a w124 h H
          replace h := h170 s123 w124 h
          clear h170
          replace H : Has 156 [] a [(21, S113.v), (138, p58.v), (139, (.i (p58.l : Int))), (140, (.i s123))] := H
          refine c_seq fun K127 hK127 => c_reg <| s_bin H rfl rfl rfl r_lss (lt_ rfl) fun a H => c_nil <| hK127 _ _ <| c_seq fun K128 hK128 => c_cond H rfl (fun h129 => ?_) (fun h129 => ?_)
          ·replace h := h.1 h129
           refine c_skip <| hK128 _ _ <| c_seq fun K130 hK130 => c_block <| c_seq fun K131 hK131 => c_reg ?_
           obtain ⟨a132, h133, h134, h135, h⟩ := h
           refine s_idxS (s := p58) H rfl rfl rfl slc_35 h133 h134 h135 (lt_ rfl) fun a H => ?_
           obtain ⟨I136, hc137, D138, hc139, h⟩ := h
           refine s_loadN (l := [(.i I136), D138.v]) H rfl rfl agg_41 rfl ⟨hc137, hc139, trivial⟩ (lt_ rfl) fun a H => ?_
           replace h := h.get
           obtain ⟨b140, w141, n142, h⟩ := h
           refine s_alloc H rfl zero_41 (lt_ rfl) ?_
           rw [← n142.at_]
           clear H a
           intro a H
           refine n142.go <| s_stoN (l := [(.i I136), D138.v]) H rfl rfl rfl rfl agg_41 rfl rfl h ?_
           clear h H
           intro w143 h H
           refine c_nil <| hK131 _ _ <| c_seq fun K144 hK144 => c_regD mixed (by kernel_rfl) <| z_move H rfl rfl (lt_ rfl) fun a H => z_fld H rfl rfl fld_41_0 (lt_ rfl) fun a H => ?_
           obtain ⟨l146, hc147, h⟩ := h
           refine z_load (v := (.i l146)) H rfl rfl one_3 hc147 (lt_ rfl) fun a H => ?_
           obtain ⟨a148, h149, h150, h151, h⟩ := h
           refine z_idxS (s := S113) H rfl rfl rfl slc_25 h149 h150 h151 (lt_ rfl) fun a H => ?_
           obtain ⟨l152, hc153, h⟩ := h
           refine z_load (v := l152.v) H rfl rfl one_24 hc153 (lt_ rfl) fun a H => ?_
           obtain ⟨s154, h155, h⟩ := h
           refine z_cvD H rfl rfl h155 (lt_ rfl) ?_
           clear H a h155
           intro a H
           refine z_fld H rfl rfl fld_41_1 (lt_ rfl) fun a H => ?_
           obtain ⟨l156, hc157, h⟩ := h
           refine z_load (v := l156.v) H rfl rfl one_24 hc157 (lt_ rfl) fun a H => ?_
           obtain ⟨s158, h159, h⟩ := h
           refine z_cvD H rfl rfl h159 (lt_ rfl) ?_
           clear H a h159
           intro a H
           refine z_bin H rfl rfl rfl r_neqS (lt_ rfl) fun a H => wpQuiet_nil ?_
           rintro _ ⟨k145, rfl⟩
           replace h := h k145
           refine hK144 _ _ <| c_cond H rfl (fun h160 => ?_) (fun h160 => ?_)
           ·replace h := h.1 h160
            refine c_seq fun K161 hK161 => c_reg <| s_assign H rfl rfl (lt_ rfl) fun a H => c_nil <| hK161 _ _ <| c_ret ?_
            exact e_ret1 H rfl rfl h
           ·replace h := h.2 h160
            refine c_skip <| hK130 _ _ <| c_reg <| s_bin H rfl rfl rfl r_add (lt_ rfl) fun a H => s_move H rfl rfl (lt_ rfl) fun a H => c_nil <| Exists.intro (wr .i64 (s123 + 1)) ⟨h.1, h.2, H.weaken ⟨rfl, rfl, rfl, rfl, trivial⟩⟩
          ·replace h := h.2 h129
           refine c_exit ?_
           first | (simp only [Exit.then, Exit.inBlock, ↓reduceIte]; fail_if_success simp only [Nat.reduceEqDiff]) | simp only [Exit.then, Exit.inBlock, ↓reduceIte, Nat.reduceEqDiff]
           refine hK121 _ _ <| c_seq fun K162 hK162 => c_reg <| s_call H rfl body_10 (H.args (vs := []) rfl) (lt_ rfl) h ?_ (fun c w' h H => e_panic (P := PP) (fn := Tryd.f3) H h)
           clear H h a
           rintro _ w163 a ⟨t164, rfl, h⟩ H
           refine s_assign H rfl rfl (lt_ rfl) fun a H => c_nil <| hK162 _ _ <| c_ret ?_
           exact e_ret1 H rfl rfl h
   clear h199
   refine c_seq fun K194 hK194 => c_reg <| s_move H rfl rfl (lt_ rfl) fun a H => s_blt H rfl (H.args (vs := [p39.v]) rfl) (lt_ rfl) (fun cs => b_lenS (z := p39) sl_35) fun a H => s_move H rfl rfl (lt_ rfl) fun a H => s_bin H rfl rfl rfl r_geq (lt_ rfl) fun a H => c_nil <| hK194 _ _ <| c_cond H rfl (fun h195 => ?_) (fun h195 => ?_)
   ·replace h := h.1 h195
    refine c_reg <| s_move H rfl rfl (lt_ rfl) fun a H => s_move H rfl rfl (lt_ rfl) fun a H => s_bin H rfl rfl rfl r_sub (lt_ rfl) fun a H => ?_
    obtain ⟨h196, h197, h198, h⟩ := h
    refine s_slice (v := (Slc.v (p39.cut 2 (Int.toNat (0)) (Int.toNat (wr .i64 (c20 - 1)))))) H rfl rfl ⟨rfl, rfl⟩ ⟨rfl, rfl⟩ ⟨rfl, rfl⟩ (r_sliceSlc (lo := none) (hi := (some (.i64, wr .i64 (c20 - 1)))) slc_35 rfl rfl h196 h197 h198) (lt_ rfl) fun a H => s_assign H rfl rfl (lt_ rfl) fun a H => c_nil ?_
    exact h193 _ _ _ h (H.weaken ⟨rfl, rfl, rfl, rfl, rfl, rfl, rfl, trivial⟩)
   ·replace h := h.2 h195
    refine c_skip ?_
    exact h193 _ _ _ h (H.weaken ⟨rfl, rfl, rfl, rfl, rfl, rfl, rfl, trivial⟩)

theorem sim_sherdlaw05_StripeWhole (N1 K2 : Int) (v3 p4 : Slc) (w : World) (Q : Ending → World → Prop) (h : vc_sherdlaw05_StripeWhole N1 K2 v3 p4 w Q) : Calls PP F_sherdlaw05_StripeWhole #[(.agg #[(.i N1), (.i K2)]), v3.v, p4.v] w Q := by
 unfold vc_sherdlaw05_StripeWhole at h
 refine enter (n := 204) Tryd.func4 rfl rfl (Nat.le_of_ble_eq_true rfl) fun a H => c_seq fun K5 hK5 => c_reg ?_
 replace h := h.get
 obtain ⟨b6, w7, n8, h⟩ := h
 refine s_box H rfl rfl (lt_ rfl) ?_
 rw [← n8.at_]
 clear H a
 intro a H
 refine n8.go <| s_assign H rfl rfl (lt_ rfl) fun a H => c_nil <| hK5 _ _ <| c_seq fun K9 hK9 => c_reg <| s_loadN (l := [(.i N1), (.i K2)]) H rfl rfl agg_23 rfl ⟨(n8.cell (i := 0) rfl), (n8.cell (i := 1) rfl), trivial⟩ (lt_ rfl) fun a H => s_call H rfl body_5 (H.args (vs := [(.agg #[(.i N1), (.i K2)])]) rfl) (lt_ rfl) h ?_ (fun c w' h H => e_panic (P := PP) (fn := Tryd.f4) H h)
 clear H h a
 rintro _ w10 a ⟨c11, c12, c13, rfl, h⟩ H
 refine s_move H rfl rfl (lt_ rfl) fun a H => ?_
 iterate 3 refine s_ext H rfl rfl rfl (lt_ rfl) fun a H => ?_
 iterate 3 refine s_assign H rfl rfl (lt_ rfl) fun a H => ?_
 refine c_nil <| hK9 _ _ <| c_seq fun K14 hK14 => c_reg <| s_move H rfl rfl (lt_ rfl) fun a H => s_move H rfl rfl (lt_ rfl) fun a H => s_blt H rfl (H.args (vs := [v3.v]) rfl) (lt_ rfl) (fun cs => b_lenS (z := v3) sl_24) fun a H => s_blt H rfl (H.args (vs := [(.i (v3.l : Int)), (.i 65536)]) rfl) (lt_ rfl) (fun cs => b_min) fun a H => ?_
 obtain ⟨h15, h16, h17, h⟩ := h
 refine s_slice (v := (Slc.v (v3.cut 1 (Int.toNat (0)) (Int.toNat (minI (v3.l : Int) 65536))))) H rfl rfl ⟨rfl, rfl⟩ ⟨rfl, rfl⟩ ⟨rfl, rfl⟩ (r_sliceSlc (lo := none) (hi := (some (.i64, minI (v3.l : Int) 65536))) slc_24 rfl rfl h15 h16 h17) (lt_ rfl) fun a H => s_assign H rfl rfl (lt_ rfl) fun a H => c_nil <| hK14 _ _ <| c_seq fun K18 hK18 => c_reg <| s_move H rfl rfl (lt_ rfl) fun a H => s_move H rfl rfl (lt_ rfl) fun a H => ?_
 refine s_call H rfl body_6 (H.args (vs := [(.pointer c11), (Slc.v (v3.cut 1 (Int.toNat (0)) (Int.toNat (minI (v3.l : Int) 65536))))]) rfl) (lt_ rfl) h ?_ (fun c w' h H => e_panic (P := PP) (fn := Tryd.f4) H h)
 clear H h a
 rintro _ w19 a ⟨S20, S21, rfl, h⟩ H
 refine s_move H rfl rfl (lt_ rfl) fun a H => s_ext H rfl rfl rfl (lt_ rfl) fun a H => s_ext H rfl rfl rfl (lt_ rfl) fun a H => s_assign H rfl rfl (lt_ rfl) fun a H => s_assign H rfl rfl (lt_ rfl) fun a H => c_nil <| hK18 _ _ <| c_seq fun K22 hK22 => c_seq fun K23 hK23 => c_reg <| s_move H rfl rfl (lt_ rfl) fun a H => s_bin H rfl rfl rfl r_neq (lt_ rfl) fun a H => s_move H rfl rfl (lt_ rfl) fun a H => ?_
 refine g_join (n := 204) [(48, (.bool ((decide (S21 ≠ 0)) || (decide ((S20.l : Int) ≠ c12))))), (1, (Slc.v (v3.cut 1 (Int.toNat (0)) (Int.toNat (minI (v3.l : Int) 65536))))), (2, p4.v), (7, (.pointer c11)), (8, (.i c12)), (9, (.i c13)), (10, S20.v)] (.succ (.succ (.succ (.succ (.succ (.zero _)))))) ?_ ?_
 ·intro h25
  try clear h
  rcases Bool.eq_false_or_eq_true (decide (S21 ≠ 0)) with h24 | h24
  ·replace H := H.ch (t := 43) (b := true) rfl h24
   iterate 4 refine s_skip H (wantN H rfl rfl rfl) rfl (lt_ rfl) fun a H => ?_
   refine s_pickT H rfl rfl rfl (lt_ rfl) fun a H => ?_
   exact h25 _ (H.weaken ⟨by rw [h24]; rfl, rfl, rfl, rfl, rfl, rfl, rfl, trivial⟩)
  ·replace H := H.ch (t := 43) (b := false) rfl h24
   refine s_move H (wantG H rfl rfl) rfl (lt_ rfl) fun a H => s_blt H (wantG H rfl rfl) (H.args (vs := [S20.v]) rfl) (lt_ rfl) (fun cs => b_lenS (z := S20) sl_25) fun a H => s_move H (wantG H rfl rfl) rfl (lt_ rfl) fun a H => s_bin H (wantG H rfl rfl) rfl rfl r_neq (lt_ rfl) fun a H => s_pickF H rfl rfl rfl (lt_ rfl) fun a H => ?_
   exact h25 _ (H.weaken ⟨by rw [h24]; rfl, rfl, rfl, rfl, rfl, rfl, rfl, trivial⟩)
 ·clear H a
  intro a H
  refine c_nil <| hK23 _ _ <| c_cond H rfl (fun h26 => ?_) (fun h26 => ?_)
  ·replace h := h.1 h26
   refine c_seq fun K27 hK27 => c_reg <| s_assign H rfl rfl (lt_ rfl) fun a H => c_nil <| hK27 _ _ <| c_ret ?_
   exact e_ret1 H rfl rfl h
  ·replace h := h.2 h26
   refine c_skip <| hK22 _ _ <| c_seq fun K28 hK28 => c_reg <| s_move H rfl rfl (lt_ rfl) fun a H => s_blt H rfl (H.args (vs := [(Slc.v (v3.cut 1 (Int.toNat (0)) (Int.toNat (minI (v3.l : Int) 65536))))]) rfl) (lt_ rfl) (fun cs => b_lenS (z := v3.cut 1 (Int.toNat (0)) (Int.toNat (minI (v3.l : Int) 65536))) sl_24) fun a H => s_bin H rfl rfl rfl r_add (lt_ rfl) fun a H => s_move H rfl rfl (lt_ rfl) fun a H => s_bin H rfl rfl rfl r_add (lt_ rfl) fun a H => ?_
   refine s_bin H rfl rfl rfl r_sub (lt_ rfl) fun a H => s_move H rfl rfl (lt_ rfl) fun a H => ?_
   obtain ⟨h29, h⟩ := h
   refine s_bin H rfl rfl rfl (r_quo h29) (lt_ rfl) fun a H => s_assign H rfl rfl (lt_ rfl) fun a H => c_nil <| hK28 _ _ <| c_seq fun K30 hK30 => c_reg <| s_move H rfl rfl (lt_ rfl) fun a H => s_blt H rfl (H.args (vs := [(Slc.v (v3.cut 1 (Int.toNat (0)) (Int.toNat (minI (v3.l : Int) 65536))))]) rfl) (lt_ rfl) (fun cs => b_lenS (z := v3.cut 1 (Int.toNat (0)) (Int.toNat (minI (v3.l : Int) 65536))) sl_24) fun a H => s_move H rfl rfl (lt_ rfl) fun a H => ?_
   refine s_call H rfl body_11 (H.args (vs := [(.i ((v3.cut 1 (Int.toNat (0)) (Int.toNat (minI (v3.l : Int) 65536))).l : Int)), (.i c13)]) rfl) (lt_ rfl) h ?_ (fun c w' h H => e_panic (P := PP) (fn := Tryd.f4) H h)
   clear H h a
   rintro _ w31 a ⟨S32, S33, rfl, h⟩ H
   refine s_move H rfl rfl (lt_ rfl) fun a H => s_ext H rfl rfl rfl (lt_ rfl) fun a H => s_ext H rfl rfl rfl (lt_ rfl) fun a H => s_assign H rfl rfl (lt_ rfl) fun a H => s_assign H rfl rfl (lt_ rfl) fun a H => c_nil <| hK30 _ _ <| c_seq fun K34 hK34 => c_reg <| s_assign H rfl rfl (lt_ rfl) fun a H => c_nil <| hK34 _ _ <| c_seq fun K35 hK35 => c_seq fun K36 hK36 => c_reg <| s_move H rfl rfl (lt_ rfl) fun a H => ?_
   refine s_blt H rfl (H.args (vs := [S20.v]) rfl) (lt_ rfl) (fun cs => b_lenS (z := S20) sl_25) fun a H => s_move H rfl rfl (lt_ rfl) fun a H => c_nil <| hK36 _ _ <| c_block ?_
   obtain ⟨I40, m41, h220, h221⟩ := h
   refine c_loop (σ := Slc × Int) (fun z w => I40 z.1 z.2 w) (fun z w => m41 z.1 z.2 w) (fun z => [(1, (Slc.v (v3.cut 1 (Int.toNat (0)) (Int.toNat (minI (v3.l : Int) 65536))))), (2, p4.v), (7, (.pointer c11)), (8, (.i c12)), (9, (.i c13)), (10, S20.v), (12, (.i (wr .i64 ((wr .i64 ((wr .i64 ((wr .i64 (((v3.cut 1 (Int.toNat (0)) (Int.toNat (minI (v3.l : Int) 65536))).l : Int) + 4)) + c13)) - 1)).tdiv c13)))), (13, (.i S32)), (14, (.i S33)), (15, z.1.v), (65, (.i (S20.l : Int))), (66, (.i z.2))]) (Slc.nil, 0) h220 (H.weaken ⟨rfl, rfl, rfl, rfl, rfl, rfl, rfl, rfl, rfl, rfl, rfl, rfl, trivial⟩) ?_
   clear H h220
   rintro ⟨a37, s38⟩ a w39 h H
   replace h := h221 a37 s38 w39 h
   clear h221
   replace H : Has 204 [] a [(1, (Slc.v (v3.cut 1 (Int.toNat (0)) (Int.toNat (minI (v3.l : Int) 65536))))), (2, p4.v), (7, (.pointer c11)), (8, (.i c12)), (9, (.i c13)), (10, S20.v), (12, (.i (wr .i64 ((wr .i64 ((wr .i64 ((wr .i64 (((v3.cut 1 (Int.toNat (0)) (Int.toNat (minI (v3.l : Int) 65536))).l : Int) + 4)) + c13)) - 1)).tdiv c13)))), (13, (.i S32)), (14, (.i S33)), (15, a37.v), (65, (.i (S20.l : Int))), (66, (.i s38))] := H
   refine c_seq fun K42 hK42 => c_reg <| s_bin H rfl rfl rfl r_lss (lt_ rfl) fun a H => c_nil <| hK42 _ _ <| c_seq fun K43 hK43 => c_cond H rfl (fun h44 => ?_) (fun h44 => ?_)
   ·replace h := h.1 h44
    refine c_skip <| hK43 _ _ <| c_seq fun K45 hK45 => ?_
    obtain ⟨R47, h, h101⟩ := h
    have h49 : ∀ (a : Act) (a46 : Slc) (w48 : World), R47 a46 w48 → Has 204 [] a [(1, (Slc.v (v3.cut 1 (Int.toNat (0)) (Int.toNat (minI (v3.l : Int) 65536))))), (2, p4.v), (7, (.pointer c11)), (8, (.i c12)), (9, (.i c13)), (10, S20.v), (12, (.i (wr .i64 ((wr .i64 ((wr .i64 ((wr .i64 (((v3.cut 1 (Int.toNat (0)) (Int.toNat (minI (v3.l : Int) 65536))).l : Int) + 4)) + c13)) - 1)).tdiv c13)))), (13, (.i S32)), (14, (.i S33)), (15, a46.v), (65, (.i (S20.l : Int))), (66, (.i s38))] → K45 a w48 := by
     clear h
     intro a a46 w48 h H
     replace h := h101 a46 w48 h
     refine hK45 _ _ <| c_reg <| s_bin H rfl rfl rfl r_add (lt_ rfl) fun a H => s_move H rfl rfl (lt_ rfl) fun a H => c_nil <| Exists.intro (a46, wr .i64 (s38 + 1)) ⟨h.1, h.2, H.weaken ⟨rfl, rfl, rfl, rfl, rfl, rfl, rfl, rfl, rfl, rfl, rfl, rfl, trivial⟩⟩
    clear h101
    refine c_block <| c_seq fun K50 hK50 => c_reg <| s_move H rfl rfl (lt_ rfl) fun a H => s_assign H rfl rfl (lt_ rfl) fun a H => c_nil <| hK50 _ _ <| c_seq fun K51 hK51 => c_reg ?_
    iterate 3 refine s_move H rfl rfl (lt_ rfl) fun a H => ?_
    refine s_call H rfl body_12 (H.args (vs := [(.pointer c11), (Slc.v (v3.cut 1 (Int.toNat (0)) (Int.toNat (minI (v3.l : Int) 65536)))), (.i s38)]) rfl) (lt_ rfl) h ?_ (fun c w' h H => e_panic (P := PP) (fn := Tryd.f4) H h)
    clear H h a
    rintro _ w52 a ⟨C53, C54, rfl, h⟩ H
    refine s_move H rfl rfl (lt_ rfl) fun a H => s_ext H rfl rfl rfl (lt_ rfl) fun a H => s_ext H rfl rfl rfl (lt_ rfl) fun a H => s_assign H rfl rfl (lt_ rfl) fun a H => s_assign H rfl rfl (lt_ rfl) fun a H => c_nil <| hK51 _ _ <| c_seq fun K55 hK55 => c_seq fun K56 hK56 => c_regD mixed (by kernel_rfl) <| z_move H rfl rfl (lt_ rfl) fun a H => z_bin H rfl rfl rfl r_neq (lt_ rfl) fun a H => z_move H rfl rfl (lt_ rfl) fun a H => ?_
    obtain ⟨x66, h67, h68, h⟩ := h
    refine zg_join (n := 204) [(86, (.bool x66)), (1, (Slc.v (v3.cut 1 (Int.toNat (0)) (Int.toNat (minI (v3.l : Int) 65536))))), (2, p4.v), (7, (.pointer c11)), (8, (.i c12)), (9, (.i c13)), (10, S20.v), (12, (.i (wr .i64 ((wr .i64 ((wr .i64 ((wr .i64 (((v3.cut 1 (Int.toNat (0)) (Int.toNat (minI (v3.l : Int) 65536))).l : Int) + 4)) + c13)) - 1)).tdiv c13)))), (13, (.i S32)), (14, (.i S33)), (15, a37.v), (16, (.i s38)), (17, C53.v), (65, (.i (S20.l : Int))), (66, (.i s38))] (.succ (.succ (.succ (.succ (.succ (.succ (.succ (.succ (.zero _))))))))) ?_ ?_
    ·intro h59
     try clear h
     rcases Bool.eq_false_or_eq_true (decide (C54 ≠ 0)) with h58 | h58
     ·replace H := H.ch (t := 78) (b := true) rfl h58
      iterate 7 refine z_skip H (wantN H rfl rfl rfl) rfl (lt_ rfl) fun a H => ?_
      refine z_pickT H rfl rfl rfl (lt_ rfl) fun a H => ?_
      replace h := h68 h58
      subst h
      exact h59 _ (H.weaken ⟨rfl, rfl, rfl, rfl, rfl, rfl, rfl, rfl, rfl, rfl, rfl, rfl, rfl, rfl, rfl, trivial⟩)
     ·replace H := H.ch (t := 78) (b := false) rfl h58
      replace h := h67 h58
      refine z_move H (wantG H rfl rfl) rfl (lt_ rfl) fun a H => z_move H (wantG H rfl rfl) rfl (lt_ rfl) fun a H => ?_
      obtain ⟨a60, h61, h62, h63, h⟩ := h
      refine z_idxS (s := S20) H (wantG H rfl rfl) rfl rfl slc_25 h61 h62 h63 (lt_ rfl) fun a H => ?_
      obtain ⟨l64, hc65, h⟩ := h
      refine z_load (v := l64.v) H (wantG H rfl rfl) rfl one_24 hc65 (lt_ rfl) fun a H => z_blt H (wantG H rfl rfl) (H.args (vs := [l64.v]) rfl) (lt_ rfl) (fun cs w => b_lenS (z := l64) sl_24) fun a H => z_move H (wantG H rfl rfl) rfl (lt_ rfl) fun a H => z_bin H (wantG H rfl rfl) rfl rfl r_neq (lt_ rfl) fun a H => z_pickF H rfl rfl rfl (lt_ rfl) fun a H => ?_
      subst h
      exact h59 _ (H.weaken ⟨rfl, rfl, rfl, rfl, rfl, rfl, rfl, rfl, rfl, rfl, rfl, rfl, rfl, rfl, rfl, trivial⟩)
    ·clear H a
     clear h67 h68
     intro a H
     refine z_move H rfl rfl (lt_ rfl) fun a H => ?_
     obtain ⟨x81, h82, h83, h⟩ := h
     refine zg_join (n := 204) [(96, (.bool x81)), (1, (Slc.v (v3.cut 1 (Int.toNat (0)) (Int.toNat (minI (v3.l : Int) 65536))))), (2, p4.v), (7, (.pointer c11)), (8, (.i c12)), (9, (.i c13)), (10, S20.v), (12, (.i (wr .i64 ((wr .i64 ((wr .i64 ((wr .i64 (((v3.cut 1 (Int.toNat (0)) (Int.toNat (minI (v3.l : Int) 65536))).l : Int) + 4)) + c13)) - 1)).tdiv c13)))), (13, (.i S32)), (14, (.i S33)), (15, a37.v), (16, (.i s38)), (65, (.i (S20.l : Int))), (66, (.i s38))] (.succ (.succ (.succ (.succ (.succ (.succ (.succ (.succ (.succ (.zero _)))))))))) ?_ ?_
     ·intro h70
      try clear h
      rcases Bool.eq_false_or_eq_true x66 with h69 | h69
      ·replace H := H.ch (t := 87) (b := true) rfl h69
       iterate 8 refine z_skip H (wantN H rfl rfl rfl) rfl (lt_ rfl) fun a H => ?_
       refine z_pickT H rfl rfl rfl (lt_ rfl) fun a H => ?_
       replace h := h83 h69
       subst h
       exact h70 _ (H.weaken ⟨rfl, rfl, rfl, rfl, rfl, rfl, rfl, rfl, rfl, rfl, rfl, rfl, rfl, rfl, trivial⟩)
      ·replace H := H.ch (t := 87) (b := false) rfl h69
       replace h := h82 h69
       refine z_move H (wantG H rfl rfl) rfl (lt_ rfl) fun a H => ?_
       obtain ⟨s71, h72, h⟩ := h
       refine z_cvD H (wantG H rfl rfl) rfl h72 (lt_ rfl) ?_
       clear H a h72
       intro a H
       refine z_move H (wantG H rfl rfl) rfl (lt_ rfl) fun a H => z_move H (wantG H rfl rfl) rfl (lt_ rfl) fun a H => ?_
       obtain ⟨a73, h74, h75, h76, h⟩ := h
       refine z_idxS (s := S20) H (wantG H rfl rfl) rfl rfl slc_25 h74 h75 h76 (lt_ rfl) fun a H => ?_
       obtain ⟨l77, hc78, h⟩ := h
       refine z_load (v := l77.v) H (wantG H rfl rfl) rfl one_24 hc78 (lt_ rfl) fun a H => ?_
       obtain ⟨s79, h80, h⟩ := h
       refine z_cvD H (wantG H rfl rfl) rfl h80 (lt_ rfl) ?_
       clear H a h80
       intro a H
       refine z_bin H (wantG H rfl rfl) rfl rfl r_neqS (lt_ rfl) fun a H => z_pickF H rfl rfl rfl (lt_ rfl) fun a H => ?_
       subst h
       exact h70 _ (H.weaken ⟨rfl, rfl, rfl, rfl, rfl, rfl, rfl, rfl, rfl, rfl, rfl, rfl, rfl, rfl, trivial⟩)
     ·clear H a
      clear h82 h83
      intro a H
      refine wpQuiet_nil ?_
      rintro _ ⟨k57, rfl⟩
      replace h := h k57
      refine hK56 _ _ <| c_cond H rfl (fun h84 => ?_) (fun h84 => ?_)
      ·replace h := h.1 h84
       refine c_seq fun K85 hK85 => c_reg <| s_assign H rfl rfl (lt_ rfl) fun a H => c_nil <| hK85 _ _ <| c_ret ?_
       exact e_ret1 H rfl rfl h
      ·replace h := h.2 h84
       refine c_skip <| hK55 _ _ <| c_seq fun K86 hK86 => c_reg <| s_move H rfl rfl (lt_ rfl) fun a H => s_move H rfl rfl (lt_ rfl) fun a H => s_bin H rfl rfl rfl r_lss (lt_ rfl) fun a H => c_nil <| hK86 _ _ <| c_cond H rfl (fun h87 => ?_) (fun h87 => ?_)
       ·replace h := h.1 h87
        refine c_reg ?_
        iterate 3 refine s_move H rfl rfl (lt_ rfl) fun a H => ?_
        obtain ⟨a88, h89, h90, h91, h⟩ := h
        refine s_idxS (s := S20) H rfl rfl rfl slc_25 h89 h90 h91 (lt_ rfl) fun a H => ?_
        obtain ⟨l92, hc93, h⟩ := h
        refine s_load (v := l92.v) H rfl rfl one_24 hc93 (lt_ rfl) fun a H => ?_
        obtain ⟨s94, w95, h96, h⟩ := h
        refine s_blt H rfl (H.args (vs := [a37.v, l92.v]) rfl) (lt_ rfl) (fun cs => b_app (z := s94) h96) ?_
        clear H a h96
        intro a H
        refine s_assign H rfl rfl (lt_ rfl) fun a H => c_nil ?_
        exact h49 _ _ _ h (H.weaken ⟨rfl, rfl, rfl, rfl, rfl, rfl, rfl, rfl, rfl, rfl, rfl, rfl, trivial⟩)
       ·replace h := h.2 h87
        refine c_skip ?_
        exact h49 _ _ _ h (H.weaken ⟨rfl, rfl, rfl, rfl, rfl, rfl, rfl, rfl, rfl, rfl, rfl, rfl, trivial⟩)
   ·replace h := h.2 h44
    refine c_exit ?_
    first | (simp only [Exit.then, Exit.inBlock, ↓reduceIte]; fail_if_success simp only [Nat.reduceEqDiff]) | simp only [Exit.then, Exit.inBlock, ↓reduceIte, Nat.reduceEqDiff]
    refine hK35 _ _ <| c_seq fun K102 hK102 => c_seq fun K103 hK103 => c_reg <| s_move H rfl rfl (lt_ rfl) fun a H => s_bin H rfl rfl rfl r_neq (lt_ rfl) fun a H => s_move H rfl rfl (lt_ rfl) fun a H => ?_
    refine g_join (n := 204) [(113, (.bool ((decide (S33 ≠ 0)) || (decide (S32 ≠ (wr .i64 ((wr .i64 ((wr .i64 ((wr .i64 (((v3.cut 1 (Int.toNat (0)) (Int.toNat (minI (v3.l : Int) 65536))).l : Int) + 4)) + c13)) - 1)).tdiv c13))))))), (1, (Slc.v (v3.cut 1 (Int.toNat (0)) (Int.toNat (minI (v3.l : Int) 65536))))), (2, p4.v), (7, (.pointer c11)), (8, (.i c12)), (9, (.i c13)), (10, S20.v), (12, (.i (wr .i64 ((wr .i64 ((wr .i64 ((wr .i64 (((v3.cut 1 (Int.toNat (0)) (Int.toNat (minI (v3.l : Int) 65536))).l : Int) + 4)) + c13)) - 1)).tdiv c13)))), (15, a37.v)] (.succ (.succ (.succ (.succ (.zero _))))) ?_ ?_
    ·intro h105
     try clear h
     rcases Bool.eq_false_or_eq_true (decide (S33 ≠ 0)) with h104 | h104
     ·replace H := H.ch (t := 109) (b := true) rfl h104
      iterate 3 refine s_skip H (wantN H rfl rfl rfl) rfl (lt_ rfl) fun a H => ?_
      refine s_pickT H rfl rfl rfl (lt_ rfl) fun a H => ?_
      exact h105 _ (H.weaken ⟨by rw [h104]; rfl, rfl, rfl, rfl, rfl, rfl, rfl, rfl, rfl, trivial⟩)
     ·replace H := H.ch (t := 109) (b := false) rfl h104
      refine s_move H (wantG H rfl rfl) rfl (lt_ rfl) fun a H => s_move H (wantG H rfl rfl) rfl (lt_ rfl) fun a H => s_bin H (wantG H rfl rfl) rfl rfl r_neq (lt_ rfl) fun a H => s_pickF H rfl rfl rfl (lt_ rfl) fun a H => ?_
      exact h105 _ (H.weaken ⟨by rw [h104]; rfl, rfl, rfl, rfl, rfl, rfl, rfl, rfl, rfl, trivial⟩)
    ·clear H a
     intro a H
     refine s_move H rfl rfl (lt_ rfl) fun a H => ?_
     refine g_join (n := 204) [(121, (.bool (((decide (S33 ≠ 0)) || (decide (S32 ≠ (wr .i64 ((wr .i64 ((wr .i64 ((wr .i64 (((v3.cut 1 (Int.toNat (0)) (Int.toNat (minI (v3.l : Int) 65536))).l : Int) + 4)) + c13)) - 1)).tdiv c13))))) || (decide ((a37.l : Int) ≠ (wr .i64 ((wr .i64 ((wr .i64 ((wr .i64 ((wr .i64 (((v3.cut 1 (Int.toNat (0)) (Int.toNat (minI (v3.l : Int) 65536))).l : Int) + 4)) + c13)) - 1)).tdiv c13)) * c13))))))), (1, (Slc.v (v3.cut 1 (Int.toNat (0)) (Int.toNat (minI (v3.l : Int) 65536))))), (2, p4.v), (7, (.pointer c11)), (8, (.i c12)), (9, (.i c13)), (10, S20.v), (15, a37.v)] (.succ (.succ (.succ (.succ (.succ (.succ (.succ (.zero _)))))))) ?_ ?_
     ·intro h107
      try clear h
      rcases Bool.eq_false_or_eq_true ((decide (S33 ≠ 0)) || (decide (S32 ≠ (wr .i64 ((wr .i64 ((wr .i64 ((wr .i64 (((v3.cut 1 (Int.toNat (0)) (Int.toNat (minI (v3.l : Int) 65536))).l : Int) + 4)) + c13)) - 1)).tdiv c13))))) with h106 | h106
      ·replace H := H.ch (t := 114) (b := true) rfl h106
       iterate 6 refine s_skip H (wantN H rfl rfl rfl) rfl (lt_ rfl) fun a H => ?_
       refine s_pickT H rfl rfl rfl (lt_ rfl) fun a H => ?_
       exact h107 _ (H.weaken ⟨by rw [h106]; rfl, rfl, rfl, rfl, rfl, rfl, rfl, rfl, trivial⟩)
      ·replace H := H.ch (t := 114) (b := false) rfl h106
       refine s_move H (wantG H rfl rfl) rfl (lt_ rfl) fun a H => s_blt H (wantG H rfl rfl) (H.args (vs := [a37.v]) rfl) (lt_ rfl) (fun cs => b_lenS (z := a37) sl_24) fun a H => s_move H (wantG H rfl rfl) rfl (lt_ rfl) fun a H => s_move H (wantG H rfl rfl) rfl (lt_ rfl) fun a H => s_bin H (wantG H rfl rfl) rfl rfl r_mul (lt_ rfl) fun a H => s_bin H (wantG H rfl rfl) rfl rfl r_neq (lt_ rfl) fun a H => s_pickF H rfl rfl rfl (lt_ rfl) fun a H => ?_
       exact h107 _ (H.weaken ⟨by rw [h106]; rfl, rfl, rfl, rfl, rfl, rfl, rfl, rfl, trivial⟩)
     ·clear H a
      intro a H
      refine c_nil <| hK103 _ _ <| c_cond H rfl (fun h108 => ?_) (fun h108 => ?_)
      ·replace h := h.1 h108
       refine c_seq fun K109 hK109 => c_reg <| s_assign H rfl rfl (lt_ rfl) fun a H => c_nil <| hK109 _ _ <| c_ret ?_
       exact e_ret1 H rfl rfl h
      ·replace h := h.2 h108
       refine c_skip <| hK102 _ _ <| c_seq fun K110 hK110 => c_regD mixed (by kernel_rfl) <| z_move H rfl rfl (lt_ rfl) fun a H => ?_
       obtain ⟨a112, h113, h114, h115, h⟩ := h
       refine z_idxS (s := a37) H rfl rfl rfl slc_24 h113 h114 h115 (lt_ rfl) fun a H => ?_
       obtain ⟨l116, hc117, h⟩ := h
       refine z_load (v := (.int .u8 l116)) H rfl rfl one_5 hc117 (lt_ rfl) fun a H => z_cv H rfl rfl (fun w => r_cvI some_5 int_3) (lt_ rfl) fun a H => z_move H rfl rfl (lt_ rfl) fun a H => ?_
       obtain ⟨a118, h119, h120, h121, h⟩ := h
       refine z_idxS (s := a37) H rfl rfl rfl slc_24 h119 h120 h121 (lt_ rfl) fun a H => ?_
       obtain ⟨l122, hc123, h⟩ := h
       refine z_load (v := (.int .u8 l122)) H rfl rfl one_5 hc123 (lt_ rfl) fun a H => z_cv H rfl rfl (fun w => r_cvI some_5 int_3) (lt_ rfl) fun a H => z_bin H rfl rfl rfl (r_shl (by decide)) (lt_ rfl) fun a H => z_bin H rfl rfl rfl r_or (lt_ rfl) fun a H => z_move H rfl rfl (lt_ rfl) fun a H => ?_
       obtain ⟨a124, h125, h126, h127, h⟩ := h
       refine z_idxS (s := a37) H rfl rfl rfl slc_24 h125 h126 h127 (lt_ rfl) fun a H => ?_
       obtain ⟨l128, hc129, h⟩ := h
       refine z_load (v := (.int .u8 l128)) H rfl rfl one_5 hc129 (lt_ rfl) fun a H => z_cv H rfl rfl (fun w => r_cvI some_5 int_3) (lt_ rfl) fun a H => z_bin H rfl rfl rfl (r_shl (by decide)) (lt_ rfl) fun a H => z_bin H rfl rfl rfl r_or (lt_ rfl) fun a H => z_move H rfl rfl (lt_ rfl) fun a H => ?_
       obtain ⟨a130, h131, h132, h133, h⟩ := h
       refine z_idxS (s := a37) H rfl rfl rfl slc_24 h131 h132 h133 (lt_ rfl) fun a H => ?_
       obtain ⟨l134, hc135, h⟩ := h
       refine z_load (v := (.int .u8 l134)) H rfl rfl one_5 hc135 (lt_ rfl) fun a H => z_cv H rfl rfl (fun w => r_cvI some_5 int_3) (lt_ rfl) fun a H => z_bin H rfl rfl rfl (r_shl (by decide)) (lt_ rfl) fun a H => z_bin H rfl rfl rfl r_or (lt_ rfl) fun a H => z_assign H rfl rfl (lt_ rfl) fun a H => wpQuiet_nil ?_
       rintro _ ⟨k111, rfl⟩
       replace h := h k111
       refine hK110 _ _ <| c_seq fun K136 hK136 => c_seq fun K137 hK137 => c_reg <| s_move H rfl rfl (lt_ rfl) fun a H => ?_
       obtain ⟨h138, h139, h140, h⟩ := h
       refine s_slice (v := (Slc.v (a37.cut 1 (Int.toNat (4)) (Int.toNat ((a37.l : Int)))))) H rfl rfl ⟨rfl, rfl⟩ ⟨rfl, rfl⟩ ⟨rfl, rfl⟩ (r_sliceSlc (lo := (some (.i64, 4))) (hi := none) slc_24 rfl rfl h138 h139 h140) (lt_ rfl) fun a H => s_blt H rfl (H.args (vs := [(Slc.v (a37.cut 1 (Int.toNat (4)) (Int.toNat ((a37.l : Int)))))]) rfl) (lt_ rfl) (fun cs => b_lenS (z := a37.cut 1 (Int.toNat (4)) (Int.toNat ((a37.l : Int)))) sl_24) fun a H => s_move H rfl rfl (lt_ rfl) fun a H => c_nil ?_
       refine hK137 _ _ <| c_block ?_
       obtain ⟨I143, m144, h218, h219⟩ := h
       refine c_loop (σ := Int) (fun z w => I143 z w) (fun z w => m144 z w) (fun z => [(1, (Slc.v (v3.cut 1 (Int.toNat (0)) (Int.toNat (minI (v3.l : Int) 65536))))), (2, p4.v), (7, (.pointer c11)), (8, (.i c12)), (9, (.i c13)), (10, S20.v), (19, (.i (orI .i64 (orI .i64 (orI .i64 (wr .i64 l116) (shlI .i64 (wr .i64 l122) 8)) (shlI .i64 (wr .i64 l128) 16)) (shlI .i64 (wr .i64 l134) 24)))), (145, (Slc.v (a37.cut 1 (Int.toNat (4)) (Int.toNat ((a37.l : Int)))))), (146, (.i ((a37.cut 1 (Int.toNat (4)) (Int.toNat ((a37.l : Int)))).l : Int))), (147, (.i z))]) 0 h218 (H.weaken ⟨rfl, rfl, rfl, rfl, rfl, rfl, rfl, rfl, rfl, rfl, trivial⟩) ?_
       clear H h218
       rintro s141 a w142 h H
       replace h := h219 s141 w142 h
       clear h219
       replace H : Has 204 [] a [(1, (Slc.v (v3.cut 1 (Int.toNat (0)) (Int.toNat (minI (v3.l : Int) 65536))))), (2, p4.v), (7, (.pointer c11)), (8, (.i c12)), (9, (.i c13)), (10, S20.v), (19, (.i (orI .i64 (orI .i64 (orI .i64 (wr .i64 l116) (shlI .i64 (wr .i64 l122) 8)) (shlI .i64 (wr .i64 l128) 16)) (shlI .i64 (wr .i64 l134) 24)))), (145, (Slc.v (a37.cut 1 (Int.toNat (4)) (Int.toNat ((a37.l : Int)))))), (146, (.i ((a37.cut 1 (Int.toNat (4)) (Int.toNat ((a37.l : Int)))).l : Int))), (147, (.i s141))] := H
       refine c_seq fun K145 hK145 => c_reg <| s_bin H rfl rfl rfl r_lss (lt_ rfl) fun a H => c_nil <| hK145 _ _ <| c_seq fun K146 hK146 => c_cond H rfl (fun h147 => ?_) (fun h147 => ?_)
       ·replace h := h.1 h147
        refine c_skip <| hK146 _ _ <| c_seq fun K148 hK148 => c_block <| c_seq fun K149 hK149 => c_reg <| s_move H rfl rfl (lt_ rfl) fun a H => ?_
        obtain ⟨a150, h151, h152, h153, h⟩ := h
        refine s_idxS (s := a37.cut 1 (Int.toNat (4)) (Int.toNat ((a37.l : Int)))) H rfl rfl rfl slc_24 h151 h152 h153 (lt_ rfl) fun a H => ?_
        obtain ⟨l154, hc155, h⟩ := h
        refine s_load (v := (.int .u8 l154)) H rfl rfl one_5 hc155 (lt_ rfl) fun a H => s_assign H rfl rfl (lt_ rfl) fun a H => s_assign H rfl rfl (lt_ rfl) fun a H => c_nil <| hK149 _ _ <| c_seq fun K156 hK156 => c_reg <| s_move H rfl rfl (lt_ rfl) fun a H => s_move H rfl rfl (lt_ rfl) fun a H => ?_
        refine s_blt H rfl (H.args (vs := [(Slc.v (v3.cut 1 (Int.toNat (0)) (Int.toNat (minI (v3.l : Int) 65536))))]) rfl) (lt_ rfl) (fun cs => b_lenS (z := v3.cut 1 (Int.toNat (0)) (Int.toNat (minI (v3.l : Int) 65536))) sl_24) fun a H => s_bin H rfl rfl rfl r_lss (lt_ rfl) fun a H => s_move H rfl rfl (lt_ rfl) fun a H => ?_
        obtain ⟨x165, h166, h167, h⟩ := h
        refine g_join (n := 204) [(163, (.bool x165)), (1, (Slc.v (v3.cut 1 (Int.toNat (0)) (Int.toNat (minI (v3.l : Int) 65536))))), (2, p4.v), (7, (.pointer c11)), (8, (.i c12)), (9, (.i c13)), (10, S20.v), (19, (.i (orI .i64 (orI .i64 (orI .i64 (wr .i64 l116) (shlI .i64 (wr .i64 l122) 8)) (shlI .i64 (wr .i64 l128) 16)) (shlI .i64 (wr .i64 l134) 24)))), (20, (.i s141)), (21, (.int .u8 l154)), (145, (Slc.v (a37.cut 1 (Int.toNat (4)) (Int.toNat ((a37.l : Int)))))), (146, (.i ((a37.cut 1 (Int.toNat (4)) (Int.toNat ((a37.l : Int)))).l : Int))), (147, (.i s141))] (.succ (.succ (.succ (.succ (.succ (.succ (.succ (.zero _)))))))) ?_ ?_
        ·intro h158
         try clear h
         rcases Bool.eq_false_or_eq_true (decide (s141 < ((v3.cut 1 (Int.toNat (0)) (Int.toNat (minI (v3.l : Int) 65536))).l : Int))) with h157 | h157
         ·replace H := H.ch (t := 156) (b := true) rfl h157
          replace h := h166 h157
          iterate 3 refine s_move H (wantG H rfl rfl) rfl (lt_ rfl) fun a H => ?_
          obtain ⟨a159, h160, h161, h162, h⟩ := h
          refine s_idxS (s := v3.cut 1 (Int.toNat (0)) (Int.toNat (minI (v3.l : Int) 65536))) H (wantG H rfl rfl) rfl rfl slc_24 h160 h161 h162 (lt_ rfl) fun a H => ?_
          obtain ⟨l163, hc164, h⟩ := h
          refine s_load (v := (.int .u8 l163)) H (wantG H rfl rfl) rfl one_5 hc164 (lt_ rfl) fun a H => s_bin H (wantG H rfl rfl) rfl rfl r_neq (lt_ rfl) fun a H => s_pickT H rfl rfl rfl (lt_ rfl) fun a H => ?_
          subst h
          exact h158 _ (H.weaken ⟨rfl, rfl, rfl, rfl, rfl, rfl, rfl, rfl, rfl, rfl, rfl, rfl, rfl, trivial⟩)
         ·replace H := H.ch (t := 156) (b := false) rfl h157
          iterate 6 refine s_skip H (wantN H rfl rfl rfl) rfl (lt_ rfl) fun a H => ?_
          refine s_pickF H rfl rfl rfl (lt_ rfl) fun a H => ?_
          replace h := h167 h157
          subst h
          exact h158 _ (H.weaken ⟨rfl, rfl, rfl, rfl, rfl, rfl, rfl, rfl, rfl, rfl, rfl, rfl, rfl, trivial⟩)
        ·clear H a
         clear h166 h167
         intro a H
         refine s_move H rfl rfl (lt_ rfl) fun a H => ?_
         refine g_join (n := 204) [(173, (.bool (x165 || ((decide (((v3.cut 1 (Int.toNat (0)) (Int.toNat (minI (v3.l : Int) 65536))).l : Int) ≤ s141)) && (decide (l154 ≠ 0)))))), (1, (Slc.v (v3.cut 1 (Int.toNat (0)) (Int.toNat (minI (v3.l : Int) 65536))))), (2, p4.v), (7, (.pointer c11)), (8, (.i c12)), (9, (.i c13)), (10, S20.v), (19, (.i (orI .i64 (orI .i64 (orI .i64 (wr .i64 l116) (shlI .i64 (wr .i64 l122) 8)) (shlI .i64 (wr .i64 l128) 16)) (shlI .i64 (wr .i64 l134) 24)))), (145, (Slc.v (a37.cut 1 (Int.toNat (4)) (Int.toNat ((a37.l : Int)))))), (146, (.i ((a37.cut 1 (Int.toNat (4)) (Int.toNat ((a37.l : Int)))).l : Int))), (147, (.i s141))] (.succ (.succ (.succ (.succ (.succ (.succ (.succ (.succ (.succ (.zero _)))))))))) ?_ ?_
         ·intro h169
          try clear h
          rcases Bool.eq_false_or_eq_true x165 with h168 | h168
          ·replace H := H.ch (t := 164) (b := true) rfl h168
           iterate 5 refine s_skip H (wantN H rfl rfl rfl) rfl (lt_ rfl) fun a H => ?_
           refine s_skip H (wantU H rfl rfl) rfl (lt_ rfl) fun a H => s_skip H (wantU H rfl rfl) rfl (lt_ rfl) fun a H => s_skip H (wantN H rfl rfl rfl) rfl (lt_ rfl) fun a H => s_pickT H rfl rfl rfl (lt_ rfl) fun a H => ?_
           exact h169 _ (H.weaken ⟨by rw [h168]; rfl, rfl, rfl, rfl, rfl, rfl, rfl, rfl, rfl, rfl, rfl, trivial⟩)
          ·replace H := H.ch (t := 164) (b := false) rfl h168
           refine s_move H (wantG H rfl rfl) rfl (lt_ rfl) fun a H => s_move H (wantG H rfl rfl) rfl (lt_ rfl) fun a H => s_blt H (wantG H rfl rfl) (H.args (vs := [(Slc.v (v3.cut 1 (Int.toNat (0)) (Int.toNat (minI (v3.l : Int) 65536))))]) rfl) (lt_ rfl) (fun cs => b_lenS (z := v3.cut 1 (Int.toNat (0)) (Int.toNat (minI (v3.l : Int) 65536))) sl_24) fun a H => s_bin H (wantG H rfl rfl) rfl rfl r_geq (lt_ rfl) fun a H => s_move H (wantG H rfl rfl) rfl (lt_ rfl) fun a H => ?_
           refine g_join (n := 204) [(172, (.bool ((decide (((v3.cut 1 (Int.toNat (0)) (Int.toNat (minI (v3.l : Int) 65536))).l : Int) ≤ s141)) && (decide (l154 ≠ 0))))), (1, (Slc.v (v3.cut 1 (Int.toNat (0)) (Int.toNat (minI (v3.l : Int) 65536))))), (2, p4.v), (7, (.pointer c11)), (8, (.i c12)), (9, (.i c13)), (10, S20.v), (19, (.i (orI .i64 (orI .i64 (orI .i64 (wr .i64 l116) (shlI .i64 (wr .i64 l122) 8)) (shlI .i64 (wr .i64 l128) 16)) (shlI .i64 (wr .i64 l134) 24)))), (145, (Slc.v (a37.cut 1 (Int.toNat (4)) (Int.toNat ((a37.l : Int)))))), (146, (.i ((a37.cut 1 (Int.toNat (4)) (Int.toNat ((a37.l : Int)))).l : Int))), (147, (.i s141)), (164, (.bool false))] (.succ (.succ (.succ (.zero _)))) ?_ ?_
           ·intro h171
            try clear h
            rcases Bool.eq_false_or_eq_true (decide (((v3.cut 1 (Int.toNat (0)) (Int.toNat (minI (v3.l : Int) 65536))).l : Int) ≤ s141)) with h170 | h170
            ·replace H := H.ch (t := 169) (b := true) rfl h170
             refine s_move H (wantG H rfl rfl) rfl (lt_ rfl) fun a H => s_bin H (wantG H rfl rfl) rfl rfl r_neq (lt_ rfl) fun a H => s_pickT H (wantG H rfl rfl) rfl rfl (lt_ rfl) fun a H => ?_
             exact h171 _ (H.weaken ⟨by rw [h170]; rfl, rfl, rfl, rfl, rfl, rfl, rfl, rfl, rfl, rfl, rfl, rfl, trivial⟩)
            ·replace H := H.ch (t := 169) (b := false) rfl h170
             refine s_skip H (wantN H rfl rfl rfl) rfl (lt_ rfl) fun a H => s_skip H (wantN H rfl rfl rfl) rfl (lt_ rfl) fun a H => s_pickF H (wantG H rfl rfl) rfl rfl (lt_ rfl) fun a H => ?_
             exact h171 _ (H.weaken ⟨by rw [h170]; rfl, rfl, rfl, rfl, rfl, rfl, rfl, rfl, rfl, rfl, rfl, rfl, trivial⟩)
           ·clear H a
            intro a H
            refine s_pickF H rfl rfl rfl (lt_ rfl) fun a H => ?_
            exact h169 _ (H.weaken ⟨by rw [h168]; rfl, rfl, rfl, rfl, rfl, rfl, rfl, rfl, rfl, rfl, rfl, trivial⟩)
         ·clear H a
          intro a H
          refine c_nil <| hK156 _ _ <| c_cond H rfl (fun h172 => ?_) (fun h172 => ?_)
          ·replace h := h.1 h172
           refine c_seq fun K173 hK173 => c_reg <| s_assign H rfl rfl (lt_ rfl) fun a H => c_nil <| hK173 _ _ <| c_ret ?_
           exact e_ret1 H rfl rfl h
          ·replace h := h.2 h172
           refine c_skip <| hK148 _ _ <| c_reg <| s_bin H rfl rfl rfl r_add (lt_ rfl) fun a H => s_move H rfl rfl (lt_ rfl) fun a H => c_nil <| Exists.intro (wr .i64 (s141 + 1)) ⟨h.1, h.2, H.weaken ⟨rfl, rfl, rfl, rfl, rfl, rfl, rfl, rfl, rfl, rfl, trivial⟩⟩
       ·replace h := h.2 h147
        refine c_exit ?_
        first | (simp only [Exit.then, Exit.inBlock, ↓reduceIte]; fail_if_success simp only [Nat.reduceEqDiff]) | simp only [Exit.then, Exit.inBlock, ↓reduceIte, Nat.reduceEqDiff]
        refine hK136 _ _ <| c_seq fun K174 hK174 => c_reg ?_
        iterate 5 refine s_move H rfl rfl (lt_ rfl) fun a H => ?_
        refine s_call H rfl body_8 (H.args (vs := [(.i c12), (.i c13), p4.v]) rfl) (lt_ rfl) h ?_ (fun c w' h H => e_panic (P := PP) (fn := Tryd.f4) H h)
        clear H h a
        rintro _ w175 a ⟨c176, rfl, h⟩ H
        refine s_call H rfl body_7 (H.args (vs := [S20.v, c176.v]) rfl) (lt_ rfl) h ?_ (fun c w' h H => e_panic (P := PP) (fn := Tryd.f4) H h)
        clear H h a
        rintro _ w177 a ⟨p178, rfl, h⟩ H
        refine s_call H rfl body_9 (H.args (vs := [(.pointer c11), p178.v]) rfl) (lt_ rfl) h ?_ (fun c w' h H => e_panic (P := PP) (fn := Tryd.f4) H h)
        clear H h a
        rintro _ w179 a ⟨J180, J181, rfl, h⟩ H
        refine s_move H rfl rfl (lt_ rfl) fun a H => s_ext H rfl rfl rfl (lt_ rfl) fun a H => s_ext H rfl rfl rfl (lt_ rfl) fun a H => s_assign H rfl rfl (lt_ rfl) fun a H => s_assign H rfl rfl (lt_ rfl) fun a H => c_nil <| hK174 _ _ <| c_seq fun K182 hK182 => c_reg <| s_move H rfl rfl (lt_ rfl) fun a H => s_move H rfl rfl (lt_ rfl) fun a H => ?_
        refine s_blt H rfl (H.args (vs := [(Slc.v (v3.cut 1 (Int.toNat (0)) (Int.toNat (minI (v3.l : Int) 65536))))]) rfl) (lt_ rfl) (fun cs => b_lenS (z := v3.cut 1 (Int.toNat (0)) (Int.toNat (minI (v3.l : Int) 65536))) sl_24) fun a H => s_bin H rfl rfl rfl r_eql (lt_ rfl) fun a H => s_move H rfl rfl (lt_ rfl) fun a H => ?_
        refine g_join (n := 204) [(193, (.bool ((decide ((orI .i64 (orI .i64 (orI .i64 (wr .i64 l116) (shlI .i64 (wr .i64 l122) 8)) (shlI .i64 (wr .i64 l128) 16)) (shlI .i64 (wr .i64 l134) 24)) = ((v3.cut 1 (Int.toNat (0)) (Int.toNat (minI (v3.l : Int) 65536))).l : Int))) && (decide (J181 = 0))))), (1, (Slc.v (v3.cut 1 (Int.toNat (0)) (Int.toNat (minI (v3.l : Int) 65536))))), (22, J180.v)] (.succ (.succ (.succ (.zero _)))) ?_ ?_
        ·intro h184
         try clear h
         rcases Bool.eq_false_or_eq_true (decide ((orI .i64 (orI .i64 (orI .i64 (wr .i64 l116) (shlI .i64 (wr .i64 l122) 8)) (shlI .i64 (wr .i64 l128) 16)) (shlI .i64 (wr .i64 l134) 24)) = ((v3.cut 1 (Int.toNat (0)) (Int.toNat (minI (v3.l : Int) 65536))).l : Int))) with h183 | h183
         ·replace H := H.ch (t := 190) (b := true) rfl h183
          refine s_move H (wantG H rfl rfl) rfl (lt_ rfl) fun a H => s_bin H (wantG H rfl rfl) rfl rfl r_eql (lt_ rfl) fun a H => s_pickT H rfl rfl rfl (lt_ rfl) fun a H => ?_
          exact h184 _ (H.weaken ⟨by rw [h183]; rfl, rfl, rfl, trivial⟩)
         ·replace H := H.ch (t := 190) (b := false) rfl h183
          refine s_skip H (wantN H rfl rfl rfl) rfl (lt_ rfl) fun a H => s_skip H (wantN H rfl rfl rfl) rfl (lt_ rfl) fun a H => s_pickF H rfl rfl rfl (lt_ rfl) fun a H => ?_
          exact h184 _ (H.weaken ⟨by rw [h183]; rfl, rfl, rfl, trivial⟩)
        ·clear H a
         intro a H
         refine s_move H rfl rfl (lt_ rfl) fun a H => ?_
         obtain ⟨x191, h192, h193, h⟩ := h
         refine g_join (n := 204) [(200, (.bool x191))] (.succ (.succ (.succ (.succ (.succ (.succ (.zero _))))))) ?_ ?_
         ·intro h186
          try clear h
          rcases Bool.eq_false_or_eq_true ((decide ((orI .i64 (orI .i64 (orI .i64 (wr .i64 l116) (shlI .i64 (wr .i64 l122) 8)) (shlI .i64 (wr .i64 l128) 16)) (shlI .i64 (wr .i64 l134) 24)) = ((v3.cut 1 (Int.toNat (0)) (Int.toNat (minI (v3.l : Int) 65536))).l : Int))) && (decide (J181 = 0))) with h185 | h185
          ·replace H := H.ch (t := 194) (b := true) rfl h185
           replace h := h192 h185
           refine s_move H (wantG H rfl rfl) rfl (lt_ rfl) fun a H => ?_
           obtain ⟨s187, h188, h⟩ := h
           refine s_cv H (wantG H rfl rfl) rfl h188 (lt_ rfl) ?_
           clear H a h188
           intro a H
           refine s_move H (wantG H rfl rfl) rfl (lt_ rfl) fun a H => ?_
           obtain ⟨s189, h190, h⟩ := h
           refine s_cv H (wantG H rfl rfl) rfl h190 (lt_ rfl) ?_
           clear H a h190
           intro a H
           refine s_bin H (wantG H rfl rfl) rfl rfl r_eqlS (lt_ rfl) fun a H => s_pickT H rfl rfl rfl (lt_ rfl) fun a H => ?_
           subst h
           exact h186 _ (H.weaken ⟨rfl, trivial⟩)
          ·replace H := H.ch (t := 194) (b := false) rfl h185
           iterate 5 refine s_skip H (wantN H rfl rfl rfl) rfl (lt_ rfl) fun a H => ?_
           refine s_pickF H rfl rfl rfl (lt_ rfl) fun a H => ?_
           replace h := h193 h185
           subst h
           exact h186 _ (H.weaken ⟨rfl, trivial⟩)
         ·clear H a
          clear h192 h193
          intro a H
          refine s_move H rfl rfl (lt_ rfl) fun a H => ?_
          obtain ⟨R196, h, h205⟩ := h
          refine g_joinW (n := 204) R196 (fun x197 => [(203, (.bool x197))]) (.succ (.succ (.zero _))) ?_ ?_
          ·intro h195
           clear h205
           rcases Bool.eq_false_or_eq_true x191 with h194 | h194
           ·replace H := H.ch (t := 201) (b := true) rfl h194
            replace h := h.1 h194
            refine s_call H (wantG H rfl rfl) body_10 (H.args (vs := []) rfl) (lt_ rfl) h ?_ (fun c w' h H => e_panic (P := PP) (fn := Tryd.f4) H h)
            clear H h a
            rintro _ w199 a ⟨t200, rfl, h⟩ H
            refine s_pickT H rfl rfl rfl (lt_ rfl) fun a H => ?_
            exact h195 _ _ _ h (H.weaken ⟨rfl, trivial⟩)
           ·replace H := H.ch (t := 201) (b := false) rfl h194
            replace h := h.2 h194
            refine s_skip H (wantN H rfl rfl rfl) rfl (lt_ rfl) fun a H => s_pickF H rfl rfl rfl (lt_ rfl) fun a H => ?_
            exact h195 _ _ _ h (H.weaken ⟨rfl, trivial⟩)
          ·clear H a h
           intro a x197 w198 h H
           replace h := h205 x197 w198 h
           clear h205
           refine s_assign H rfl rfl (lt_ rfl) fun a H => c_nil <| hK182 _ _ <| c_ret ?_
           exact e_ret1 H rfl rfl h

theorem sim_sherdlaw05_Shape_code (N1 K2 : Int) (w : World) (Q : Ending → World → Prop) (h : vc_sherdlaw05_Shape_code N1 K2 w Q) : Calls PP F_sherdlaw05_Shape_code #[(.agg #[(.i N1), (.i K2)])] w Q := by
 unfold vc_sherdlaw05_Shape_code at h
 refine enter (n := 33) Tryd.func5 rfl rfl (Nat.le_of_ble_eq_true rfl) fun a H => c_seq fun K3 hK3 => c_reg ?_
 replace h := h.get
 obtain ⟨b4, w5, n6, h⟩ := h
 refine s_box H rfl rfl (lt_ rfl) ?_
 rw [← n6.at_]
 clear H a
 intro a H
 refine n6.go ?_
 iterate 3 refine s_assign H rfl rfl (lt_ rfl) fun a H => ?_
 refine c_nil <| hK3 _ _ <| c_seq fun K7 hK7 => c_reg <| s_fld H rfl rfl fld_23_0 (lt_ rfl) fun a H => s_load (v := (.i N1)) H rfl rfl one_3 (n6.cell (i := 0) rfl) (lt_ rfl) fun a H => s_bin H rfl rfl rfl (r_rem (by decide)) (lt_ rfl) fun a H => s_bin H rfl rfl rfl r_add (lt_ rfl) fun a H => s_bin H rfl rfl rfl (r_rem (by decide)) (lt_ rfl) fun a H => s_bin H rfl rfl rfl r_add (lt_ rfl) fun a H => s_assign H rfl rfl (lt_ rfl) fun a H => c_nil <| hK7 _ _ <| c_seq fun K8 hK8 => c_reg ?_
 refine s_fld H rfl rfl fld_23_1 (lt_ rfl) fun a H => s_load (v := (.i K2)) H rfl rfl one_3 (n6.cell (i := 1) rfl) (lt_ rfl) fun a H => s_move H rfl rfl (lt_ rfl) fun a H => ?_
 obtain ⟨h9, h⟩ := h
 refine s_bin H rfl rfl rfl (r_rem h9) (lt_ rfl) fun a H => s_move H rfl rfl (lt_ rfl) fun a H => s_bin H rfl rfl rfl r_add (lt_ rfl) fun a H => s_move H rfl rfl (lt_ rfl) fun a H => ?_
 obtain ⟨h10, h⟩ := h
 refine s_bin H rfl rfl rfl (r_rem h10) (lt_ rfl) fun a H => s_bin H rfl rfl rfl r_add (lt_ rfl) fun a H => s_assign H rfl rfl (lt_ rfl) fun a H => c_nil <| hK8 _ _ <| c_seq fun K11 hK11 => c_reg <| s_move H rfl rfl (lt_ rfl) fun a H => s_move H rfl rfl (lt_ rfl) fun a H => ?_
 refine s_call H rfl body_13 (H.args (vs := [(.i (wr .i64 (((wr .i64 ((N1.tmod 12) + 12)).tmod 12) + 1))), (.i (wr .i64 (((wr .i64 ((K2.tmod (wr .i64 (((wr .i64 ((N1.tmod 12) + 12)).tmod 12) + 1))) + (wr .i64 (((wr .i64 ((N1.tmod 12) + 12)).tmod 12) + 1)))).tmod (wr .i64 (((wr .i64 ((N1.tmod 12) + 12)).tmod 12) + 1))) + 1)))]) rfl) (lt_ rfl) h ?_ (fun c w' h H => e_panic (P := PP) (fn := Tryd.f5) H h)
 clear H h a
 rintro _ w12 a ⟨N13, N14, rfl, h⟩ H
 refine s_move H rfl rfl (lt_ rfl) fun a H => s_ext H rfl rfl rfl (lt_ rfl) fun a H => s_ext H rfl rfl rfl (lt_ rfl) fun a H => s_assign H rfl rfl (lt_ rfl) fun a H => s_assign H rfl rfl (lt_ rfl) fun a H => c_nil <| hK11 _ _ <| c_seq fun K15 hK15 => c_reg ?_
 iterate 3 refine s_move H rfl rfl (lt_ rfl) fun a H => ?_
 iterate 3 refine s_assign H rfl rfl (lt_ rfl) fun a H => ?_
 refine c_nil <| hK15 _ _ <| c_ret ?_
 exact e_ret3 H rfl rfl rfl rfl h

theorem sim_stripe_Split (c1 : Option Addr) (v2 : Slc) (w : World) (Q : Ending → World → Prop) (h : vc_stripe_Split c1 v2 w Q) : Calls PP F_stripe_Split #[(.pointer c1), v2.v] w Q := by
 unfold vc_stripe_Split at h
 refine enter (n := 19) Tryd.func6 rfl rfl (Nat.le_of_ble_eq_true rfl) fun a H => c_seq fun K3 hK3 => c_reg <| s_assign H rfl rfl (lt_ rfl) fun a H => s_assign H rfl rfl (lt_ rfl) fun a H => c_nil <| hK3 _ _ <| c_seq fun K4 hK4 => c_seq fun K5 hK5 => c_reg <| s_move H rfl rfl (lt_ rfl) fun a H => s_bin H rfl rfl rfl (r_eqP0 ptr_29) (lt_ rfl) fun a H => c_nil <| hK5 _ _ <| c_cond H rfl (fun h6 => ?_) (fun h6 => ?_)
 ·replace h := h.1 h6
  refine c_seq fun K7 hK7 => c_reg <| s_assign H rfl rfl (lt_ rfl) fun a H => s_assign H rfl rfl (lt_ rfl) fun a H => c_nil <| hK7 _ _ <| c_ret ?_
  exact e_ret2 H rfl rfl rfl h
 ·replace h := h.2 h6
  refine c_skip <| hK4 _ _ <| c_seq fun K8 hK8 => c_seq fun K9 hK9 => c_reg <| s_move H rfl rfl (lt_ rfl) fun a H => s_blt H rfl (H.args (vs := [v2.v]) rfl) (lt_ rfl) (fun cs => b_lenS (z := v2) sl_24) fun a H => s_bin H rfl rfl rfl r_gtr (lt_ rfl) fun a H => c_nil <| hK9 _ _ <| c_cond H rfl (fun h10 => ?_) (fun h10 => ?_)
  ·replace h := h.1 h10
   refine c_seq fun K11 hK11 => c_reg <| s_assign H rfl rfl (lt_ rfl) fun a H => s_assign H rfl rfl (lt_ rfl) fun a H => c_nil <| hK11 _ _ <| c_ret ?_
   exact e_ret2 H rfl rfl rfl h
  ·replace h := h.2 h10
   refine c_skip <| hK8 _ _ <| c_seq fun K12 hK12 => c_reg ?_
   iterate 3 refine s_move H rfl rfl (lt_ rfl) fun a H => ?_
   refine s_call H rfl body_16 (H.args (vs := [(.pointer c1)]) rfl) (lt_ rfl) h ?_ (fun c w' h H => e_panic (P := PP) (fn := Tryd.f6) H h)
   clear H h a
   rintro _ w13 a ⟨K14, rfl, h⟩ H
   refine s_call H rfl body_15 (H.args (vs := [v2.v, (.i K14)]) rfl) (lt_ rfl) h ?_ (fun c w' h H => e_panic (P := PP) (fn := Tryd.f6) H h)
   clear H h a
   rintro _ w15 a ⟨c16, rfl, h⟩ H
   refine s_call H rfl body_14 (H.args (vs := [(.pointer c1), c16.v]) rfl) (lt_ rfl) h ?_ (fun c w' h H => e_panic (P := PP) (fn := Tryd.f6) H h)
   clear H h a
   rintro _ w17 a ⟨E18, E19, rfl, h⟩ H
   refine s_ext H rfl rfl rfl (lt_ rfl) fun a H => s_ext H rfl rfl rfl (lt_ rfl) fun a H => s_assign H rfl rfl (lt_ rfl) fun a H => s_assign H rfl rfl (lt_ rfl) fun a H => c_nil <| hK12 _ _ <| c_ret ?_
   exact e_ret2 H rfl rfl rfl h

theorem sim_sherdlaw05_parts (l1 i2 : Slc) (w : World) (Q : Ending → World → Prop) (h : vc_sherdlaw05_parts l1 i2 w Q) : Calls PP F_sherdlaw05_parts #[l1.v, i2.v] w Q := by
 unfold vc_sherdlaw05_parts at h
 refine enter (n := 31) Tryd.func7 rfl rfl (Nat.le_of_ble_eq_true rfl) fun a H => c_seq fun K3 hK3 => c_reg <| s_assign H rfl rfl (lt_ rfl) fun a H => c_nil <| hK3 _ _ <| c_seq fun K4 hK4 => c_reg <| s_assign H rfl rfl (lt_ rfl) fun a H => c_nil <| hK4 _ _ <| c_seq fun K5 hK5 => c_seq fun K6 hK6 => c_reg <| s_move H rfl rfl (lt_ rfl) fun a H => s_blt H rfl (H.args (vs := [i2.v]) rfl) (lt_ rfl) (fun cs => b_lenS (z := i2) sl_26) fun a H => s_move H rfl rfl (lt_ rfl) fun a H => c_nil ?_
 refine hK6 _ _ <| c_block ?_
 obtain ⟨I10, m11, h49, h50⟩ := h
 refine c_loop (σ := Slc × Int) (fun z w => I10 z.1 z.2 w) (fun z w => m11 z.1 z.2 w) (fun z => [(0, l1.v), (5, z.1.v), (8, i2.v), (9, (.i (i2.l : Int))), (10, (.i z.2))]) (Slc.nil, 0) h49 (H.weaken ⟨rfl, rfl, rfl, rfl, rfl, trivial⟩) ?_
 clear H h49
 rintro ⟨o7, s8⟩ a w9 h H
 replace h := h50 o7 s8 w9 h
 clear h50
 replace H : Has 31 [] a [(0, l1.v), (5, o7.v), (8, i2.v), (9, (.i (i2.l : Int))), (10, (.i s8))] := H
 refine c_seq fun K12 hK12 => c_reg <| s_bin H rfl rfl rfl r_lss (lt_ rfl) fun a H => c_nil <| hK12 _ _ <| c_seq fun K13 hK13 => c_cond H rfl (fun h14 => ?_) (fun h14 => ?_)
 ·replace h := h.1 h14
  refine c_skip <| hK13 _ _ <| c_seq fun K15 hK15 => ?_
  obtain ⟨R17, h, h47⟩ := h
  have h19 : ∀ (a : Act) (o16 : Slc) (w18 : World), R17 o16 w18 → Has 31 [] a [(0, l1.v), (5, o16.v), (8, i2.v), (9, (.i (i2.l : Int))), (10, (.i s8))] → K15 a w18 := by
   clear h
   intro a o16 w18 h H
   replace h := h47 o16 w18 h
   refine hK15 _ _ <| c_reg <| s_bin H rfl rfl rfl r_add (lt_ rfl) fun a H => s_move H rfl rfl (lt_ rfl) fun a H => c_nil <| Exists.intro (o16, wr .i64 (s8 + 1)) ⟨h.1, h.2, H.weaken ⟨rfl, rfl, rfl, rfl, rfl, trivial⟩⟩
  clear h47
  refine c_block <| c_seq fun K20 hK20 => c_reg ?_
  obtain ⟨a21, h22, h23, h24, h⟩ := h
  refine s_idxS (s := i2) H rfl rfl rfl slc_26 h22 h23 h24 (lt_ rfl) fun a H => ?_
  obtain ⟨l25, hc26, h⟩ := h
  refine s_load (v := (.i l25)) H rfl rfl one_3 hc26 (lt_ rfl) fun a H => s_assign H rfl rfl (lt_ rfl) fun a H => c_nil <| hK20 _ _ <| c_seq fun K27 hK27 => c_reg <| s_move H rfl rfl (lt_ rfl) fun a H => s_move H rfl rfl (lt_ rfl) fun a H => s_blt H rfl (H.args (vs := [l1.v]) rfl) (lt_ rfl) (fun cs => b_lenS (z := l1) sl_25) fun a H => s_bin H rfl rfl rfl r_lss (lt_ rfl) fun a H => c_nil <| hK27 _ _ <| c_cond H rfl (fun h28 => ?_) (fun h28 => ?_)
  ·replace h := h.1 h28
   refine c_reg <| s_move H rfl rfl (lt_ rfl) fun a H => s_move H rfl rfl (lt_ rfl) fun a H => ?_
   replace h := h.get
   obtain ⟨b29, w30, n31, h⟩ := h
   refine s_bslc H rfl (by rw [H.parts (vs := []) rfl]; exact bs_24_0 w9) (lt_ rfl) ?_
   rw [← n31.at_]
   clear H a
   intro a H
   refine n31.go <| s_move H rfl rfl (lt_ rfl) fun a H => s_move H rfl rfl (lt_ rfl) fun a H => ?_
   obtain ⟨a32, h33, h34, h35, h⟩ := h
   refine s_idxS (s := l1) H rfl rfl rfl slc_25 h33 h34 h35 (lt_ rfl) fun a H => ?_
   obtain ⟨l36, hc37, h⟩ := h
   refine s_load (v := l36.v) H rfl rfl one_24 hc37 (lt_ rfl) fun a H => ?_
   obtain ⟨s38, w39, h40, h⟩ := h
   refine s_blt H rfl (H.args (vs := [(Slc.v (Slc.mk (some (blk b29)) 0 0)), l36.v]) rfl) (lt_ rfl) (fun cs => b_app (z := s38) h40) ?_
   clear H a h40
   intro a H
   refine s_build H rfl (by rw [H.parts (vs := [(0, (.i l25)), (1, s38.v)]) rfl]; exact bd_41_ii640_s1 w39 l25 s38) (lt_ rfl) fun a H => ?_
   replace h := h.get
   obtain ⟨b41, w42, n43, h⟩ := h
   refine s_bslc H rfl (by rw [H.parts (vs := [(0, (.agg #[(.i l25), s38.v]))]) rfl]; exact bs_35_1_ii64s0 w39 l25 s38) (lt_ rfl) ?_
   rw [← n43.at_]
   clear H a
   intro a H
   refine n43.go ?_
   obtain ⟨s44, w45, h46, h⟩ := h
   refine s_blt H rfl (H.args (vs := [o7.v, (Slc.v (Slc.mk (some (blk b41)) 1 1))]) rfl) (lt_ rfl) (fun cs => b_app (z := s44) h46) ?_
   clear H a h46
   intro a H
   refine s_assign H rfl rfl (lt_ rfl) fun a H => c_nil ?_
   exact h19 _ _ _ h (H.weaken ⟨rfl, rfl, rfl, rfl, rfl, trivial⟩)
  ·replace h := h.2 h28
   refine c_skip ?_
   exact h19 _ _ _ h (H.weaken ⟨rfl, rfl, rfl, rfl, rfl, trivial⟩)
 ·replace h := h.2 h14
  refine c_exit ?_
  first | (simp only [Exit.then, Exit.inBlock, ↓reduceIte]; fail_if_success simp only [Nat.reduceEqDiff]) | simp only [Exit.then, Exit.inBlock, ↓reduceIte, Nat.reduceEqDiff]
  refine hK5 _ _ <| c_seq fun K48 hK48 => c_reg <| s_move H rfl rfl (lt_ rfl) fun a H => s_assign H rfl rfl (lt_ rfl) fun a H => c_nil <| hK48 _ _ <| c_ret ?_
  exact e_ret1 H rfl rfl h

theorem sim_sherdlaw05_chosen (n1 l2 : Int) (p3 : Slc) (w : World) (Q : Ending → World → Prop) (h : vc_sherdlaw05_chosen n1 l2 p3 w Q) : Calls PP F_sherdlaw05_chosen #[(.i n1), (.i l2), p3.v] w Q := by
 unfold vc_sherdlaw05_chosen at h
 refine enter (n := 62) Tryd.func8 rfl rfl (Nat.le_of_ble_eq_true rfl) fun a H => c_seq fun K4 hK4 => c_reg <| s_assign H rfl rfl (lt_ rfl) fun a H => c_nil <| hK4 _ _ <| c_seq fun K5 hK5 => c_reg <| s_assign H rfl rfl (lt_ rfl) fun a H => c_nil <| hK5 _ _ <| c_seq fun K6 hK6 => c_reg <| s_move H rfl rfl (lt_ rfl) fun a H => ?_
 obtain ⟨s7, w8, h9, h⟩ := h
 refine s_mk H rfl rfl rfl h9 (lt_ rfl) ?_
 clear H a h9
 intro a H
 refine s_assign H rfl rfl (lt_ rfl) fun a H => c_nil <| hK6 _ _ <| c_seq fun K10 hK10 => c_seq fun K11 hK11 => c_reg <| s_move H rfl rfl (lt_ rfl) fun a H => s_blt H rfl (H.args (vs := [p3.v]) rfl) (lt_ rfl) (fun cs => b_lenS (z := p3) sl_26) fun a H => s_move H rfl rfl (lt_ rfl) fun a H => c_nil <| hK11 _ _ <| c_block ?_
 obtain ⟨I15, m16, h93, h94⟩ := h
 refine c_loop (σ := Slc × Int) (fun z w => I15 z.1 z.2 w) (fun z w => m16 z.1 z.2 w) (fun z => [(0, (.i n1)), (1, (.i l2)), (7, z.1.v), (8, s7.v), (15, p3.v), (16, (.i (p3.l : Int))), (17, (.i z.2))]) (Slc.nil, 0) h93 (H.weaken ⟨rfl, rfl, rfl, rfl, rfl, rfl, rfl, trivial⟩) ?_
 clear H h93
 rintro ⟨o12, s13⟩ a w14 h H
 replace h := h94 o12 s13 w14 h
 clear h94
 replace H : Has 62 [] a [(0, (.i n1)), (1, (.i l2)), (7, o12.v), (8, s7.v), (15, p3.v), (16, (.i (p3.l : Int))), (17, (.i s13))] := H
 refine c_seq fun K17 hK17 => c_reg <| s_bin H rfl rfl rfl r_lss (lt_ rfl) fun a H => c_nil <| hK17 _ _ <| c_seq fun K18 hK18 => c_cond H rfl (fun h19 => ?_) (fun h19 => ?_)
 ·replace h := h.1 h19
  refine c_skip <| hK18 _ _ <| c_seq fun K20 hK20 => ?_
  obtain ⟨R22, h, h57⟩ := h
  have h24 : ∀ (a : Act) (o21 : Slc) (w23 : World), R22 o21 w23 → Has 62 [] a [(0, (.i n1)), (1, (.i l2)), (7, o21.v), (8, s7.v), (15, p3.v), (16, (.i (p3.l : Int))), (17, (.i s13))] → K20 a w23 := by
   clear h
   intro a o21 w23 h H
   replace h := h57 o21 w23 h
   refine hK20 _ _ <| c_reg <| s_bin H rfl rfl rfl r_add (lt_ rfl) fun a H => s_move H rfl rfl (lt_ rfl) fun a H => c_nil <| Exists.intro (o21, wr .i64 (s13 + 1)) ⟨h.1, h.2, H.weaken ⟨rfl, rfl, rfl, rfl, rfl, rfl, rfl, trivial⟩⟩
  clear h57
  refine c_block <| c_seq fun K25 hK25 => c_reg ?_
  obtain ⟨a26, h27, h28, h29, h⟩ := h
  refine s_idxS (s := p3) H rfl rfl rfl slc_26 h27 h28 h29 (lt_ rfl) fun a H => ?_
  obtain ⟨l30, hc31, h⟩ := h
  refine s_load (v := (.i l30)) H rfl rfl one_3 hc31 (lt_ rfl) fun a H => s_assign H rfl rfl (lt_ rfl) fun a H => c_nil <| hK25 _ _ <| c_seq fun K32 hK32 => c_reg <| s_move H rfl rfl (lt_ rfl) fun a H => s_move H rfl rfl (lt_ rfl) fun a H => ?_
  obtain ⟨h33, h⟩ := h
  refine s_bin H rfl rfl rfl (r_rem h33) (lt_ rfl) fun a H => s_move H rfl rfl (lt_ rfl) fun a H => s_bin H rfl rfl rfl r_add (lt_ rfl) fun a H => s_move H rfl rfl (lt_ rfl) fun a H => ?_
  obtain ⟨h34, h⟩ := h
  refine s_bin H rfl rfl rfl (r_rem h34) (lt_ rfl) fun a H => s_assign H rfl rfl (lt_ rfl) fun a H => c_nil <| hK32 _ _ <| c_seq fun K35 hK35 => c_reg <| s_move H rfl rfl (lt_ rfl) fun a H => s_move H rfl rfl (lt_ rfl) fun a H => ?_
  obtain ⟨a36, h37, h38, h39, h⟩ := h
  refine s_idxS (s := s7) H rfl rfl rfl slc_54 h37 h38 h39 (lt_ rfl) fun a H => ?_
  obtain ⟨l40, hc41, h⟩ := h
  refine s_load (v := (.bool l40)) H rfl rfl one_4 hc41 (lt_ rfl) fun a H => s_un H rfl rfl r_not (lt_ rfl) fun a H => c_nil <| hK35 _ _ <| c_cond H rfl (fun h42 => ?_) (fun h42 => ?_)
  ·replace h := h.1 h42
   refine c_seq fun K43 hK43 => c_reg <| s_move H rfl rfl (lt_ rfl) fun a H => s_move H rfl rfl (lt_ rfl) fun a H => ?_
   obtain ⟨a44, h45, h46, h47, h⟩ := h
   refine s_idxS (s := s7) H rfl rfl rfl slc_54 h45 h46 h47 (lt_ rfl) fun a H => ?_
   obtain ⟨h49, h50, h⟩ := h
   refine s_sto (p := a44.add (Int.toNat ((wr .i64 ((l30.tmod n1) + n1)).tmod n1) * 1)) (v := (.bool true)) H rfl rfl rfl rfl one_4 rfl h49 h50 ?_
   clear H
   intro H
   generalize hww48 : World.setCell w14 (a44.add (Int.toNat ((wr .i64 ((l30.tmod n1) + n1)).tmod n1) * 1)) (.bool true) = w48 at h ⊢
   have w48S : SetAt w14 (a44.add (Int.toNat ((wr .i64 ((l30.tmod n1) + n1)).tmod n1) * 1)) (.bool true) w48 := ⟨hww48.symm⟩
   clear hww48 h49 h50
   refine c_nil <| hK43 _ _ <| c_reg <| s_move H rfl rfl (lt_ rfl) fun a H => s_move H rfl rfl (lt_ rfl) fun a H => ?_
   replace h := h.get
   obtain ⟨b51, w52, n53, h⟩ := h
   refine s_bslc H rfl (by rw [H.parts (vs := [(0, (.i ((wr .i64 ((l30.tmod n1) + n1)).tmod n1)))]) rfl]; exact bs_26_1_ii640 w48 ((wr .i64 ((l30.tmod n1) + n1)).tmod n1)) (lt_ rfl) ?_
   rw [← n53.at_]
   clear H a
   intro a H
   refine n53.go ?_
   obtain ⟨s54, w55, h56, h⟩ := h
   refine s_blt H rfl (H.args (vs := [o12.v, (Slc.v (Slc.mk (some (blk b51)) 1 1))]) rfl) (lt_ rfl) (fun cs => b_app (z := s54) h56) ?_
   clear H a h56
   intro a H
   refine s_assign H rfl rfl (lt_ rfl) fun a H => c_nil ?_
   exact h24 _ _ _ h (H.weaken ⟨rfl, rfl, rfl, rfl, rfl, rfl, rfl, trivial⟩)
  ·replace h := h.2 h42
   refine c_skip ?_
   exact h24 _ _ _ h (H.weaken ⟨rfl, rfl, rfl, rfl, rfl, rfl, rfl, trivial⟩)
 ·replace h := h.2 h19
  refine c_exit ?_
  first | (simp only [Exit.then, Exit.inBlock, ↓reduceIte]; fail_if_success simp only [Nat.reduceEqDiff]) | simp only [Exit.then, Exit.inBlock, ↓reduceIte, Nat.reduceEqDiff]
  refine hK10 _ _ <| c_seq fun K58 hK58 => c_seq fun K59 hK59 => c_reg <| s_assign H rfl rfl (lt_ rfl) fun a H => c_nil <| hK59 _ _ <| c_block ?_
  obtain ⟨I63, m64, h91, h92⟩ := h
  refine c_loop (σ := Slc × Int) (fun z w => I63 z.1 z.2 w) (fun z w => m64 z.1 z.2 w) (fun z => [(0, (.i n1)), (1, (.i l2)), (7, z.1.v), (8, s7.v), (12, (.i z.2))]) (o12, 0) h91 (H.weaken ⟨rfl, rfl, rfl, rfl, rfl, trivial⟩) ?_
  clear H h91
  rintro ⟨o60, i61⟩ a w62 h H
  replace h := h92 o60 i61 w62 h
  clear h92
  replace H : Has 62 [] a [(0, (.i n1)), (1, (.i l2)), (7, o60.v), (8, s7.v), (12, (.i i61))] := H
  refine c_seq fun K65 hK65 => c_seq fun K66 hK66 => c_reg <| s_move H rfl rfl (lt_ rfl) fun a H => s_move H rfl rfl (lt_ rfl) fun a H => s_bin H rfl rfl rfl r_lss (lt_ rfl) fun a H => s_move H rfl rfl (lt_ rfl) fun a H => g_join (n := 62) [(49, (.bool ((decide (i61 < n1)) && (decide ((o60.l : Int) < l2))))), (0, (.i n1)), (1, (.i l2)), (7, o60.v), (8, s7.v), (12, (.i i61))] (.succ (.succ (.succ (.succ (.succ (.zero _)))))) ?_ ?_
  ·intro h68
   try clear h
   rcases Bool.eq_false_or_eq_true (decide (i61 < n1)) with h67 | h67
   ·replace H := H.ch (t := 44) (b := true) rfl h67
    refine s_move H (wantG H rfl rfl) rfl (lt_ rfl) fun a H => s_blt H (wantG H rfl rfl) (H.args (vs := [o60.v]) rfl) (lt_ rfl) (fun cs => b_lenS (z := o60) sl_26) fun a H => s_move H (wantG H rfl rfl) rfl (lt_ rfl) fun a H => s_bin H (wantG H rfl rfl) rfl rfl r_lss (lt_ rfl) fun a H => s_pickT H rfl rfl rfl (lt_ rfl) fun a H => ?_
    exact h68 _ (H.weaken ⟨by rw [h67]; rfl, rfl, rfl, rfl, rfl, rfl, trivial⟩)
   ·replace H := H.ch (t := 44) (b := false) rfl h67
    iterate 4 refine s_skip H (wantN H rfl rfl rfl) rfl (lt_ rfl) fun a H => ?_
    refine s_pickF H rfl rfl rfl (lt_ rfl) fun a H => ?_
    exact h68 _ (H.weaken ⟨by rw [h67]; rfl, rfl, rfl, rfl, rfl, rfl, trivial⟩)
  ·clear H a
   intro a H
   refine c_nil <| hK66 _ _ <| c_cond H rfl (fun h69 => ?_) (fun h69 => ?_)
   ·replace h := h.1 h69
    refine c_skip <| hK65 _ _ <| c_seq fun K70 hK70 => ?_
    obtain ⟨R72, h, h89⟩ := h
    have h74 : ∀ (a : Act) (o71 : Slc) (w73 : World), R72 o71 w73 → Has 62 [] a [(0, (.i n1)), (1, (.i l2)), (7, o71.v), (8, s7.v), (12, (.i i61))] → K70 a w73 := by
     clear h
     intro a o71 w73 h H
     replace h := h89 o71 w73 h
     refine hK70 _ _ <| c_reg <| s_move H rfl rfl (lt_ rfl) fun a H => s_bin H rfl rfl rfl r_add (lt_ rfl) fun a H => s_assign H rfl rfl (lt_ rfl) fun a H => c_nil <| Exists.intro (o71, wr .i64 (i61 + 1)) ⟨h.1, h.2, H.weaken ⟨rfl, rfl, rfl, rfl, rfl, trivial⟩⟩
    clear h89
    refine c_block <| c_seq fun K75 hK75 => c_reg <| s_move H rfl rfl (lt_ rfl) fun a H => s_move H rfl rfl (lt_ rfl) fun a H => ?_
    obtain ⟨a76, h77, h78, h79, h⟩ := h
    refine s_idxS (s := s7) H rfl rfl rfl slc_54 h77 h78 h79 (lt_ rfl) fun a H => ?_
    obtain ⟨l80, hc81, h⟩ := h
    refine s_load (v := (.bool l80)) H rfl rfl one_4 hc81 (lt_ rfl) fun a H => s_un H rfl rfl r_not (lt_ rfl) fun a H => c_nil <| hK75 _ _ <| c_cond H rfl (fun h82 => ?_) (fun h82 => ?_)
    ·replace h := h.1 h82
     refine c_reg <| s_move H rfl rfl (lt_ rfl) fun a H => s_move H rfl rfl (lt_ rfl) fun a H => ?_
     replace h := h.get
     obtain ⟨b83, w84, n85, h⟩ := h
     refine s_bslc H rfl (by rw [H.parts (vs := [(0, (.i i61))]) rfl]; exact bs_26_1_ii640 w62 i61) (lt_ rfl) ?_
     rw [← n85.at_]
     clear H a
     intro a H
     refine n85.go ?_
     obtain ⟨s86, w87, h88, h⟩ := h
     refine s_blt H rfl (H.args (vs := [o60.v, (Slc.v (Slc.mk (some (blk b83)) 1 1))]) rfl) (lt_ rfl) (fun cs => b_app (z := s86) h88) ?_
     clear H a h88
     intro a H
     refine s_assign H rfl rfl (lt_ rfl) fun a H => c_nil ?_
     exact h74 _ _ _ h (H.weaken ⟨rfl, rfl, rfl, rfl, rfl, trivial⟩)
    ·replace h := h.2 h82
     refine c_skip ?_
     exact h74 _ _ _ h (H.weaken ⟨rfl, rfl, rfl, rfl, rfl, trivial⟩)
   ·replace h := h.2 h69
    refine c_exit ?_
    first | (simp only [Exit.then, Exit.inBlock, ↓reduceIte]; fail_if_success simp only [Nat.reduceEqDiff]) | simp only [Exit.then, Exit.inBlock, ↓reduceIte, Nat.reduceEqDiff]
    refine hK58 _ _ <| c_seq fun K90 hK90 => c_reg <| s_move H rfl rfl (lt_ rfl) fun a H => s_assign H rfl rfl (lt_ rfl) fun a H => c_nil <| hK90 _ _ <| c_ret ?_
    exact e_ret1 H rfl rfl h

theorem sim_stripe_Join (c1 : Option Addr) (p2 : Slc) (w : World) (Q : Ending → World → Prop) (h : vc_stripe_Join c1 p2 w Q) : Calls PP F_stripe_Join #[(.pointer c1), p2.v] w Q := by
 unfold vc_stripe_Join at h
 refine enter (n := 37) Tryd.func9 rfl rfl (Nat.le_of_ble_eq_true rfl) fun a H => c_seq fun K3 hK3 => c_reg <| s_assign H rfl rfl (lt_ rfl) fun a H => s_assign H rfl rfl (lt_ rfl) fun a H => c_nil <| hK3 _ _ <| c_seq fun K4 hK4 => c_seq fun K5 hK5 => c_reg <| s_move H rfl rfl (lt_ rfl) fun a H => s_bin H rfl rfl rfl (r_eqP0 ptr_29) (lt_ rfl) fun a H => c_nil <| hK5 _ _ <| c_cond H rfl (fun h6 => ?_) (fun h6 => ?_)
 ·replace h := h.1 h6
  refine c_seq fun K7 hK7 => c_reg <| s_assign H rfl rfl (lt_ rfl) fun a H => s_assign H rfl rfl (lt_ rfl) fun a H => c_nil <| hK7 _ _ <| c_ret ?_
  exact e_ret2 H rfl rfl rfl h
 ·replace h := h.2 h6
  refine c_skip <| hK4 _ _ <| c_seq fun K8 hK8 => c_reg <| s_move H rfl rfl (lt_ rfl) fun a H => s_move H rfl rfl (lt_ rfl) fun a H => s_call H rfl body_17 (H.args (vs := [(.pointer c1), p2.v]) rfl) (lt_ rfl) h ?_ (fun c w' h H => e_panic (P := PP) (fn := Tryd.f9) H h)
  clear H h a
  rintro _ w9 a ⟨D10, D11, rfl, h⟩ H
  refine s_move H rfl rfl (lt_ rfl) fun a H => s_ext H rfl rfl rfl (lt_ rfl) fun a H => s_ext H rfl rfl rfl (lt_ rfl) fun a H => s_assign H rfl rfl (lt_ rfl) fun a H => s_assign H rfl rfl (lt_ rfl) fun a H => c_nil <| hK8 _ _ <| c_seq fun K12 hK12 => c_reg <| s_move H rfl rfl (lt_ rfl) fun a H => s_call H rfl body_18 (H.args (vs := [(.string (ByteArray.mk #[116, 104, 101, 32, 99, 111, 100, 101])), (.i D11)]) rfl) (lt_ rfl) h ?_ (fun c w' h H => e_panic (P := PP) (fn := Tryd.f9) H h)
  clear H h a
  rintro w14 w13 a ⟨_, rfl, h⟩ H
  refine s_assign H rfl rfl (lt_ rfl) fun a H => c_nil <| hK12 _ _ <| c_seq fun K15 hK15 => c_seq fun K16 hK16 => c_reg <| s_move H rfl rfl (lt_ rfl) fun a H => s_iface H rfl rfl ni_32 (lt_ rfl) fun a H => s_call H rfl body_19 (H.args (vs := [w14, (.iface 32 (.i 20))]) rfl) (lt_ rfl) h ?_ (fun c w' h H => e_panic (P := PP) (fn := Tryd.f9) H h)
  clear H h a
  rintro _ w17 a ⟨I18, rfl, h⟩ H
  refine s_move H rfl rfl (lt_ rfl) fun a H => ?_
  obtain ⟨x23, h24, h25, h⟩ := h
  refine g_join (n := 37) [(26, (.bool x23)), (6, D10.v), (8, w14)] (.succ (.succ (.succ (.zero _)))) ?_ ?_
  ·intro h20
   try clear h
   rcases Bool.eq_false_or_eq_true I18 with h19 | h19
   ·replace H := H.ch (t := 23) (b := true) rfl h19
    refine s_skip H (wantN H rfl rfl rfl) rfl (lt_ rfl) fun a H => s_skip H (wantN H rfl rfl rfl) rfl (lt_ rfl) fun a H => s_pickT H rfl rfl rfl (lt_ rfl) fun a H => ?_
    replace h := h25 h19
    subst h
    exact h20 _ (H.weaken ⟨rfl, rfl, rfl, trivial⟩)
   ·replace H := H.ch (t := 23) (b := false) rfl h19
    replace h := h24 h19
    refine s_move H (wantG H rfl rfl) rfl (lt_ rfl) fun a H => ?_
    obtain ⟨n22, h21, h⟩ := h
    refine s_bin H (wantG H rfl rfl) rfl rfl (r_neN ifc_57 h21) (lt_ rfl) fun a H => s_pickF H rfl rfl rfl (lt_ rfl) fun a H => ?_
    subst h
    exact h20 _ (H.weaken ⟨rfl, rfl, rfl, trivial⟩)
  ·clear H a
   clear h24 h25
   intro a H
   refine c_nil <| hK16 _ _ <| c_cond H rfl (fun h26 => ?_) (fun h26 => ?_)
   ·replace h := h.1 h26
    refine c_seq fun K27 hK27 => c_reg <| s_move H rfl rfl (lt_ rfl) fun a H => s_call H rfl body_20 (H.args (vs := [w14]) rfl) (lt_ rfl) h ?_ (fun c w' h H => e_panic (P := PP) (fn := Tryd.f9) H h)
    clear H h a
    rintro _ w28 a ⟨n29, rfl, h⟩ H
    refine s_assign H rfl rfl (lt_ rfl) fun a H => s_assign H rfl rfl (lt_ rfl) fun a H => c_nil <| hK27 _ _ <| c_ret ?_
    exact e_ret2 H rfl rfl rfl h
   ·replace h := h.2 h26
    refine c_skip <| hK15 _ _ <| c_seq fun K34 hK34 => c_reg <| s_move H rfl rfl (lt_ rfl) fun a H => s_call H rfl body_21 (H.args (vs := [D10.v]) rfl) (lt_ rfl) h ?_ (fun c w' h H => e_panic (P := PP) (fn := Tryd.f9) H h)
    clear H h a
    rintro _ w35 a ⟨w36, w37, rfl, h⟩ H
    refine s_move H rfl rfl (lt_ rfl) fun a H => s_ext H rfl rfl rfl (lt_ rfl) fun a H => s_ext H rfl rfl rfl (lt_ rfl) fun a H => s_assign H rfl rfl (lt_ rfl) fun a H => s_assign H rfl rfl (lt_ rfl) fun a H => c_nil <| hK34 _ _ <| c_seq fun K38 hK38 => c_reg <| s_move H rfl rfl (lt_ rfl) fun a H => s_move H rfl rfl (lt_ rfl) fun a H => s_call H rfl body_20 (H.args (vs := [w37]) rfl) (lt_ rfl) h ?_ (fun c w' h H => e_panic (P := PP) (fn := Tryd.f9) H h)
    clear H h a
    rintro _ w39 a ⟨n40, rfl, h⟩ H
    refine s_assign H rfl rfl (lt_ rfl) fun a H => s_assign H rfl rfl (lt_ rfl) fun a H => c_nil <| hK38 _ _ <| c_ret ?_
    exact e_ret2 H rfl rfl rfl h

theorem sim_sherdlaw05_taken (w : World) (Q : Ending → World → Prop) (h : vc_sherdlaw05_taken w Q) : Calls PP F_sherdlaw05_taken #[] w Q := by
 unfold vc_sherdlaw05_taken at h
 refine enter (n := 64) Tryd.func10 rfl rfl (Nat.le_of_ble_eq_true rfl) fun a H => c_seq fun K1 hK1 => c_reg <| s_assign H rfl rfl (lt_ rfl) fun a H => c_nil <| hK1 _ _ <| c_seq fun K2 hK2 => c_reg <| s_call H rfl body_13 (H.args (vs := [(.i 3), (.i 2)]) rfl) (lt_ rfl) h ?_ (fun c w' h H => e_panic (P := PP) (fn := Tryd.f10) H h)
 clear H h a
 rintro _ w3 a ⟨N4, N5, rfl, h⟩ H
 refine s_move H rfl rfl (lt_ rfl) fun a H => s_ext H rfl rfl rfl (lt_ rfl) fun a H => s_ext H rfl rfl rfl (lt_ rfl) fun a H => s_assign H rfl rfl (lt_ rfl) fun a H => s_assign H rfl rfl (lt_ rfl) fun a H => c_nil <| hK2 _ _ <| c_seq fun K6 hK6 => c_reg <| s_move H rfl rfl (lt_ rfl) fun a H => ?_
 replace h := h.get
 obtain ⟨b7, w8, n9, h⟩ := h
 refine s_bslc H rfl (by rw [H.parts (vs := [(0, (.int .u8 104)), (1, (.int .u8 105)), (2, (.int .u8 33))]) rfl]; exact bs_24_3_iu80_iu81_iu82 w3 104 105 33) (lt_ rfl) ?_
 rw [← n9.at_]
 clear H a
 intro a H
 refine n9.go ?_
 obtain ⟨w11, h10, h⟩ := h
 refine s_cv H rfl rfl h10 (lt_ rfl) ?_
 clear H a h10
 intro a H
 refine s_call H rfl body_6 (H.args (vs := [(.pointer N4), (Slc.v (Slc.mk (some (blk b7)) 3 3))]) rfl) (lt_ rfl) h ?_ (fun c w' h H => e_panic (P := PP) (fn := Tryd.f10) H h)
 clear H h a
 rintro _ w12 a ⟨S13, S14, rfl, h⟩ H
 refine s_move H rfl rfl (lt_ rfl) fun a H => s_ext H rfl rfl rfl (lt_ rfl) fun a H => s_ext H rfl rfl rfl (lt_ rfl) fun a H => s_assign H rfl rfl (lt_ rfl) fun a H => s_assign H rfl rfl (lt_ rfl) fun a H => c_nil <| hK6 _ _ <| c_seq fun K15 hK15 => c_seq fun K16 hK16 => c_reg <| s_move H rfl rfl (lt_ rfl) fun a H => s_bin H rfl rfl rfl r_neq (lt_ rfl) fun a H => s_move H rfl rfl (lt_ rfl) fun a H => ?_
 refine g_join (n := 64) [(23, (.bool ((decide (N5 ≠ 0)) || (decide (S14 ≠ 0))))), (1, (.pointer N4)), (3, S13.v)] (.succ (.succ (.succ (.zero _)))) ?_ ?_
 ·intro h18
  try clear h
  rcases Bool.eq_false_or_eq_true (decide (N5 ≠ 0)) with h17 | h17
  ·replace H := H.ch (t := 20) (b := true) rfl h17
   refine s_skip H (wantN H rfl rfl rfl) rfl (lt_ rfl) fun a H => s_skip H (wantN H rfl rfl rfl) rfl (lt_ rfl) fun a H => s_pickT H rfl rfl rfl (lt_ rfl) fun a H => ?_
   exact h18 _ (H.weaken ⟨by rw [h17]; rfl, rfl, rfl, trivial⟩)
  ·replace H := H.ch (t := 20) (b := false) rfl h17
   refine s_move H (wantG H rfl rfl) rfl (lt_ rfl) fun a H => s_bin H (wantG H rfl rfl) rfl rfl r_neq (lt_ rfl) fun a H => s_pickF H rfl rfl rfl (lt_ rfl) fun a H => ?_
   exact h18 _ (H.weaken ⟨by rw [h17]; rfl, rfl, rfl, trivial⟩)
 ·clear H a
  intro a H
  refine s_move H rfl rfl (lt_ rfl) fun a H => g_join (n := 64) [(28, (.bool (((decide (N5 ≠ 0)) || (decide (S14 ≠ 0))) || (decide ((S13.l : Int) ≠ 3))))), (1, (.pointer N4)), (3, S13.v)] (.succ (.succ (.succ (.succ (.zero _))))) ?_ ?_
  ·intro h20
   try clear h
   rcases Bool.eq_false_or_eq_true ((decide (N5 ≠ 0)) || (decide (S14 ≠ 0))) with h19 | h19
   ·replace H := H.ch (t := 24) (b := true) rfl h19
    iterate 3 refine s_skip H (wantN H rfl rfl rfl) rfl (lt_ rfl) fun a H => ?_
    refine s_pickT H rfl rfl rfl (lt_ rfl) fun a H => ?_
    exact h20 _ (H.weaken ⟨by rw [h19]; rfl, rfl, rfl, trivial⟩)
   ·replace H := H.ch (t := 24) (b := false) rfl h19
    refine s_move H (wantG H rfl rfl) rfl (lt_ rfl) fun a H => s_blt H (wantG H rfl rfl) (H.args (vs := [S13.v]) rfl) (lt_ rfl) (fun cs => b_lenS (z := S13) sl_25) fun a H => s_bin H (wantG H rfl rfl) rfl rfl r_neq (lt_ rfl) fun a H => s_pickF H rfl rfl rfl (lt_ rfl) fun a H => ?_
    exact h20 _ (H.weaken ⟨by rw [h19]; rfl, rfl, rfl, trivial⟩)
  ·clear H a
   intro a H
   refine s_move H rfl rfl (lt_ rfl) fun a H => ?_
   obtain ⟨x31, h32, h33, h⟩ := h
   refine g_join (n := 64) [(35, (.bool x31)), (1, (.pointer N4)), (3, S13.v)] (.succ (.succ (.succ (.succ (.succ (.succ (.zero _))))))) ?_ ?_
   ·intro h22
    try clear h
    rcases Bool.eq_false_or_eq_true (((decide (N5 ≠ 0)) || (decide (S14 ≠ 0))) || (decide ((S13.l : Int) ≠ 3))) with h21 | h21
    ·replace H := H.ch (t := 29) (b := true) rfl h21
     iterate 5 refine s_skip H (wantN H rfl rfl rfl) rfl (lt_ rfl) fun a H => ?_
     refine s_pickT H rfl rfl rfl (lt_ rfl) fun a H => ?_
     replace h := h33 h21
     subst h
     exact h22 _ (H.weaken ⟨rfl, rfl, rfl, trivial⟩)
    ·replace H := H.ch (t := 29) (b := false) rfl h21
     replace h := h32 h21
     refine s_move H (wantG H rfl rfl) rfl (lt_ rfl) fun a H => ?_
     obtain ⟨a23, h24, h25, h26, h⟩ := h
     refine s_idxS (s := S13) H (wantG H rfl rfl) rfl rfl slc_25 h24 h25 h26 (lt_ rfl) fun a H => ?_
     obtain ⟨l27, hc28, h⟩ := h
     refine s_load (v := l27.v) H (wantG H rfl rfl) rfl one_24 hc28 (lt_ rfl) fun a H => ?_
     obtain ⟨s29, h30, h⟩ := h
     refine s_cv H (wantG H rfl rfl) rfl h30 (lt_ rfl) ?_
     clear H a h30
     intro a H
     refine s_bin H (wantG H rfl rfl) rfl rfl r_neqS (lt_ rfl) fun a H => s_pickF H rfl rfl rfl (lt_ rfl) fun a H => ?_
     subst h
     exact h22 _ (H.weaken ⟨rfl, rfl, rfl, trivial⟩)
   ·clear H a
    clear h32 h33
    intro a H
    refine s_move H rfl rfl (lt_ rfl) fun a H => ?_
    obtain ⟨x44, h45, h46, h⟩ := h
    refine g_join (n := 64) [(42, (.bool x44)), (1, (.pointer N4)), (3, S13.v)] (.succ (.succ (.succ (.succ (.succ (.succ (.zero _))))))) ?_ ?_
    ·intro h35
     try clear h
     rcases Bool.eq_false_or_eq_true x31 with h34 | h34
     ·replace H := H.ch (t := 36) (b := true) rfl h34
      iterate 5 refine s_skip H (wantN H rfl rfl rfl) rfl (lt_ rfl) fun a H => ?_
      refine s_pickT H rfl rfl rfl (lt_ rfl) fun a H => ?_
      replace h := h46 h34
      subst h
      exact h35 _ (H.weaken ⟨rfl, rfl, rfl, trivial⟩)
     ·replace H := H.ch (t := 36) (b := false) rfl h34
      replace h := h45 h34
      refine s_move H (wantG H rfl rfl) rfl (lt_ rfl) fun a H => ?_
      obtain ⟨a36, h37, h38, h39, h⟩ := h
      refine s_idxS (s := S13) H (wantG H rfl rfl) rfl rfl slc_25 h37 h38 h39 (lt_ rfl) fun a H => ?_
      obtain ⟨l40, hc41, h⟩ := h
      refine s_load (v := l40.v) H (wantG H rfl rfl) rfl one_24 hc41 (lt_ rfl) fun a H => ?_
      obtain ⟨s42, h43, h⟩ := h
      refine s_cv H (wantG H rfl rfl) rfl h43 (lt_ rfl) ?_
      clear H a h43
      intro a H
      refine s_bin H (wantG H rfl rfl) rfl rfl r_neqS (lt_ rfl) fun a H => s_pickF H rfl rfl rfl (lt_ rfl) fun a H => ?_
      subst h
      exact h35 _ (H.weaken ⟨rfl, rfl, rfl, trivial⟩)
    ·clear H a
     clear h45 h46
     intro a H
     refine c_nil <| hK16 _ _ <| c_cond H rfl (fun h47 => ?_) (fun h47 => ?_)
     ·replace h := h.1 h47
      refine c_seq fun K48 hK48 => c_reg <| s_assign H rfl rfl (lt_ rfl) fun a H => c_nil <| hK48 _ _ <| c_ret ?_
      exact e_ret1 H rfl rfl h
     ·replace h := h.2 h47
      refine c_skip <| hK15 _ _ <| c_seq fun K49 hK49 => ?_
      replace H := H.weaken (L' := [(1, (.pointer N4)), (3, S13.v)]) ⟨rfl, rfl, trivial⟩
      obtain ⟨a50, h51, h52, h53, l54, hc55, a56, h57, h58, h59, l60, hc61, h⟩ := h
      refine c_any (V := [(0, (.pointer N4)), (1, S13.v), (2, (.pointer (some (a50.add (Int.toNat (2) * 1))))), (3, l54.v), (4, (.agg #[(.i 2), l54.v])), (5, S13.v), (6, (.pointer (some (a56.add (Int.toNat (0) * 1))))), (7, l60.v), (8, (.agg #[(.i 0), l60.v]))]) (⟨[[], [], [1], [2], [3], [], [5], [6], [7], [4, 8], [0, 9], [10], [11], [11], [0, 1, 2, 3, 4, 5, 6, 7, 8, 9, 10, 11, 12], [0, 1, 2, 3, 4, 5, 6, 7, 8, 9, 10, 11, 12, 13, 14]], [some 44, some 45, some 46, some 47, some 48, some 49, some 50, some 51, some 52, some 53, some 54, some 43, some 55, some 56, some 5, some 6], [9, 10], [0, 0, 0, 0, 0, 0, 0, 0, 0, 0, 1, 2, 2, 2, 2, 2], [1, 0, 0, 0, 0, 0, 0, 0, 0, 1, 2, 2, 2, 2, 2, 2]⟩ : Rg) [(1, (.pointer N4)), (3, S13.v)] mixed (by kernel_rfl) H ?_
      refine Stg.eff [0, 1, 2, 3, 4, 5, 6, 7, 8] (by kernel_rfl) rfl (.cons ?_ (.cons ?_ (.cons ?_ (.cons ?_ (.cons ?_ (.cons ?_ (.cons ?_ (.cons ?_ (.cons ?_ .nil))))))))) ?_
      ·refine Ans.mk rfl rfl fun a H => s_move H rfl rfl (lt_ rfl) fun a H => ?_
       exact Ans.fin H rfl
      ·refine Ans.mk rfl rfl fun a H => s_move H rfl rfl (lt_ rfl) fun a H => ?_
       exact Ans.fin H rfl
      ·refine Ans.mk rfl rfl fun a H => s_idxS (s := S13) H rfl rfl rfl slc_25 h51 h52 h53 (lt_ rfl) fun a H => ?_
       exact Ans.fin H rfl
      ·refine Ans.mk rfl rfl fun a H => s_load (v := l54.v) H rfl rfl one_24 hc55 (lt_ rfl) fun a H => ?_
       exact Ans.fin H rfl
      ·refine Ans.mk rfl rfl fun a H => s_build H rfl (by rw [H.parts (vs := [(0, (.i 2)), (1, l54.v)]) rfl]; exact bd_41_ii640_s1 (w12.drewN 1) 2 l54) (lt_ rfl) fun a H => ?_
       exact Ans.fin H rfl
      ·refine Ans.mk rfl rfl fun a H => s_move H rfl rfl (lt_ rfl) fun a H => ?_
       exact Ans.fin H rfl
      ·refine Ans.mk rfl rfl fun a H => s_idxS (s := S13) H rfl rfl rfl slc_25 h57 h58 h59 (lt_ rfl) fun a H => ?_
       exact Ans.fin H rfl
      ·refine Ans.mk rfl rfl fun a H => s_load (v := l60.v) H rfl rfl one_24 hc61 (lt_ rfl) fun a H => ?_
       exact Ans.fin H rfl
      ·refine Ans.mk rfl rfl fun a H => s_build H rfl (by rw [H.parts (vs := [(0, (.i 0)), (1, l60.v)]) rfl]; exact bd_41_ii640_s1 (w12.drewN 1) 0 l60) (lt_ rfl) fun a H => ?_
       exact Ans.fin H rfl
      ·intro a H
       replace H := H.weaken (L' := [(48, (.agg #[(.i 2), l54.v])), (52, (.agg #[(.i 0), l60.v]))]) ⟨rfl, rfl, trivial⟩
       replace h := h.get
       obtain ⟨b62, w63, n64, h⟩ := h
       refine s_bslc H rfl (by rw [H.parts (vs := [(0, (.agg #[(.i 2), l54.v])), (1, (.agg #[(.i 0), l60.v]))]) rfl]; exact bs_35_2_ii64s0_ii64s1 (w12.drewN 1) 2 l54 0 l60) (lt_ rfl) ?_
       rw [← n64.at_]
       clear H a
       intro a H
       refine n64.go <| c_nil <| effQ.go [] H rfl rfl <| Stg.eff [0] (by kernel_rfl) rfl (.cons ?_ .nil) ?_
       ·refine Ans.mk rfl rfl fun a H => s_move H rfl rfl (lt_ rfl) fun a H => ?_
        exact Ans.fin H rfl
       ·intro a H
        replace H := H.weaken (L' := [(44, (.pointer N4)), (53, (Slc.v (Slc.mk (some (blk b62)) 2 2)))]) ⟨rfl, rfl, trivial⟩
        refine s_call H rfl body_9 (H.args (vs := [(.pointer N4), (Slc.v (Slc.mk (some (blk b62)) 2 2))]) rfl) (lt_ rfl) h ?_ (fun c w' h H => e_panic (P := PP) (fn := Tryd.f10) H h)
        clear H h a
        rintro _ w65 a ⟨J66, J67, rfl, h⟩ H
        refine c_nil <| effQ.go [(11, (.tuple #[J66.v, (.i J67)])), (12, J66.v), (13, (.i J67)), (14, J66.v), (15, (.i J67))] H rfl rfl <| Stg.fin [11, 12, 13, 14, 15] (by kernel_rfl) (.cons ?_ (.cons ?_ (.cons ?_ (.cons ?_ (.cons ?_ .nil))))) ?_
        ·refine Ans.mk rfl rfl fun a H => s_move H rfl rfl (lt_ rfl) fun a H => ?_
         exact Ans.fin H rfl
        ·refine Ans.mk rfl rfl fun a H => s_ext H rfl rfl rfl (lt_ rfl) fun a H => ?_
         exact Ans.fin H rfl
        ·refine Ans.mk rfl rfl fun a H => s_ext H rfl rfl rfl (lt_ rfl) fun a H => ?_
         exact Ans.fin H rfl
        ·refine Ans.mk rfl rfl fun a H => s_assign H rfl rfl (lt_ rfl) fun a H => ?_
         exact Ans.fin H rfl
        ·refine Ans.mk rfl rfl fun a H => s_assign H rfl rfl (lt_ rfl) fun a H => ?_
         exact Ans.fin H rfl
        ·intro a H
         replace H := H.weaken (L' := [(5, J66.v), (6, (.i J67))]) ⟨rfl, rfl, trivial⟩
         refine hK49 _ _ <| c_seq fun K68 hK68 => c_reg <| s_move H rfl rfl (lt_ rfl) fun a H => s_bin H rfl rfl rfl r_eql (lt_ rfl) fun a H => s_move H rfl rfl (lt_ rfl) fun a H => ?_
         obtain ⟨x73, h74, h75, h⟩ := h
         refine g_join (n := 64) [(63, (.bool x73))] (.succ (.succ (.succ (.succ (.zero _))))) ?_ ?_
         ·intro h70
          try clear h
          rcases Bool.eq_false_or_eq_true (decide (J67 = 0)) with h69 | h69
          ·replace H := H.ch (t := 59) (b := true) rfl h69
           replace h := h74 h69
           refine s_move H (wantG H rfl rfl) rfl (lt_ rfl) fun a H => ?_
           obtain ⟨s71, h72, h⟩ := h
           refine s_cv H (wantG H rfl rfl) rfl h72 (lt_ rfl) ?_
           clear H a h72
           intro a H
           refine s_bin H (wantG H rfl rfl) rfl rfl r_eqlS (lt_ rfl) fun a H => s_pickT H rfl rfl rfl (lt_ rfl) fun a H => ?_
           subst h
           exact h70 _ (H.weaken ⟨rfl, trivial⟩)
          ·replace H := H.ch (t := 59) (b := false) rfl h69
           iterate 3 refine s_skip H (wantN H rfl rfl rfl) rfl (lt_ rfl) fun a H => ?_
           refine s_pickF H rfl rfl rfl (lt_ rfl) fun a H => ?_
           replace h := h75 h69
           subst h
           exact h70 _ (H.weaken ⟨rfl, trivial⟩)
         ·clear H a
          clear h74 h75
          intro a H
          refine s_assign H rfl rfl (lt_ rfl) fun a H => c_nil <| hK68 _ _ <| c_ret ?_
          exact e_ret1 H rfl rfl h

theorem sim_stripe_Size (l1 k2 : Int) (w : World) (Q : Ending → World → Prop) (h : vc_stripe_Size l1 k2 w Q) : Calls PP F_stripe_Size #[(.i l1), (.i k2)] w Q := by
 unfold vc_stripe_Size at h
 refine enter (n := 21) Tryd.func11 rfl rfl (Nat.le_of_ble_eq_true rfl) fun a H => c_seq fun K3 hK3 => c_reg <| s_assign H rfl rfl (lt_ rfl) fun a H => s_assign H rfl rfl (lt_ rfl) fun a H => c_nil <| hK3 _ _ <| c_seq fun K4 hK4 => c_seq fun K5 hK5 => c_reg <| s_move H rfl rfl (lt_ rfl) fun a H => s_bin H rfl rfl rfl r_lss (lt_ rfl) fun a H => s_move H rfl rfl (lt_ rfl) fun a H => ?_
 refine g_join (n := 21) [(11, (.bool ((decide (k2 < 1)) || (decide (255 < k2))))), (0, (.i l1)), (1, (.i k2))] (.succ (.succ (.succ (.zero _)))) ?_ ?_
 ·intro h7
  try clear h
  rcases Bool.eq_false_or_eq_true (decide (k2 < 1)) with h6 | h6
  ·replace H := H.ch (t := 8) (b := true) rfl h6
   refine s_skip H (wantN H rfl rfl rfl) rfl (lt_ rfl) fun a H => s_skip H (wantN H rfl rfl rfl) rfl (lt_ rfl) fun a H => s_pickT H rfl rfl rfl (lt_ rfl) fun a H => ?_
   exact h7 _ (H.weaken ⟨by rw [h6]; rfl, rfl, rfl, trivial⟩)
  ·replace H := H.ch (t := 8) (b := false) rfl h6
   refine s_move H (wantG H rfl rfl) rfl (lt_ rfl) fun a H => s_bin H (wantG H rfl rfl) rfl rfl r_gtr (lt_ rfl) fun a H => s_pickF H rfl rfl rfl (lt_ rfl) fun a H => ?_
   exact h7 _ (H.weaken ⟨by rw [h6]; rfl, rfl, rfl, trivial⟩)
 ·clear H a
  intro a H
  refine s_move H rfl rfl (lt_ rfl) fun a H => g_join (n := 21) [(15, (.bool (((decide (k2 < 1)) || (decide (255 < k2))) || (decide (l1 < 0))))), (0, (.i l1)), (1, (.i k2))] (.succ (.succ (.succ (.zero _)))) ?_ ?_
  ·intro h9
   try clear h
   rcases Bool.eq_false_or_eq_true ((decide (k2 < 1)) || (decide (255 < k2))) with h8 | h8
   ·replace H := H.ch (t := 12) (b := true) rfl h8
    refine s_skip H (wantN H rfl rfl rfl) rfl (lt_ rfl) fun a H => s_skip H (wantN H rfl rfl rfl) rfl (lt_ rfl) fun a H => s_pickT H rfl rfl rfl (lt_ rfl) fun a H => ?_
    exact h9 _ (H.weaken ⟨by rw [h8]; rfl, rfl, rfl, trivial⟩)
   ·replace H := H.ch (t := 12) (b := false) rfl h8
    refine s_move H (wantG H rfl rfl) rfl (lt_ rfl) fun a H => s_bin H (wantG H rfl rfl) rfl rfl r_lss (lt_ rfl) fun a H => s_pickF H rfl rfl rfl (lt_ rfl) fun a H => ?_
    exact h9 _ (H.weaken ⟨by rw [h8]; rfl, rfl, rfl, trivial⟩)
  ·clear H a
   intro a H
   refine c_nil <| hK5 _ _ <| c_cond H rfl (fun h10 => ?_) (fun h10 => ?_)
   ·replace h := h.1 h10
    refine c_seq fun K11 hK11 => c_reg <| s_assign H rfl rfl (lt_ rfl) fun a H => s_assign H rfl rfl (lt_ rfl) fun a H => c_nil <| hK11 _ _ <| c_ret ?_
    exact e_ret2 H rfl rfl rfl h
   ·replace h := h.2 h10
    refine c_skip <| hK4 _ _ <| c_seq fun K12 hK12 => c_seq fun K13 hK13 => c_reg <| s_move H rfl rfl (lt_ rfl) fun a H => s_bin H rfl rfl rfl r_gtr (lt_ rfl) fun a H => c_nil <| hK13 _ _ <| c_cond H rfl (fun h14 => ?_) (fun h14 => ?_)
    ·replace h := h.1 h14
     refine c_seq fun K15 hK15 => c_reg <| s_assign H rfl rfl (lt_ rfl) fun a H => s_assign H rfl rfl (lt_ rfl) fun a H => c_nil <| hK15 _ _ <| c_ret ?_
     exact e_ret2 H rfl rfl rfl h
    ·replace h := h.2 h14
     refine c_skip <| hK12 _ _ <| c_seq fun K16 hK16 => c_reg <| s_move H rfl rfl (lt_ rfl) fun a H => s_move H rfl rfl (lt_ rfl) fun a H => s_call H rfl body_22 (H.args (vs := [(.i l1), (.i k2)]) rfl) (lt_ rfl) h ?_ (fun c w' h H => e_panic (P := PP) (fn := Tryd.f11) H h)
     clear H h a
     rintro _ w17 a ⟨s18, rfl, h⟩ H
     refine s_assign H rfl rfl (lt_ rfl) fun a H => s_assign H rfl rfl (lt_ rfl) fun a H => c_nil <| hK16 _ _ <| c_ret ?_
     exact e_ret2 H rfl rfl rfl h

theorem sim_stripe_Cut (c1 : Option Addr) (v2 : Slc) (i3 : Int) (w : World) (Q : Ending → World → Prop) (h : vc_stripe_Cut c1 v2 i3 w Q) : Calls PP F_stripe_Cut #[(.pointer c1), v2.v, (.i i3)] w Q := by
 unfold vc_stripe_Cut at h
 refine enter (n := 22) Tryd.func12 rfl rfl (Nat.le_of_ble_eq_true rfl) fun a H => c_seq fun K4 hK4 => c_reg <| s_assign H rfl rfl (lt_ rfl) fun a H => s_assign H rfl rfl (lt_ rfl) fun a H => c_nil <| hK4 _ _ <| c_seq fun K5 hK5 => c_seq fun K6 hK6 => c_reg <| s_move H rfl rfl (lt_ rfl) fun a H => s_bin H rfl rfl rfl (r_eqP0 ptr_29) (lt_ rfl) fun a H => c_nil <| hK6 _ _ <| c_cond H rfl (fun h7 => ?_) (fun h7 => ?_)
 ·replace h := h.1 h7
  refine c_seq fun K8 hK8 => c_reg <| s_assign H rfl rfl (lt_ rfl) fun a H => s_assign H rfl rfl (lt_ rfl) fun a H => c_nil <| hK8 _ _ <| c_ret ?_
  exact e_ret2 H rfl rfl rfl h
 ·replace h := h.2 h7
  refine c_skip <| hK5 _ _ <| c_seq fun K9 hK9 => c_seq fun K10 hK10 => c_reg <| s_move H rfl rfl (lt_ rfl) fun a H => s_blt H rfl (H.args (vs := [v2.v]) rfl) (lt_ rfl) (fun cs => b_lenS (z := v2) sl_24) fun a H => s_bin H rfl rfl rfl r_gtr (lt_ rfl) fun a H => c_nil <| hK10 _ _ <| c_cond H rfl (fun h11 => ?_) (fun h11 => ?_)
  ·replace h := h.1 h11
   refine c_seq fun K12 hK12 => c_reg <| s_assign H rfl rfl (lt_ rfl) fun a H => s_assign H rfl rfl (lt_ rfl) fun a H => c_nil <| hK12 _ _ <| c_ret ?_
   exact e_ret2 H rfl rfl rfl h
  ·replace h := h.2 h11
   refine c_skip <| hK9 _ _ <| c_seq fun K13 hK13 => c_reg ?_
   iterate 3 refine s_move H rfl rfl (lt_ rfl) fun a H => ?_
   refine s_call H rfl body_16 (H.args (vs := [(.pointer c1)]) rfl) (lt_ rfl) h ?_ (fun c w' h H => e_panic (P := PP) (fn := Tryd.f12) H h)
   clear H h a
   rintro _ w14 a ⟨K15, rfl, h⟩ H
   refine s_call H rfl body_15 (H.args (vs := [v2.v, (.i K15)]) rfl) (lt_ rfl) h ?_ (fun c w' h H => e_panic (P := PP) (fn := Tryd.f12) H h)
   clear H h a
   rintro _ w16 a ⟨c17, rfl, h⟩ H
   refine s_move H rfl rfl (lt_ rfl) fun a H => s_call H rfl body_23 (H.args (vs := [(.pointer c1), c17.v, (.i i3)]) rfl) (lt_ rfl) h ?_ (fun c w' h H => e_panic (P := PP) (fn := Tryd.f12) H h)
   clear H h a
   rintro _ w18 a ⟨R19, R20, rfl, h⟩ H
   refine s_ext H rfl rfl rfl (lt_ rfl) fun a H => s_ext H rfl rfl rfl (lt_ rfl) fun a H => s_assign H rfl rfl (lt_ rfl) fun a H => s_assign H rfl rfl (lt_ rfl) fun a H => c_nil <| hK13 _ _ <| c_ret ?_
   exact e_ret2 H rfl rfl rfl h

theorem sim_code_New (n1 k2 : Int) (w : World) (Q : Ending → World → Prop) (h : vc_code_New n1 k2 w Q) : Calls PP F_code_New #[(.i n1), (.i k2)] w Q := by
 unfold vc_code_New at h
 refine enter (n := 28) Tryd.func13 rfl rfl (Nat.le_of_ble_eq_true rfl) fun a H => c_seq fun K3 hK3 => c_reg <| s_assign H rfl rfl (lt_ rfl) fun a H => s_assign H rfl rfl (lt_ rfl) fun a H => c_nil <| hK3 _ _ <| c_seq fun K4 hK4 => c_seq fun K5 hK5 => c_reg <| s_move H rfl rfl (lt_ rfl) fun a H => s_bin H rfl rfl rfl r_lss (lt_ rfl) fun a H => s_move H rfl rfl (lt_ rfl) fun a H => ?_
 refine g_join (n := 28) [(13, (.bool ((decide (k2 < 1)) || (decide (n1 < k2))))), (0, (.i n1)), (1, (.i k2))] (.succ (.succ (.succ (.succ (.zero _))))) ?_ ?_
 ·intro h7
  try clear h
  rcases Bool.eq_false_or_eq_true (decide (k2 < 1)) with h6 | h6
  ·replace H := H.ch (t := 9) (b := true) rfl h6
   iterate 3 refine s_skip H (wantN H rfl rfl rfl) rfl (lt_ rfl) fun a H => ?_
   refine s_pickT H rfl rfl rfl (lt_ rfl) fun a H => ?_
   exact h7 _ (H.weaken ⟨by rw [h6]; rfl, rfl, rfl, trivial⟩)
  ·replace H := H.ch (t := 9) (b := false) rfl h6
   refine s_move H (wantG H rfl rfl) rfl (lt_ rfl) fun a H => s_move H (wantG H rfl rfl) rfl (lt_ rfl) fun a H => s_bin H (wantG H rfl rfl) rfl rfl r_lss (lt_ rfl) fun a H => s_pickF H rfl rfl rfl (lt_ rfl) fun a H => ?_
   exact h7 _ (H.weaken ⟨by rw [h6]; rfl, rfl, rfl, trivial⟩)
 ·clear H a
  intro a H
  refine s_move H rfl rfl (lt_ rfl) fun a H => g_join (n := 28) [(17, (.bool (((decide (k2 < 1)) || (decide (n1 < k2))) || (decide (255 < n1))))), (0, (.i n1)), (1, (.i k2))] (.succ (.succ (.succ (.zero _)))) ?_ ?_
  ·intro h9
   try clear h
   rcases Bool.eq_false_or_eq_true ((decide (k2 < 1)) || (decide (n1 < k2))) with h8 | h8
   ·replace H := H.ch (t := 14) (b := true) rfl h8
    refine s_skip H (wantN H rfl rfl rfl) rfl (lt_ rfl) fun a H => s_skip H (wantN H rfl rfl rfl) rfl (lt_ rfl) fun a H => s_pickT H rfl rfl rfl (lt_ rfl) fun a H => ?_
    exact h9 _ (H.weaken ⟨by rw [h8]; rfl, rfl, rfl, trivial⟩)
   ·replace H := H.ch (t := 14) (b := false) rfl h8
    refine s_move H (wantG H rfl rfl) rfl (lt_ rfl) fun a H => s_bin H (wantG H rfl rfl) rfl rfl r_gtr (lt_ rfl) fun a H => s_pickF H rfl rfl rfl (lt_ rfl) fun a H => ?_
    exact h9 _ (H.weaken ⟨by rw [h8]; rfl, rfl, rfl, trivial⟩)
  ·clear H a
   intro a H
   refine c_nil <| hK5 _ _ <| c_cond H rfl (fun h10 => ?_) (fun h10 => ?_)
   ·replace h := h.1 h10
    refine c_seq fun K11 hK11 => c_reg <| s_assign H rfl rfl (lt_ rfl) fun a H => s_assign H rfl rfl (lt_ rfl) fun a H => c_nil <| hK11 _ _ <| c_ret ?_
    exact e_ret2 H rfl rfl rfl h
   ·replace h := h.2 h10
    refine c_skip <| hK4 _ _ <| c_seq fun K12 hK12 => c_reg <| s_call H rfl body_24 (H.args (vs := []) rfl) (lt_ rfl) h ?_ (fun c w' h H => e_panic (P := PP) (fn := Tryd.f13) H h)
    clear H h a
    rintro _ w13 a ⟨S14, rfl, h⟩ H
    refine s_assign H rfl rfl (lt_ rfl) fun a H => c_nil <| hK12 _ _ <| c_seq fun K15 hK15 => c_reg ?_
    iterate 6 refine s_move H rfl rfl (lt_ rfl) fun a H => ?_
    refine s_call H rfl body_25 (H.args (vs := [(.pointer S14), (.i n1), (.i k2)]) rfl) (lt_ rfl) h ?_ (fun c w' h H => e_panic (P := PP) (fn := Tryd.f13) H h)
    clear H h a
    rintro _ w16 a ⟨g17, rfl, h⟩ H
    refine s_build H rfl (by rw [H.parts (vs := [(0, (.pointer S14)), (1, (.i n1)), (2, (.i k2)), (3, g17.v)]) rfl]; exact bd_69_p0_ii641_ii642_s3 w16 S14 n1 k2 g17) (lt_ rfl) fun a H => ?_
    replace h := h.get
    obtain ⟨b18, w19, n20, h⟩ := h
    refine s_box H rfl rfl (lt_ rfl) ?_
    rw [← n20.at_]
    clear H a
    intro a H
    refine n20.go <| s_assign H rfl rfl (lt_ rfl) fun a H => s_assign H rfl rfl (lt_ rfl) fun a H => c_nil <| hK15 _ _ <| c_ret ?_
    exact e_ret2 H rfl rfl rfl h

theorem sim_code_Code_Encode (c1 : Option Addr) (d2 : Slc) (w : World) (Q : Ending → World → Prop) (h : vc_code_Code_Encode c1 d2 w Q) : Calls PP F_code_Code_Encode #[(.pointer c1), d2.v] w Q := by
 unfold vc_code_Code_Encode at h
 refine enter (n := 33) Tryd.func14 rfl rfl (Nat.le_of_ble_eq_true rfl) fun a H => c_seq fun K3 hK3 => c_reg <| s_assign H rfl rfl (lt_ rfl) fun a H => s_assign H rfl rfl (lt_ rfl) fun a H => c_nil <| hK3 _ _ <| c_seq fun K4 hK4 => c_seq fun K5 hK5 => c_reg <| s_move H rfl rfl (lt_ rfl) fun a H => s_bin H rfl rfl rfl (r_eqP0 ptr_29) (lt_ rfl) fun a H => c_nil <| hK5 _ _ <| c_cond H rfl (fun h6 => ?_) (fun h6 => ?_)
 ·replace h := h.1 h6
  refine c_seq fun K7 hK7 => c_reg <| s_assign H rfl rfl (lt_ rfl) fun a H => s_assign H rfl rfl (lt_ rfl) fun a H => c_nil <| hK7 _ _ <| c_ret ?_
  exact e_ret2 H rfl rfl rfl h
 ·replace h := h.2 h6
  refine c_skip <| hK4 _ _ <| c_seq fun K8 hK8 => c_seq fun K9 hK9 => c_reg <| s_move H rfl rfl (lt_ rfl) fun a H => s_move H rfl rfl (lt_ rfl) fun a H => s_call H rfl body_26 (H.args (vs := [(.pointer c1), d2.v]) rfl) (lt_ rfl) h ?_ (fun c w' h H => e_panic (P := PP) (fn := Tryd.f14) H h)
  clear H h a
  rintro _ w10 a ⟨s11, rfl, h⟩ H
  refine s_un H rfl rfl r_not (lt_ rfl) fun a H => c_nil <| hK9 _ _ <| c_cond H rfl (fun h12 => ?_) (fun h12 => ?_)
  ·replace h := h.1 h12
   refine c_seq fun K13 hK13 => c_reg <| s_assign H rfl rfl (lt_ rfl) fun a H => s_assign H rfl rfl (lt_ rfl) fun a H => c_nil <| hK13 _ _ <| c_ret ?_
   exact e_ret2 H rfl rfl rfl h
  ·replace h := h.2 h12
   refine c_skip <| hK8 _ _ <| c_seq fun K14 hK14 => c_reg <| s_assign H rfl rfl (lt_ rfl) fun a H => c_nil <| hK14 _ _ <| c_seq fun K15 hK15 => c_seq fun K16 hK16 => c_reg <| s_move H rfl rfl (lt_ rfl) fun a H => ?_
   obtain ⟨a17, h51, h⟩ := h
   revert H
   subst h51
   intro H
   refine s_nil H rfl rfl (lt_ rfl) fun a H => s_fld H rfl rfl fld_69_3 (lt_ rfl) fun a H => ?_
   obtain ⟨l18, hc19, h⟩ := h
   refine s_load (v := l18.v) H rfl rfl one_25 hc19 (lt_ rfl) fun a H => s_blt H rfl (H.args (vs := [l18.v]) rfl) (lt_ rfl) (fun cs => b_lenS (z := l18) sl_25) fun a H => s_move H rfl rfl (lt_ rfl) fun a H => c_nil <| hK16 _ _ <| c_block ?_
   obtain ⟨I23, m24, h49, h50⟩ := h
   refine c_loop (σ := Slc × Int) (fun z w => I23 z.1 z.2 w) (fun z w => m24 z.1 z.2 w) (fun z => [(0, (.pointer (some a17))), (1, d2.v), (6, z.1.v), (18, l18.v), (19, (.i (l18.l : Int))), (20, (.i z.2))]) (Slc.nil, 0) h49 (H.weaken ⟨rfl, rfl, rfl, rfl, rfl, rfl, trivial⟩) ?_
   clear H h49
   rintro ⟨o20, s21⟩ a w22 h H
   replace h := h50 o20 s21 w22 h
   clear h50
   replace H : Has 33 [] a [(0, (.pointer (some a17))), (1, d2.v), (6, o20.v), (18, l18.v), (19, (.i (l18.l : Int))), (20, (.i s21))] := H
   refine c_seq fun K25 hK25 => c_reg <| s_bin H rfl rfl rfl r_lss (lt_ rfl) fun a H => c_nil <| hK25 _ _ <| c_seq fun K26 hK26 => c_cond H rfl (fun h27 => ?_) (fun h27 => ?_)
   ·replace h := h.1 h27
    refine c_skip <| hK26 _ _ <| c_seq fun K28 hK28 => c_block <| c_seq fun K29 hK29 => c_reg ?_
    obtain ⟨a30, h31, h32, h33, h⟩ := h
    refine s_idxS (s := l18) H rfl rfl rfl slc_25 h31 h32 h33 (lt_ rfl) fun a H => ?_
    obtain ⟨l34, hc35, h⟩ := h
    refine s_load (v := l34.v) H rfl rfl one_24 hc35 (lt_ rfl) fun a H => s_assign H rfl rfl (lt_ rfl) fun a H => c_nil <| hK29 _ _ <| c_reg ?_
    iterate 4 refine s_move H rfl rfl (lt_ rfl) fun a H => ?_
    refine s_call H rfl body_27 (H.args (vs := [(.pointer (some a17)), l34.v, d2.v]) rfl) (lt_ rfl) h ?_ (fun c w' h H => e_panic (P := PP) (fn := Tryd.f14) H h)
    clear H h a
    rintro _ w36 a ⟨s37, rfl, h⟩ H
    replace h := h.get
    obtain ⟨b38, w39, n40, h⟩ := h
    refine s_bslc H rfl (by rw [H.parts (vs := [(0, s37.v)]) rfl]; exact bs_25_1_s0 w36 s37) (lt_ rfl) ?_
    rw [← n40.at_]
    clear H a
    intro a H
    refine n40.go ?_
    obtain ⟨s41, w42, h43, h⟩ := h
    refine s_blt H rfl (H.args (vs := [o20.v, (Slc.v (Slc.mk (some (blk b38)) 1 1))]) rfl) (lt_ rfl) (fun cs => b_app (z := s41) h43) ?_
    clear H a h43
    intro a H
    refine s_assign H rfl rfl (lt_ rfl) fun a H => c_nil <| hK28 _ _ <| c_reg <| s_bin H rfl rfl rfl r_add (lt_ rfl) fun a H => s_move H rfl rfl (lt_ rfl) fun a H => c_nil <| Exists.intro (s41, wr .i64 (s21 + 1)) ⟨h.1, h.2, H.weaken ⟨rfl, rfl, rfl, rfl, rfl, rfl, trivial⟩⟩
   ·replace h := h.2 h27
    refine c_exit ?_
    first | (simp only [Exit.then, Exit.inBlock, ↓reduceIte]; fail_if_success simp only [Nat.reduceEqDiff]) | simp only [Exit.then, Exit.inBlock, ↓reduceIte, Nat.reduceEqDiff]
    refine hK15 _ _ <| c_seq fun K48 hK48 => c_reg <| s_move H rfl rfl (lt_ rfl) fun a H => s_assign H rfl rfl (lt_ rfl) fun a H => s_assign H rfl rfl (lt_ rfl) fun a H => c_nil <| hK48 _ _ <| c_ret ?_
    exact e_ret2 H rfl rfl rfl h

theorem sim_stripe_cut (v1 : Slc) (k2 : Int) (w : World) (Q : Ending → World → Prop) (h : vc_stripe_cut v1 k2 w Q) : Calls PP F_stripe_cut #[v1.v, (.i k2)] w Q := by
 unfold vc_stripe_cut at h
 refine enter (n := 59) Tryd.func15 rfl rfl (Nat.le_of_ble_eq_true rfl) fun a H => c_seq fun K3 hK3 => c_reg <| s_assign H rfl rfl (lt_ rfl) fun a H => c_nil <| hK3 _ _ <| c_seq fun K4 hK4 => c_reg <| s_move H rfl rfl (lt_ rfl) fun a H => s_blt H rfl (H.args (vs := [v1.v]) rfl) (lt_ rfl) (fun cs => b_lenS (z := v1) sl_24) fun a H => s_move H rfl rfl (lt_ rfl) fun a H => ?_
 refine s_call H rfl body_22 (H.args (vs := [(.i (v1.l : Int)), (.i k2)]) rfl) (lt_ rfl) h ?_ (fun c w' h H => e_panic (P := PP) (fn := Tryd.f15) H h)
 clear H h a
 rintro _ w5 a ⟨s6, rfl, h⟩ H
 refine s_assign H rfl rfl (lt_ rfl) fun a H => c_nil <| hK4 _ _ <| c_seq fun K7 hK7 => c_reg <| s_move H rfl rfl (lt_ rfl) fun a H => s_move H rfl rfl (lt_ rfl) fun a H => s_bin H rfl rfl rfl r_mul (lt_ rfl) fun a H => ?_
 obtain ⟨s8, w9, h10, h⟩ := h
 refine s_mk H rfl rfl rfl h10 (lt_ rfl) ?_
 clear H a h10
 intro a H
 refine s_assign H rfl rfl (lt_ rfl) fun a H => c_nil <| hK7 _ _ <| c_seq fun K11 hK11 => c_reg <| s_move H rfl rfl (lt_ rfl) fun a H => s_blt H rfl (H.args (vs := [v1.v]) rfl) (lt_ rfl) (fun cs => b_lenS (z := v1) sl_24) fun a H => s_assign H rfl rfl (lt_ rfl) fun a H => c_nil <| hK11 _ _ <| c_seq fun K12 hK12 => c_reg <| s_move H rfl rfl (lt_ rfl) fun a H => s_move H rfl rfl (lt_ rfl) fun a H => s_cv H rfl rfl (r_cvI some_3 int_5) (lt_ rfl) fun a H => ?_
 refine s_move H rfl rfl (lt_ rfl) fun a H => s_bin H rfl rfl rfl (r_shr (by decide)) (lt_ rfl) fun a H => s_cv H rfl rfl (r_cvI some_3 int_5) (lt_ rfl) fun a H => s_move H rfl rfl (lt_ rfl) fun a H => s_bin H rfl rfl rfl (r_shr (by decide)) (lt_ rfl) fun a H => s_cv H rfl rfl (r_cvI some_3 int_5) (lt_ rfl) fun a H => s_move H rfl rfl (lt_ rfl) fun a H => s_bin H rfl rfl rfl (r_shr (by decide)) (lt_ rfl) fun a H => s_cv H rfl rfl (r_cvI some_3 int_5) (lt_ rfl) fun a H => ?_
 replace h := h.get
 obtain ⟨b13, w14, n15, h⟩ := h
 refine s_bslc H rfl (by rw [H.parts (vs := [(0, (.int .u8 (wr .u8 (v1.l : Int)))), (1, (.int .u8 (wr .u8 (shrI .i64 (v1.l : Int) 8)))), (2, (.int .u8 (wr .u8 (shrI .i64 (v1.l : Int) 16)))), (3, (.int .u8 (wr .u8 (shrI .i64 (v1.l : Int) 24))))]) rfl]; exact bs_24_4_iu80_iu81_iu82_iu83 w9 (wr .u8 (v1.l : Int)) (wr .u8 (shrI .i64 (v1.l : Int) 8)) (wr .u8 (shrI .i64 (v1.l : Int) 16)) (wr .u8 (shrI .i64 (v1.l : Int) 24))) (lt_ rfl) ?_
 rw [← n15.at_]
 clear H a
 intro a H
 refine n15.go ?_
 obtain ⟨n16, w17, h18, h⟩ := h
 refine s_blt H rfl (H.args (vs := [s8.v, (Slc.v (Slc.mk (some (blk b13)) 4 4))]) rfl) (lt_ rfl) (fun cs => b_cpy (a := n16) h18) ?_
 clear H a h18
 intro a H
 refine c_nil <| hK12 _ _ <| c_seq fun K19 hK19 => c_reg <| s_move H rfl rfl (lt_ rfl) fun a H => ?_
 obtain ⟨h20, h21, h22, h⟩ := h
 refine s_slice (v := (Slc.v (s8.cut 1 (Int.toNat (4)) (Int.toNat ((s8.l : Int)))))) H rfl rfl ⟨rfl, rfl⟩ ⟨rfl, rfl⟩ ⟨rfl, rfl⟩ (r_sliceSlc (lo := (some (.i64, 4))) (hi := none) slc_24 rfl rfl h20 h21 h22) (lt_ rfl) fun a H => s_move H rfl rfl (lt_ rfl) fun a H => ?_
 obtain ⟨n23, w24, h25, h⟩ := h
 refine s_blt H rfl (H.args (vs := [(Slc.v (s8.cut 1 (Int.toNat (4)) (Int.toNat ((s8.l : Int))))), v1.v]) rfl) (lt_ rfl) (fun cs => b_cpy (a := n23) h25) ?_
 clear H a h25
 intro a H
 refine c_nil <| hK19 _ _ <| c_seq fun K26 hK26 => c_reg <| s_move H rfl rfl (lt_ rfl) fun a H => ?_
 obtain ⟨s27, w28, h29, h⟩ := h
 refine s_mk H rfl rfl rfl h29 (lt_ rfl) ?_
 clear H a h29
 intro a H
 refine s_assign H rfl rfl (lt_ rfl) fun a H => c_nil <| hK26 _ _ <| c_seq fun K30 hK30 => c_seq fun K31 hK31 => c_reg <| s_move H rfl rfl (lt_ rfl) fun a H => s_blt H rfl (H.args (vs := [s27.v]) rfl) (lt_ rfl) (fun cs => b_lenS (z := s27) sl_25) fun a H => s_move H rfl rfl (lt_ rfl) fun a H => c_nil <| hK31 _ _ <| c_block ?_
 obtain ⟨I34, m35, h52, h53⟩ := h
 refine c_loop (σ := Int) (fun z w => I34 z w) (fun z w => m35 z w) (fun z => [(5, (.i s6)), (6, s8.v), (8, s27.v), (41, (.i (s27.l : Int))), (42, (.i z))]) 0 h52 (H.weaken ⟨rfl, rfl, rfl, rfl, rfl, trivial⟩) ?_
 clear H h52
 rintro s32 a w33 h H
 replace h := h53 s32 w33 h
 clear h53
 replace H : Has 59 [] a [(5, (.i s6)), (6, s8.v), (8, s27.v), (41, (.i (s27.l : Int))), (42, (.i s32))] := H
 refine c_seq fun K36 hK36 => c_reg <| s_bin H rfl rfl rfl r_lss (lt_ rfl) fun a H => c_nil <| hK36 _ _ <| c_seq fun K37 hK37 => c_cond H rfl (fun h38 => ?_) (fun h38 => ?_)
 ·replace h := h.1 h38
  refine c_skip <| hK37 _ _ <| c_seq fun K39 hK39 => c_block <| c_seq fun K40 hK40 => c_reg <| s_move H rfl rfl (lt_ rfl) fun a H => s_assign H rfl rfl (lt_ rfl) fun a H => c_nil <| hK40 _ _ <| c_reg ?_
  iterate 5 refine s_move H rfl rfl (lt_ rfl) fun a H => ?_
  refine s_bin H rfl rfl rfl r_mul (lt_ rfl) fun a H => s_move H rfl rfl (lt_ rfl) fun a H => s_bin H rfl rfl rfl r_add (lt_ rfl) fun a H => s_move H rfl rfl (lt_ rfl) fun a H => s_bin H rfl rfl rfl r_mul (lt_ rfl) fun a H => ?_
  obtain ⟨h41, h42, h43, h⟩ := h
  refine s_slice (v := (Slc.v (s8.cut 1 (Int.toNat (wr .i64 (s32 * s6))) (Int.toNat (wr .i64 ((wr .i64 (s32 + 1)) * s6)))))) H rfl rfl ⟨rfl, rfl⟩ ⟨rfl, rfl⟩ ⟨rfl, rfl⟩ (r_sliceSlc (lo := (some (.i64, wr .i64 (s32 * s6)))) (hi := (some (.i64, wr .i64 ((wr .i64 (s32 + 1)) * s6)))) slc_24 rfl rfl h41 h42 h43) (lt_ rfl) fun a H => ?_
  obtain ⟨a44, h45, h46, h47, h⟩ := h
  refine s_idxS (s := s27) H rfl rfl rfl slc_25 h45 h46 h47 (lt_ rfl) fun a H => ?_
  obtain ⟨h49, h50, h⟩ := h
  refine s_sto (p := a44.add (Int.toNat (s32) * 1)) (v := (Slc.v (s8.cut 1 (Int.toNat (wr .i64 (s32 * s6))) (Int.toNat (wr .i64 ((wr .i64 (s32 + 1)) * s6)))))) H rfl rfl rfl rfl one_24 rfl h49 h50 ?_
  clear H
  intro H
  generalize hww48 : World.setCell w33 (a44.add (Int.toNat (s32) * 1)) (Slc.v (s8.cut 1 (Int.toNat (wr .i64 (s32 * s6))) (Int.toNat (wr .i64 ((wr .i64 (s32 + 1)) * s6))))) = w48 at h ⊢
  have w48S : SetAt w33 (a44.add (Int.toNat (s32) * 1)) (Slc.v (s8.cut 1 (Int.toNat (wr .i64 (s32 * s6))) (Int.toNat (wr .i64 ((wr .i64 (s32 + 1)) * s6))))) w48 := ⟨hww48.symm⟩
  clear hww48 h49 h50
  refine c_nil <| hK39 _ _ <| c_reg <| s_bin H rfl rfl rfl r_add (lt_ rfl) fun a H => s_move H rfl rfl (lt_ rfl) fun a H => c_nil <| Exists.intro (wr .i64 (s32 + 1)) ⟨h.1, h.2, H.weaken ⟨rfl, rfl, rfl, rfl, rfl, trivial⟩⟩
 ·replace h := h.2 h38
  refine c_exit ?_
  first | (simp only [Exit.then, Exit.inBlock, ↓reduceIte]; fail_if_success simp only [Nat.reduceEqDiff]) | simp only [Exit.then, Exit.inBlock, ↓reduceIte, Nat.reduceEqDiff]
  refine hK30 _ _ <| c_seq fun K51 hK51 => c_reg <| s_move H rfl rfl (lt_ rfl) fun a H => s_assign H rfl rfl (lt_ rfl) fun a H => c_nil <| hK51 _ _ <| c_ret ?_
  exact e_ret1 H rfl rfl h
end Go.Proofs.YteoeboeaanjehaaDoor
