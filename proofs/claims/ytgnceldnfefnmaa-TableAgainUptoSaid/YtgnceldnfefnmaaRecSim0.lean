/-
  The conditions give the machine's calls; printed by vcgen.py.
-/
import Derived.Test.YtgnceldnfefnmaaRecVc
namespace Go.Proofs.Ytgnceldnfefnmaa
open Go Go.Vc
set_option maxRecDepth 100000
set_option maxHeartbeats 4000000
theorem sim_sherdlaw15_TableBounds (d1 : Int) (m2 : Slc) (w : World) (Q : Ending → World → Prop) (h : vc_sherdlaw15_TableBounds d1 m2 w Q) : Calls PP F_sherdlaw15_TableBounds #[(.i d1), m2.v] w Q := by
 unfold vc_sherdlaw15_TableBounds at h
 refine enter (n := 130) Try.func3 rfl rfl (Nat.le_of_ble_eq_true rfl) fun a H => c_seq fun K3 hK3 => c_reg <| s_assign H rfl rfl (lt_ rfl) fun a H => c_nil <| hK3 _ _ <| c_seq fun K4 hK4 => c_reg <| s_move H rfl rfl (lt_ rfl) fun a H => s_call H rfl body_7 (H.args (vs := [(.i d1)]) rfl) (lt_ rfl) h ?_ (fun c w' h H => e_panic (P := PP) (fn := Try.f3) H h)
 clear H h a
 rintro _ w5 a ⟨s6, rfl, h⟩ H
 refine s_assign H rfl rfl (lt_ rfl) fun a H => c_nil <| hK4 _ _ <| c_seq fun K7 hK7 => c_reg <| s_move H rfl rfl (lt_ rfl) fun a H => s_call H rfl body_8 (H.args (vs := [(.i s6)]) rfl) (lt_ rfl) h ?_ (fun c w' h H => e_panic (P := PP) (fn := Try.f3) H h)
 clear H h a
 rintro _ w8 a ⟨N9, N10, rfl, h⟩ H
 refine s_move H rfl rfl (lt_ rfl) fun a H => s_ext H rfl rfl rfl (lt_ rfl) fun a H => s_ext H rfl rfl rfl (lt_ rfl) fun a H => s_assign H rfl rfl (lt_ rfl) fun a H => s_assign H rfl rfl (lt_ rfl) fun a H => c_nil <| hK7 _ _ <| c_seq fun K11 hK11 => c_seq fun K12 hK12 => c_reg <| s_move H rfl rfl (lt_ rfl) fun a H => s_bin H rfl rfl rfl r_neq (lt_ rfl) fun a H => s_move H rfl rfl (lt_ rfl) fun a H => ?_
 refine g_join (n := 130) [(29, (.bool ((decide (N10 ≠ 0)) || N9.isNone))), (0, (.i s6)), (1, m2.v), (5, (.pointer N9))] (.succ (.succ (.succ (.zero _)))) ?_ ?_
 ·intro h14
  try clear h
  rcases Bool.eq_false_or_eq_true (decide (N10 ≠ 0)) with h13 | h13
  ·replace H := H.ch (t := 26) (b := true) rfl h13
   refine s_skip H (wantN H rfl rfl rfl) rfl (lt_ rfl) fun a H => s_skip H (wantN H rfl rfl rfl) rfl (lt_ rfl) fun a H => s_pickT H rfl rfl rfl (lt_ rfl) fun a H => ?_
   exact h14 _ (H.weaken ⟨by rw [h13]; rfl, rfl, rfl, rfl, trivial⟩)
  ·replace H := H.ch (t := 26) (b := false) rfl h13
   refine s_move H (wantG H rfl rfl) rfl (lt_ rfl) fun a H => s_bin H (wantG H rfl rfl) rfl rfl (r_eqP0 ptr_24) (lt_ rfl) fun a H => s_pickF H rfl rfl rfl (lt_ rfl) fun a H => ?_
   exact h14 _ (H.weaken ⟨by rw [h13]; rfl, rfl, rfl, rfl, trivial⟩)
 ·clear H a
  intro a H
  refine c_nil <| hK12 _ _ <| c_cond H rfl (fun h15 => ?_) (fun h15 => ?_)
  ·replace h := h.1 h15
   refine c_seq fun K16 hK16 => c_reg <| s_assign H rfl rfl (lt_ rfl) fun a H => c_nil <| hK16 _ _ <| c_ret ?_
   exact e_ret1 H rfl rfl h
  ·replace h := h.2 h15
   refine c_skip <| hK11 _ _ <| c_seq fun K17 hK17 => c_reg ?_
   replace h := h.get
   obtain ⟨b18, w19, n20, h⟩ := h
   refine s_alloc H rfl zero_30 (lt_ rfl) ?_
   rw [← n20.at_]
   clear H a
   intro a H
   refine n20.go <| c_nil <| hK17 _ _ <| c_seq fun K21 hK21 => c_reg ?_
   replace h := h.get
   obtain ⟨b22, w23, n24, h⟩ := h
   refine s_alloc H rfl zero_30 (lt_ rfl) ?_
   rw [← n24.at_]
   clear H a
   intro a H
   refine n24.go <| c_nil <| hK21 _ _ <| c_seq fun K25 hK25 => c_seq fun K26 hK26 => c_reg <| s_move H rfl rfl (lt_ rfl) fun a H => s_blt H rfl (H.args (vs := [m2.v]) rfl) (lt_ rfl) (fun cs => b_lenS (z := m2) sl_22) fun a H => s_move H rfl rfl (lt_ rfl) fun a H => c_nil <| hK26 _ _ <| c_block ?_
   obtain ⟨I29, m30, h314, h315⟩ := h
   refine c_loop (σ := Int) (fun z w => I29 z w) (fun z w => m30 z w) (fun z => [(0, (.i s6)), (5, (.pointer N9)), (7, (.pointer (some (blk b18)))), (8, (.pointer (some (blk b22)))), (30, m2.v), (31, (.i (m2.l : Int))), (32, (.i z))]) 0 h314 (H.weaken ⟨rfl, rfl, rfl, rfl, rfl, rfl, rfl, trivial⟩) ?_
   clear H h314
   rintro s27 a w28 h H
   replace h := h315 s27 w28 h
   clear h315
   replace H : Has 130 [] a [(0, (.i s6)), (5, (.pointer N9)), (7, (.pointer (some (blk b18)))), (8, (.pointer (some (blk b22)))), (30, m2.v), (31, (.i (m2.l : Int))), (32, (.i s27))] := H
   refine c_seq fun K31 hK31 => c_reg <| s_bin H rfl rfl rfl r_lss (lt_ rfl) fun a H => c_nil <| hK31 _ _ <| c_seq fun K32 hK32 => c_cond H rfl (fun h33 => ?_) (fun h33 => ?_)
   ·replace h := h.1 h33
    refine c_skip <| hK32 _ _ <| c_seq fun K34 hK34 => ?_
    obtain ⟨R35, h, h306⟩ := h
    have h37 : ∀ (a : Act) (w36 : World), R35 w36 → Has 130 [] a [(0, (.i s6)), (5, (.pointer N9)), (7, (.pointer (some (blk b18)))), (8, (.pointer (some (blk b22)))), (30, m2.v), (31, (.i (m2.l : Int))), (32, (.i s27))] → K34 a w36 := by
     clear h
     intro a w36 h H
     replace h := h306 w36 h
     refine hK34 _ _ <| c_reg <| s_bin H rfl rfl rfl r_add (lt_ rfl) fun a H => s_move H rfl rfl (lt_ rfl) fun a H => c_nil <| Exists.intro (wr .i64 (s27 + 1)) ⟨h.1, h.2, H.weaken ⟨rfl, rfl, rfl, rfl, rfl, rfl, rfl, trivial⟩⟩
    clear h306
    refine c_block <| c_seq fun K38 hK38 => c_reg ?_
    obtain ⟨a39, h40, h41, h42, h⟩ := h
    refine s_idxS (s := m2) H rfl rfl rfl slc_22 h40 h41 h42 (lt_ rfl) fun a H => ?_
    obtain ⟨K43, hc44, F45, hc46, B47, hc48, C49, hc50, C51, hc52, h⟩ := h
    refine s_loadN (l := [(.i K43), (.bool F45), (.bool B47), (.i C49), (.i C51)]) H rfl rfl agg_32 rfl ⟨hc44, hc46, hc48, hc50, hc52, trivial⟩ (lt_ rfl) fun a H => ?_
    replace h := h.get
    obtain ⟨b53, w54, n55, h⟩ := h
    refine s_alloc H rfl zero_32 (lt_ rfl) ?_
    rw [← n55.at_]
    clear H a
    intro a H
    refine n55.go <| s_stoN (l := [(.i K43), (.bool F45), (.bool B47), (.i C49), (.i C51)]) H rfl rfl rfl rfl agg_32 rfl rfl h ?_
    clear h H
    intro w56 h H
    refine c_nil <| hK38 _ _ <| c_seq fun K57 hK57 => c_reg <| s_move H rfl rfl (lt_ rfl) fun a H => ?_
    obtain ⟨K58, hc59, F60, hc61, B62, hc63, C64, hc65, C66, hc67, h⟩ := h
    refine s_loadN (l := [(.i K58), (.bool F60), (.bool B62), (.i C64), (.i C66)]) H rfl rfl agg_32 rfl ⟨hc59, hc61, hc63, hc65, hc67, trivial⟩ (lt_ rfl) fun a H => s_call H rfl body_10 (H.args (vs := [(.agg #[(.i K58), (.bool F60), (.bool B62), (.i C64), (.i C66)])]) rfl) (lt_ rfl) h ?_ (fun c w' h H => e_panic (P := PP) (fn := Try.f3) H h)
    clear H h a
    rintro _ w68 a ⟨K69, K70, C71, C72, F73, H74, D75, rfl, h⟩ H
    refine s_call H rfl body_9 (H.args (vs := [(.pointer N9), (.agg #[(.i K69), (.string K70), (.i C71), (.i C72), (.bool F73), (.bool H74), D75.v])]) rfl) (lt_ rfl) h ?_ (fun c w' h H => e_panic (P := PP) (fn := Try.f3) H h)
    clear H h a
    rintro _ w76 a ⟨A77, A78, rfl, h⟩ H
    refine c_nil <| hK57 _ _ <| c_seq fun K79 hK79 => c_reg <| s_move H rfl rfl (lt_ rfl) fun a H => c_nil <| hK79 _ _ <| c_block ?_
    obtain ⟨I82, m83, h296, h297⟩ := h
    refine c_loop (σ := Int) (fun z w => I82 z w) (fun z w => m83 z w) (fun z => [(0, (.i s6)), (5, (.pointer N9)), (7, (.pointer (some (blk b18)))), (8, (.pointer (some (blk b22)))), (30, m2.v), (31, (.i (m2.l : Int))), (32, (.i s27)), (40, (.i z))]) 0 h296 (H.weaken ⟨rfl, rfl, rfl, rfl, rfl, rfl, rfl, rfl, trivial⟩) ?_
    clear H h296
    rintro s80 a w81 h H
    replace h := h297 s80 w81 h
    clear h297
    replace H : Has 130 [] a [(0, (.i s6)), (5, (.pointer N9)), (7, (.pointer (some (blk b18)))), (8, (.pointer (some (blk b22)))), (30, m2.v), (31, (.i (m2.l : Int))), (32, (.i s27)), (40, (.i s80))] := H
    refine c_seq fun K84 hK84 => c_reg <| s_bin H rfl rfl rfl r_lss (lt_ rfl) fun a H => c_nil <| hK84 _ _ <| c_seq fun K85 hK85 => c_cond H rfl (fun h86 => ?_) (fun h86 => ?_)
    ·replace h := h.1 h86
     refine c_skip <| hK85 _ _ <| c_seq fun K87 hK87 => ?_
     obtain ⟨R88, h, h295⟩ := h
     have h90 : ∀ (a : Act) (w89 : World), R88 w89 → Has 130 [] a [(0, (.i s6)), (5, (.pointer N9)), (7, (.pointer (some (blk b18)))), (8, (.pointer (some (blk b22)))), (30, m2.v), (31, (.i (m2.l : Int))), (32, (.i s27)), (40, (.i s80))] → K87 a w89 := by
      clear h
      intro a w89 h H
      replace h := h295 w89 h
      refine hK87 _ _ <| c_reg <| s_bin H rfl rfl rfl r_add (lt_ rfl) fun a H => s_move H rfl rfl (lt_ rfl) fun a H => c_nil <| Exists.intro (wr .i64 (s80 + 1)) ⟨h.1, h.2, H.weaken ⟨rfl, rfl, rfl, rfl, rfl, rfl, rfl, rfl, trivial⟩⟩
     clear h295
     refine c_block <| c_seq fun K91 hK91 => c_reg <| s_move H rfl rfl (lt_ rfl) fun a H => s_assign H rfl rfl (lt_ rfl) fun a H => c_nil <| hK91 _ _ <| c_seq fun K92 hK92 => c_reg <| s_move H rfl rfl (lt_ rfl) fun a H => s_call H rfl body_11 (H.args (vs := [(.i s80)]) rfl) (lt_ rfl) h ?_ (fun c w' h H => e_panic (P := PP) (fn := Try.f3) H h)
     clear H h a
     rintro _ w93 a ⟨k94, rfl, h⟩ H
     refine s_assign H rfl rfl (lt_ rfl) fun a H => c_nil <| hK92 _ _ <| c_seq fun K95 hK95 => c_reg <| s_move H rfl rfl (lt_ rfl) fun a H => s_move H rfl rfl (lt_ rfl) fun a H => s_call H rfl body_12 (H.args (vs := [(.pointer N9), (.string k94)]) rfl) (lt_ rfl) h ?_ (fun c w' h H => e_panic (P := PP) (fn := Try.f3) H h)
     clear H h a
     rintro _ w96 a ⟨E97, rfl, h⟩ H
     refine s_assign H rfl rfl (lt_ rfl) fun a H => c_nil <| hK95 _ _ <| c_seq fun K98 hK98 => c_reg <| s_assign H rfl rfl (lt_ rfl) fun a H => c_nil <| hK98 _ _ <| c_seq fun K99 hK99 => c_seq fun K100 hK100 => c_reg <| s_move H rfl rfl (lt_ rfl) fun a H => s_blt H rfl (H.args (vs := [E97.v]) rfl) (lt_ rfl) (fun cs => b_lenS (z := E97) sl_42) fun a H => s_move H rfl rfl (lt_ rfl) fun a H => c_nil <| hK100 _ _ <| c_block ?_
     obtain ⟨I104, m105, h285, h286⟩ := h
     refine c_loop (σ := Int × Int) (fun z w => I104 z.1 z.2 w) (fun z w => m105 z.1 z.2 w) (fun z => [(0, (.i s6)), (5, (.pointer N9)), (7, (.pointer (some (blk b18)))), (8, (.pointer (some (blk b22)))), (11, (.i s80)), (12, (.string k94)), (13, E97.v), (14, (.i z.1)), (30, m2.v), (31, (.i (m2.l : Int))), (32, (.i s27)), (40, (.i s80)), (48, E97.v), (49, (.i (E97.l : Int))), (50, (.i z.2))]) (0, 0) h285 (H.weaken ⟨rfl, rfl, rfl, rfl, rfl, rfl, rfl, rfl, rfl, rfl, rfl, rfl, rfl, rfl, rfl, trivial⟩) ?_
     clear H h285
     rintro ⟨f101, s102⟩ a w103 h H
     replace h := h286 f101 s102 w103 h
     clear h286
     replace H : Has 130 [] a [(0, (.i s6)), (5, (.pointer N9)), (7, (.pointer (some (blk b18)))), (8, (.pointer (some (blk b22)))), (11, (.i s80)), (12, (.string k94)), (13, E97.v), (14, (.i f101)), (30, m2.v), (31, (.i (m2.l : Int))), (32, (.i s27)), (40, (.i s80)), (48, E97.v), (49, (.i (E97.l : Int))), (50, (.i s102))] := H
     refine c_seq fun K106 hK106 => c_reg <| s_bin H rfl rfl rfl r_lss (lt_ rfl) fun a H => c_nil <| hK106 _ _ <| c_seq fun K107 hK107 => c_cond H rfl (fun h108 => ?_) (fun h108 => ?_)
     ·replace h := h.1 h108
      refine c_skip <| hK107 _ _ <| c_seq fun K109 hK109 => c_block <| c_seq fun K110 hK110 => c_reg <| s_move H rfl rfl (lt_ rfl) fun a H => ?_
      obtain ⟨a111, h112, h113, h114, h⟩ := h
      refine s_idxS (s := E97) H rfl rfl rfl slc_42 h112 h113 h114 (lt_ rfl) fun a H => ?_
      obtain ⟨C115, hc116, C117, hc118, F119, hc120, H121, hc122, D123, hc124, h⟩ := h
      refine s_loadN (l := [(.i C115), (.i C117), (.bool F119), (.bool H121), D123.v]) H rfl rfl agg_37 rfl ⟨hc116, hc118, hc120, hc122, hc124, trivial⟩ (lt_ rfl) fun a H => ?_
      replace h := h.get
      obtain ⟨b125, w126, n127, h⟩ := h
      refine s_alloc H rfl zero_37 (lt_ rfl) ?_
      rw [← n127.at_]
      clear H a
      intro a H
      refine n127.go <| s_assign H rfl rfl (lt_ rfl) fun a H => s_stoN (l := [(.i C115), (.i C117), (.bool F119), (.bool H121), D123.v]) H rfl rfl rfl rfl agg_37 rfl rfl h ?_
      clear h H
      intro w128 h H
      refine c_nil <| hK110 _ _ <| c_seq fun K129 hK129 => ?_
      obtain ⟨R131, h, h210⟩ := h
      have h205 : ∀ (a : Act) (f130 : Int) (w132 : World), R131 f130 w132 → Has 130 [] a [(0, (.i s6)), (5, (.pointer N9)), (7, (.pointer (some (blk b18)))), (8, (.pointer (some (blk b22)))), (11, (.i s80)), (12, (.string k94)), (13, E97.v), (14, (.i f130)), (15, (.i s102)), (16, (.pointer (some (blk b125)))), (30, m2.v), (31, (.i (m2.l : Int))), (32, (.i s27)), (40, (.i s80)), (48, E97.v), (49, (.i (E97.l : Int))), (50, (.i s102))] → K129 a w132 := by
       clear h
       intro a f130 w132 h H
       replace h := h210 f130 w132 h
       refine hK129 _ _ <| c_seq fun K133 hK133 => ?_
       obtain ⟨R135, h, h204⟩ := h
       have h139 : ∀ (a : Act) (s134 : Bool) (w136 : World), R135 s134 w136 → Has 130 [] a [(0, (.i s6)), (5, (.pointer N9)), (7, (.pointer (some (blk b18)))), (8, (.pointer (some (blk b22)))), (11, (.i s80)), (12, (.string k94)), (13, E97.v), (14, (.i f130)), (30, m2.v), (31, (.i (m2.l : Int))), (32, (.i s27)), (40, (.i s80)), (48, E97.v), (49, (.i (E97.l : Int))), (50, (.i s102)), (91, (.bool s134))] → K133 a w136 := by
        clear h
        intro a s134 w136 h H
        replace h := h204 s134 w136 h
        refine hK133 _ _ <| c_cond H rfl (fun h137 => ?_) (fun h137 => ?_)
        ·replace h := h.1 h137
         refine c_seq fun K138 hK138 => c_reg <| s_assign H rfl rfl (lt_ rfl) fun a H => c_nil <| hK138 _ _ <| c_ret ?_
         exact e_ret1 H rfl rfl h
        ·replace h := h.2 h137
         refine c_skip <| hK109 _ _ <| c_reg <| s_bin H rfl rfl rfl r_add (lt_ rfl) fun a H => s_move H rfl rfl (lt_ rfl) fun a H => c_nil <| Exists.intro (f130, wr .i64 (s102 + 1)) ⟨h.1, h.2, H.weaken ⟨rfl, rfl, rfl, rfl, rfl, rfl, rfl, rfl, rfl, rfl, rfl, rfl, rfl, rfl, rfl, trivial⟩⟩
       clear h204
       replace H := H.weaken (L' := [(0, (.i s6)), (5, (.pointer N9)), (7, (.pointer (some (blk b18)))), (8, (.pointer (some (blk b22)))), (11, (.i s80)), (12, (.string k94)), (13, E97.v), (14, (.i f130)), (15, (.i s102)), (16, (.pointer (some (blk b125)))), (30, m2.v), (31, (.i (m2.l : Int))), (32, (.i s27)), (40, (.i s80)), (48, E97.v), (49, (.i (E97.l : Int))), (50, (.i s102))]) ⟨rfl, rfl, rfl, rfl, rfl, rfl, rfl, rfl, rfl, rfl, rfl, rfl, rfl, rfl, rfl, rfl, rfl, trivial⟩
       obtain ⟨C140, hc141, C142, hc143, h⟩ := h
       refine c_any (V := [(0, (.pointer (some ((blk b125).add 0)))), (1, (.agg #[(.i C140), (.i C142)])), (2, (.pointer N9)), (3, (.string k94))]) (⟨[[], [0], [], [], [2, 3], [1, 4], [5], [5, 6], [7], [7, 8], [7, 9], [7, 10], [11], [11, 12], [11, 13], [7, 11, 14], [7, 15], [11, 16], [17], [17, 18], [17, 19], [20], [20], [20, 22], [20, 21, 23], [20, 24], [20, 25], [20], [20, 27], [20, 26, 28], [20, 29], [17, 20, 30], [17, 31]], [some 59, some 60, some 61, some 62, some 63, some 64, some 65, some 66, some 67, some 68, some 69, some 70, some 71, some 72, some 73, some 74, some 75, some 76, some 77, some 78, some 79, some 80, some 81, some 82, some 83, some 84, some 85, some 86, some 87, some 88, some 89, some 90, some 91], [4, 5, 29], [0, 0, 0, 0, 0, 1, 2, 2, 2, 2, 2, 2, 2, 2, 2, 2, 2, 2, 2, 2, 2, 2, 2, 2, 2, 2, 2, 2, 2, 2, 3, 3, 3], [1, 1, 0, 0, 1, 2, 2, 2, 2, 2, 2, 2, 2, 2, 2, 2, 2, 2, 2, 2, 2, 2, 2, 2, 2, 2, 2, 2, 2, 3, 3, 3, 3]⟩ : Rg) [(0, (.i s6)), (5, (.pointer N9)), (7, (.pointer (some (blk b18)))), (8, (.pointer (some (blk b22)))), (11, (.i s80)), (12, (.string k94)), (13, E97.v), (14, (.i f130)), (15, (.i s102)), (16, (.pointer (some (blk b125)))), (30, m2.v), (31, (.i (m2.l : Int))), (32, (.i s27)), (40, (.i s80)), (48, E97.v), (49, (.i (E97.l : Int))), (50, (.i s102))] mixed (by kernel_rfl) H ?_
       refine Stg.eff [0, 1, 2, 3] (by kernel_rfl) rfl (.cons ?_ (.cons ?_ (.cons ?_ (.cons ?_ .nil)))) ?_
       ·refine Ans.mk rfl rfl fun a H => s_fld H rfl rfl fld_37_0 (lt_ rfl) fun a H => ?_
        exact Ans.fin H rfl
       ·refine Ans.mk rfl rfl fun a H => s_loadN (l := [(.i C140), (.i C142)]) H rfl rfl agg_29 rfl ⟨hc141, hc143, trivial⟩ (lt_ rfl) fun a H => ?_
        exact Ans.fin H rfl
       ·refine Ans.mk rfl rfl fun a H => s_move H rfl rfl (lt_ rfl) fun a H => ?_
        exact Ans.fin H rfl
       ·refine Ans.mk rfl rfl fun a H => s_move H rfl rfl (lt_ rfl) fun a H => ?_
        exact Ans.fin H rfl
       ·intro a H
        replace H := H.weaken (L' := [(61, (.pointer N9)), (62, (.string k94))]) ⟨rfl, rfl, trivial⟩
        refine s_call H rfl body_14 (H.args (vs := [(.pointer N9), (.string k94)]) rfl) (lt_ rfl) h ?_ (fun c w' h H => e_panic (P := PP) (fn := Try.f3) H h)
        clear H h a
        rintro _ w144 a ⟨C145, C146, rfl, h⟩ H
        refine c_nil ?_
        obtain ⟨hc147, hc148, h⟩ := h
        refine effQ.go [] H rfl rfl <| Stg.eff [0, 1] (by kernel_rfl) rfl (.cons ?_ (.cons ?_ .nil)) ?_
        ·refine Ans.mk rfl rfl fun a H => s_fld H rfl rfl fld_37_0 (lt_ rfl) fun a H => ?_
         exact Ans.fin H rfl
        ·refine Ans.mk rfl rfl fun a H => s_loadN (l := [(.i C140), (.i C142)]) H rfl rfl agg_29 rfl ⟨hc147, hc148, trivial⟩ (lt_ rfl) fun a H => ?_
         exact Ans.fin H rfl
        ·intro a H
         replace H := H.weaken (L' := [(60, (.agg #[(.i C140), (.i C142)])), (63, (.agg #[(.i C145), (.i C146)]))]) ⟨rfl, rfl, trivial⟩
         refine s_call H rfl body_13 (H.args (vs := [(.agg #[(.i C140), (.i C142)]), (.agg #[(.i C145), (.i C146)])]) rfl) (lt_ rfl) h ?_ (fun c w' h H => e_panic (P := PP) (fn := Try.f3) H h)
         clear H h a
         rintro _ w149 a ⟨C150, rfl, h⟩ H
         refine c_nil ?_
         rcases Bool.eq_false_or_eq_true (decide (C150 < 0)) with h151 | h151
         ·replace h := h.1 h151
          refine effQ.go [(6, (.bool (decide (C150 < 0)))), (7, (.bool (decide (C150 < 0)))), (8, undef), (9, undef), (10, undef), (11, undef), (12, undef), (13, undef), (14, undef), (15, undef), (16, (.bool true)), (17, (.bool true)), (18, undef), (19, undef), (20, undef), (21, undef), (22, undef), (23, undef), (24, undef), (25, undef), (26, undef), (27, undef), (28, undef)] H rfl rfl ?_
          refine Stg.eff [6, 7, 8, 9, 10, 11, 12, 13, 14, 15, 16, 17, 18, 19, 20, 21, 22, 23, 24, 25, 26, 27, 28] (by kernel_rfl) rfl (.cons ?_ (.cons ?_ (.cons ?_ (.cons ?_ (.cons ?_ (.cons ?_ (.cons ?_ (.cons ?_ (.cons ?_ (.cons ?_ (.cons ?_ (.cons ?_ (.cons ?_ (.cons ?_ (.cons ?_ (.cons ?_ (.cons ?_ (.cons ?_ (.cons ?_ (.cons ?_ (.cons ?_ (.cons ?_ (.cons ?_ .nil))))))))))))))))))))))) ?_
          ·refine Ans.mk rfl rfl fun a H => s_bin H rfl rfl rfl r_lss (lt_ rfl) fun a H => ?_
           exact Ans.fin H rfl
          ·refine Ans.mk rfl rfl fun a H => s_move H rfl rfl (lt_ rfl) fun a H => ?_
           exact Ans.fin H rfl
          ·exact .skip rfl rfl rfl rfl rfl rfl h151 rfl
          ·exact .skip rfl rfl rfl rfl rfl rfl h151 rfl
          ·exact .skip rfl rfl rfl rfl rfl rfl h151 rfl
          ·exact .skip rfl rfl rfl rfl rfl rfl h151 rfl
          ·exact .skipU rfl rfl rfl rfl rfl rfl
          ·exact .skipU rfl rfl rfl rfl rfl rfl
          ·exact .skipU rfl rfl rfl rfl rfl rfl
          ·exact .skip rfl rfl rfl rfl rfl rfl h151 rfl
          ·refine Ans.mk rfl rfl fun a H => ?_
           replace H := H.ch (t := 66) (b := true) rfl h151
           refine s_pickT H rfl rfl rfl (lt_ rfl) fun a H => ?_
           exact Ans.fin H rfl
          ·refine Ans.mk rfl rfl fun a H => s_move H rfl rfl (lt_ rfl) fun a H => ?_
           exact Ans.fin H rfl
          ·exact .skip rfl rfl rfl rfl rfl rfl rfl rfl
          ·exact .skip rfl rfl rfl rfl rfl rfl rfl rfl
          ·exact .skip rfl rfl rfl rfl rfl rfl rfl rfl
          ·exact .skipU rfl rfl rfl rfl rfl rfl
          ·exact .skipU rfl rfl rfl rfl rfl rfl
          ·exact .skipU rfl rfl rfl rfl rfl rfl
          ·exact .skipU rfl rfl rfl rfl rfl rfl
          ·exact .skipU rfl rfl rfl rfl rfl rfl
          ·exact .skipU rfl rfl rfl rfl rfl rfl
          ·exact .skipU rfl rfl rfl rfl rfl rfl
          ·exact .skipU rfl rfl rfl rfl rfl rfl
          ·intro a H
           replace H := H.weaken (L' := [(79, undef), (85, undef), (87, undef)]) ⟨rfl, rfl, rfl, trivial⟩
           refine s_skip H (wantU H rfl rfl) rfl (lt_ rfl) fun a H => c_nil <| effQ.go [(30, undef), (31, undef), (32, (.bool true))] H rfl rfl <| Stg.fin [30, 31, 32] (by kernel_rfl) (.cons ?_ (.cons ?_ (.cons ?_ .nil))) ?_
           ·exact .skipU rfl rfl rfl rfl rfl rfl
           ·exact .skip rfl rfl rfl rfl rfl rfl rfl rfl
           ·refine Ans.mk rfl rfl fun a H => s_pickT H rfl rfl rfl (lt_ rfl) fun a H => ?_
            exact Ans.fin H rfl
           ·intro a H
            replace H := H.weaken (L' := [(0, (.i s6)), (5, (.pointer N9)), (7, (.pointer (some (blk b18)))), (8, (.pointer (some (blk b22)))), (11, (.i s80)), (12, (.string k94)), (13, E97.v), (14, (.i f130)), (30, m2.v), (31, (.i (m2.l : Int))), (32, (.i s27)), (40, (.i s80)), (48, E97.v), (49, (.i (E97.l : Int))), (50, (.i s102)), (91, (.bool true))]) ⟨rfl, rfl, rfl, rfl, rfl, rfl, rfl, rfl, rfl, rfl, rfl, rfl, rfl, rfl, rfl, rfl, trivial⟩
            exact h139 _ _ _ h (H.weaken ⟨rfl, rfl, rfl, rfl, rfl, rfl, rfl, rfl, rfl, rfl, rfl, rfl, rfl, rfl, rfl, rfl, trivial⟩)
         ·replace h := h.2 h151
          obtain ⟨l152, hc153, h⟩ := h
          rcases Bool.eq_false_or_eq_true (!l152) with h154 | h154
          ·replace h := h.1 h154
           obtain ⟨l155, hc156, h⟩ := h
           rcases Bool.eq_false_or_eq_true (!l155) with h157 | h157
           ·replace h := h.1 h157
            refine effQ.go [(6, (.bool (decide (C150 < 0)))), (7, (.bool (decide (C150 < 0)))), (8, (.pointer (some ((blk b125).add 2)))), (9, (.bool l152)), (10, (.bool (!l152))), (11, (.bool (!l152))), (12, (.pointer (some ((blk b125).add 3)))), (13, (.bool l155)), (14, (.bool (!l155))), (15, (.bool (!l155))), (16, (.bool (!l155))), (17, (.bool (!l155))), (18, undef), (19, undef), (20, undef), (21, undef), (22, undef), (23, undef), (24, undef), (25, undef), (26, undef), (27, undef), (28, undef)] H rfl rfl ?_
            refine Stg.eff [6, 7, 8, 9, 10, 11, 12, 13, 14, 15, 16, 17, 18, 19, 20, 21, 22, 23, 24, 25, 26, 27, 28] (by kernel_rfl) rfl (.cons ?_ (.cons ?_ (.cons ?_ (.cons ?_ (.cons ?_ (.cons ?_ (.cons ?_ (.cons ?_ (.cons ?_ (.cons ?_ (.cons ?_ (.cons ?_ (.cons ?_ (.cons ?_ (.cons ?_ (.cons ?_ (.cons ?_ (.cons ?_ (.cons ?_ (.cons ?_ (.cons ?_ (.cons ?_ (.cons ?_ .nil))))))))))))))))))))))) ?_
            ·refine Ans.mk rfl rfl fun a H => s_bin H rfl rfl rfl r_lss (lt_ rfl) fun a H => ?_
             exact Ans.fin H rfl
            ·refine Ans.mk rfl rfl fun a H => s_move H rfl rfl (lt_ rfl) fun a H => ?_
             exact Ans.fin H rfl
            ·refine Ans.mk rfl rfl fun a H => ?_
             replace H := H.ch (t := 66) (b := false) rfl h151
             refine s_fld H (wantG H rfl rfl) rfl fld_37_1 (lt_ rfl) fun a H => ?_
             exact Ans.fin H rfl
            ·refine Ans.mk rfl rfl fun a H => ?_
             replace H := H.ch (t := 66) (b := false) rfl h151
             refine s_load (v := (.bool l152)) H (wantG H rfl rfl) rfl one_4 hc153 (lt_ rfl) fun a H => ?_
             exact Ans.fin H rfl
            ·refine Ans.mk rfl rfl fun a H => ?_
             replace H := H.ch (t := 66) (b := false) rfl h151
             refine s_un H (wantG H rfl rfl) rfl r_not (lt_ rfl) fun a H => ?_
             exact Ans.fin H rfl
            ·refine Ans.mk rfl rfl fun a H => ?_
             replace H := H.ch (t := 66) (b := false) rfl h151
             refine s_move H (wantG H rfl rfl) rfl (lt_ rfl) fun a H => ?_
             exact Ans.fin H rfl
            ·refine Ans.mk rfl rfl fun a H => ?_
             replace H := H.ch (t := 70) (b := true) rfl h154
             refine s_fld H (wantG H rfl rfl) rfl fld_37_2 (lt_ rfl) fun a H => ?_
             exact Ans.fin H rfl
            ·refine Ans.mk rfl rfl fun a H => ?_
             replace H := H.ch (t := 70) (b := true) rfl h154
             refine s_load (v := (.bool l155)) H (wantG H rfl rfl) rfl one_4 hc156 (lt_ rfl) fun a H => ?_
             exact Ans.fin H rfl
            ·refine Ans.mk rfl rfl fun a H => ?_
             replace H := H.ch (t := 70) (b := true) rfl h154
             refine s_un H (wantG H rfl rfl) rfl r_not (lt_ rfl) fun a H => ?_
             exact Ans.fin H rfl
            ·refine Ans.mk rfl rfl fun a H => ?_
             replace H := H.ch (t := 66) (b := false) rfl h151
             replace H := H.ch (t := 70) (b := true) rfl h154
             refine s_pickT H (wantG H rfl rfl) rfl rfl (lt_ rfl) fun a H => ?_
             exact Ans.fin H rfl
            ·refine Ans.mk rfl rfl fun a H => ?_
             replace H := H.ch (t := 66) (b := false) rfl h151
             refine s_pickF H rfl rfl rfl (lt_ rfl) fun a H => ?_
             exact Ans.fin H rfl
            ·refine Ans.mk rfl rfl fun a H => s_move H rfl rfl (lt_ rfl) fun a H => ?_
             exact Ans.fin H rfl
            ·exact .skip rfl rfl rfl rfl rfl rfl h157 rfl
            ·exact .skip rfl rfl rfl rfl rfl rfl h157 rfl
            ·exact .skip rfl rfl rfl rfl rfl rfl h157 rfl
            ·exact .skipU rfl rfl rfl rfl rfl rfl
            ·exact .skipU rfl rfl rfl rfl rfl rfl
            ·exact .skipU rfl rfl rfl rfl rfl rfl
            ·exact .skipU rfl rfl rfl rfl rfl rfl
            ·exact .skipU rfl rfl rfl rfl rfl rfl
            ·exact .skipU rfl rfl rfl rfl rfl rfl
            ·exact .skipU rfl rfl rfl rfl rfl rfl
            ·exact .skipU rfl rfl rfl rfl rfl rfl
            ·intro a H
             replace H := H.weaken (L' := [(79, undef), (85, undef), (87, undef)]) ⟨rfl, rfl, rfl, trivial⟩
             refine s_skip H (wantU H rfl rfl) rfl (lt_ rfl) fun a H => c_nil <| effQ.go [(30, undef), (31, undef), (32, (.bool true))] H rfl rfl <| Stg.fin [30, 31, 32] (by kernel_rfl) (.cons ?_ (.cons ?_ (.cons ?_ .nil))) ?_
             ·exact .skipU rfl rfl rfl rfl rfl rfl
             ·exact .skip rfl rfl rfl rfl rfl rfl h157 rfl
             ·refine Ans.mk rfl rfl fun a H => ?_
              replace H := H.ch (t := 76) (b := true) rfl h157
              refine s_pickT H rfl rfl rfl (lt_ rfl) fun a H => ?_
              exact Ans.fin H rfl
             ·intro a H
              replace H := H.weaken (L' := [(0, (.i s6)), (5, (.pointer N9)), (7, (.pointer (some (blk b18)))), (8, (.pointer (some (blk b22)))), (11, (.i s80)), (12, (.string k94)), (13, E97.v), (14, (.i f130)), (30, m2.v), (31, (.i (m2.l : Int))), (32, (.i s27)), (40, (.i s80)), (48, E97.v), (49, (.i (E97.l : Int))), (50, (.i s102)), (91, (.bool true))]) ⟨rfl, rfl, rfl, rfl, rfl, rfl, rfl, rfl, rfl, rfl, rfl, rfl, rfl, rfl, rfl, rfl, trivial⟩
              exact h139 _ _ _ h (H.weaken ⟨rfl, rfl, rfl, rfl, rfl, rfl, rfl, rfl, rfl, rfl, rfl, rfl, rfl, rfl, rfl, rfl, trivial⟩)
           ·replace h := h.2 h157
            rcases Bool.eq_false_or_eq_true (decide (0 < s102)) with h158 | h158
            ·replace h := h.1 h158
             obtain ⟨a159, h160, h161, h162, C163, hc164, C165, hc166, C167, hc168, C169, hc170, h⟩ := h
             refine effQ.go [(6, (.bool (decide (C150 < 0)))), (7, (.bool (decide (C150 < 0)))), (8, (.pointer (some ((blk b125).add 2)))), (9, (.bool l152)), (10, (.bool (!l152))), (11, (.bool (!l152))), (12, (.pointer (some ((blk b125).add 3)))), (13, (.bool l155)), (14, (.bool (!l155))), (15, (.bool (!l155))), (16, (.bool (!l155))), (17, (.bool (!l155))), (18, (.i s102)), (19, (.bool (decide (0 < s102)))), (20, (.bool (decide (0 < s102)))), (21, E97.v), (22, (.i s102)), (23, (.i (wr .i64 (s102 - 1)))), (24, (.pointer (some (a159.add (Int.toNat (wr .i64 (s102 - 1)) * 5))))), (25, (.pointer (some ((a159.add (Int.toNat (wr .i64 (s102 - 1)) * 5)).add 0)))), (26, (.agg #[(.i C163), (.i C165)])), (27, (.pointer (some ((blk b125).add 0)))), (28, (.agg #[(.i C167), (.i C169)]))] H rfl rfl ?_
             refine Stg.eff [6, 7, 8, 9, 10, 11, 12, 13, 14, 15, 16, 17, 18, 19, 20, 21, 22, 23, 24, 25, 26, 27, 28] (by kernel_rfl) rfl (.cons ?_ (.cons ?_ (.cons ?_ (.cons ?_ (.cons ?_ (.cons ?_ (.cons ?_ (.cons ?_ (.cons ?_ (.cons ?_ (.cons ?_ (.cons ?_ (.cons ?_ (.cons ?_ (.cons ?_ (.cons ?_ (.cons ?_ (.cons ?_ (.cons ?_ (.cons ?_ (.cons ?_ (.cons ?_ (.cons ?_ .nil))))))))))))))))))))))) ?_
             ·refine Ans.mk rfl rfl fun a H => s_bin H rfl rfl rfl r_lss (lt_ rfl) fun a H => ?_
              exact Ans.fin H rfl
             ·refine Ans.mk rfl rfl fun a H => s_move H rfl rfl (lt_ rfl) fun a H => ?_
              exact Ans.fin H rfl
             ·refine Ans.mk rfl rfl fun a H => ?_
              replace H := H.ch (t := 66) (b := false) rfl h151
              refine s_fld H (wantG H rfl rfl) rfl fld_37_1 (lt_ rfl) fun a H => ?_
              exact Ans.fin H rfl
             ·refine Ans.mk rfl rfl fun a H => ?_
              replace H := H.ch (t := 66) (b := false) rfl h151
              refine s_load (v := (.bool l152)) H (wantG H rfl rfl) rfl one_4 hc153 (lt_ rfl) fun a H => ?_
              exact Ans.fin H rfl
             ·refine Ans.mk rfl rfl fun a H => ?_
              replace H := H.ch (t := 66) (b := false) rfl h151
              refine s_un H (wantG H rfl rfl) rfl r_not (lt_ rfl) fun a H => ?_
              exact Ans.fin H rfl
             ·refine Ans.mk rfl rfl fun a H => ?_
              replace H := H.ch (t := 66) (b := false) rfl h151
              refine s_move H (wantG H rfl rfl) rfl (lt_ rfl) fun a H => ?_
              exact Ans.fin H rfl
             ·refine Ans.mk rfl rfl fun a H => ?_
              replace H := H.ch (t := 70) (b := true) rfl h154
              refine s_fld H (wantG H rfl rfl) rfl fld_37_2 (lt_ rfl) fun a H => ?_
              exact Ans.fin H rfl
             ·refine Ans.mk rfl rfl fun a H => ?_
              replace H := H.ch (t := 70) (b := true) rfl h154
              refine s_load (v := (.bool l155)) H (wantG H rfl rfl) rfl one_4 hc156 (lt_ rfl) fun a H => ?_
              exact Ans.fin H rfl
             ·refine Ans.mk rfl rfl fun a H => ?_
              replace H := H.ch (t := 70) (b := true) rfl h154
              refine s_un H (wantG H rfl rfl) rfl r_not (lt_ rfl) fun a H => ?_
              exact Ans.fin H rfl
             ·refine Ans.mk rfl rfl fun a H => ?_
              replace H := H.ch (t := 66) (b := false) rfl h151
              replace H := H.ch (t := 70) (b := true) rfl h154
              refine s_pickT H (wantG H rfl rfl) rfl rfl (lt_ rfl) fun a H => ?_
              exact Ans.fin H rfl
             ·refine Ans.mk rfl rfl fun a H => ?_
              replace H := H.ch (t := 66) (b := false) rfl h151
              refine s_pickF H rfl rfl rfl (lt_ rfl) fun a H => ?_
              exact Ans.fin H rfl
             ·refine Ans.mk rfl rfl fun a H => s_move H rfl rfl (lt_ rfl) fun a H => ?_
              exact Ans.fin H rfl
             ·refine Ans.mk rfl rfl fun a H => ?_
              replace H := H.ch (t := 76) (b := false) rfl h157
              refine s_move H (wantG H rfl rfl) rfl (lt_ rfl) fun a H => ?_
              exact Ans.fin H rfl
             ·refine Ans.mk rfl rfl fun a H => ?_
              replace H := H.ch (t := 76) (b := false) rfl h157
              refine s_bin H (wantG H rfl rfl) rfl rfl r_gtr (lt_ rfl) fun a H => ?_
              exact Ans.fin H rfl
             ·refine Ans.mk rfl rfl fun a H => ?_
              replace H := H.ch (t := 76) (b := false) rfl h157
              refine s_move H (wantG H rfl rfl) rfl (lt_ rfl) fun a H => ?_
              exact Ans.fin H rfl
             ·refine Ans.mk rfl rfl fun a H => ?_
              replace H := H.ch (t := 79) (b := true) rfl h158
              refine s_move H (wantG H rfl rfl) rfl (lt_ rfl) fun a H => ?_
              exact Ans.fin H rfl
             ·refine Ans.mk rfl rfl fun a H => ?_
              replace H := H.ch (t := 79) (b := true) rfl h158
              refine s_move H (wantG H rfl rfl) rfl (lt_ rfl) fun a H => ?_
              exact Ans.fin H rfl
             ·refine Ans.mk rfl rfl fun a H => ?_
              replace H := H.ch (t := 79) (b := true) rfl h158
              refine s_bin H (wantG H rfl rfl) rfl rfl r_sub (lt_ rfl) fun a H => ?_
              exact Ans.fin H rfl
             ·refine Ans.mk rfl rfl fun a H => ?_
              replace H := H.ch (t := 79) (b := true) rfl h158
              refine s_idxS (s := E97) H (wantG H rfl rfl) rfl rfl slc_42 h160 h161 h162 (lt_ rfl) fun a H => ?_
              exact Ans.fin H rfl
             ·refine Ans.mk rfl rfl fun a H => ?_
              replace H := H.ch (t := 79) (b := true) rfl h158
              refine s_fld H (wantG H rfl rfl) rfl fld_37_0 (lt_ rfl) fun a H => ?_
              exact Ans.fin H rfl
             ·refine Ans.mk rfl rfl fun a H => ?_
              replace H := H.ch (t := 79) (b := true) rfl h158
              refine s_loadN (l := [(.i C163), (.i C165)]) H (wantG H rfl rfl) rfl agg_29 rfl ⟨hc164, hc166, trivial⟩ (lt_ rfl) fun a H => ?_
              exact Ans.fin H rfl
             ·refine Ans.mk rfl rfl fun a H => ?_
              replace H := H.ch (t := 79) (b := true) rfl h158
              refine s_fld H (wantG H rfl rfl) rfl fld_37_0 (lt_ rfl) fun a H => ?_
              exact Ans.fin H rfl
             ·refine Ans.mk rfl rfl fun a H => ?_
              replace H := H.ch (t := 79) (b := true) rfl h158
              refine s_loadN (l := [(.i C167), (.i C169)]) H (wantG H rfl rfl) rfl agg_29 rfl ⟨hc168, hc170, trivial⟩ (lt_ rfl) fun a H => ?_
              exact Ans.fin H rfl
             ·intro a H
              replace H := H.weaken (L' := [(79, (.bool (decide (0 < s102)))), (85, (.agg #[(.i C163), (.i C165)])), (87, (.agg #[(.i C167), (.i C169)]))]) ⟨rfl, rfl, rfl, trivial⟩
              replace H := H.ch (t := 79) (b := true) rfl h158
              refine s_call H (wantG H rfl rfl) body_13 (H.args (vs := [(.agg #[(.i C163), (.i C165)]), (.agg #[(.i C167), (.i C169)])]) rfl) (lt_ rfl) h ?_ (fun c w' h H => e_panic (P := PP) (fn := Try.f3) H h)
              clear H h a
              rintro _ w171 a ⟨C172, rfl, h⟩ H
              refine c_nil <| effQ.go [(30, (.bool (decide (0 ≤ C172)))), (31, (.bool (decide (0 ≤ C172)))), (32, (.bool (decide (0 ≤ C172))))] H rfl rfl <| Stg.fin [30, 31, 32] (by kernel_rfl) (.cons ?_ (.cons ?_ (.cons ?_ .nil))) ?_
              ·refine Ans.mk rfl rfl fun a H => ?_
               replace H := H.ch (t := 79) (b := true) rfl h158
               refine s_bin H (wantG H rfl rfl) rfl rfl r_geq (lt_ rfl) fun a H => ?_
               exact Ans.fin H rfl
              ·refine Ans.mk rfl rfl fun a H => ?_
               replace H := H.ch (t := 76) (b := false) rfl h157
               replace H := H.ch (t := 79) (b := true) rfl h158
               refine s_pickT H (wantG H rfl rfl) rfl rfl (lt_ rfl) fun a H => ?_
               exact Ans.fin H rfl
              ·refine Ans.mk rfl rfl fun a H => ?_
               replace H := H.ch (t := 76) (b := false) rfl h157
               refine s_pickF H rfl rfl rfl (lt_ rfl) fun a H => ?_
               exact Ans.fin H rfl
              ·intro a H
               replace H := H.weaken (L' := [(0, (.i s6)), (5, (.pointer N9)), (7, (.pointer (some (blk b18)))), (8, (.pointer (some (blk b22)))), (11, (.i s80)), (12, (.string k94)), (13, E97.v), (14, (.i f130)), (30, m2.v), (31, (.i (m2.l : Int))), (32, (.i s27)), (40, (.i s80)), (48, E97.v), (49, (.i (E97.l : Int))), (50, (.i s102)), (91, (.bool (decide (0 ≤ C172))))]) ⟨rfl, rfl, rfl, rfl, rfl, rfl, rfl, rfl, rfl, rfl, rfl, rfl, rfl, rfl, rfl, rfl, trivial⟩
               exact h139 _ _ _ h (H.weaken ⟨rfl, rfl, rfl, rfl, rfl, rfl, rfl, rfl, rfl, rfl, rfl, rfl, rfl, rfl, rfl, rfl, trivial⟩)
            ·replace h := h.2 h158
             refine effQ.go [(6, (.bool (decide (C150 < 0)))), (7, (.bool (decide (C150 < 0)))), (8, (.pointer (some ((blk b125).add 2)))), (9, (.bool l152)), (10, (.bool (!l152))), (11, (.bool (!l152))), (12, (.pointer (some ((blk b125).add 3)))), (13, (.bool l155)), (14, (.bool (!l155))), (15, (.bool (!l155))), (16, (.bool (!l155))), (17, (.bool (!l155))), (18, (.i s102)), (19, (.bool (decide (0 < s102)))), (20, (.bool (decide (0 < s102)))), (21, undef), (22, undef), (23, undef), (24, undef), (25, undef), (26, undef), (27, undef), (28, undef)] H rfl rfl ?_
             refine Stg.eff [6, 7, 8, 9, 10, 11, 12, 13, 14, 15, 16, 17, 18, 19, 20, 21, 22, 23, 24, 25, 26, 27, 28] (by kernel_rfl) rfl (.cons ?_ (.cons ?_ (.cons ?_ (.cons ?_ (.cons ?_ (.cons ?_ (.cons ?_ (.cons ?_ (.cons ?_ (.cons ?_ (.cons ?_ (.cons ?_ (.cons ?_ (.cons ?_ (.cons ?_ (.cons ?_ (.cons ?_ (.cons ?_ (.cons ?_ (.cons ?_ (.cons ?_ (.cons ?_ (.cons ?_ .nil))))))))))))))))))))))) ?_
             ·refine Ans.mk rfl rfl fun a H => s_bin H rfl rfl rfl r_lss (lt_ rfl) fun a H => ?_
              exact Ans.fin H rfl
             ·refine Ans.mk rfl rfl fun a H => s_move H rfl rfl (lt_ rfl) fun a H => ?_
              exact Ans.fin H rfl
             ·refine Ans.mk rfl rfl fun a H => ?_
              replace H := H.ch (t := 66) (b := false) rfl h151
              refine s_fld H (wantG H rfl rfl) rfl fld_37_1 (lt_ rfl) fun a H => ?_
              exact Ans.fin H rfl
             ·refine Ans.mk rfl rfl fun a H => ?_
              replace H := H.ch (t := 66) (b := false) rfl h151
              refine s_load (v := (.bool l152)) H (wantG H rfl rfl) rfl one_4 hc153 (lt_ rfl) fun a H => ?_
              exact Ans.fin H rfl
             ·refine Ans.mk rfl rfl fun a H => ?_
              replace H := H.ch (t := 66) (b := false) rfl h151
              refine s_un H (wantG H rfl rfl) rfl r_not (lt_ rfl) fun a H => ?_
              exact Ans.fin H rfl
             ·refine Ans.mk rfl rfl fun a H => ?_
              replace H := H.ch (t := 66) (b := false) rfl h151
              refine s_move H (wantG H rfl rfl) rfl (lt_ rfl) fun a H => ?_
              exact Ans.fin H rfl
             ·refine Ans.mk rfl rfl fun a H => ?_
              replace H := H.ch (t := 70) (b := true) rfl h154
              refine s_fld H (wantG H rfl rfl) rfl fld_37_2 (lt_ rfl) fun a H => ?_
              exact Ans.fin H rfl
             ·refine Ans.mk rfl rfl fun a H => ?_
              replace H := H.ch (t := 70) (b := true) rfl h154
              refine s_load (v := (.bool l155)) H (wantG H rfl rfl) rfl one_4 hc156 (lt_ rfl) fun a H => ?_
              exact Ans.fin H rfl
             ·refine Ans.mk rfl rfl fun a H => ?_
              replace H := H.ch (t := 70) (b := true) rfl h154
              refine s_un H (wantG H rfl rfl) rfl r_not (lt_ rfl) fun a H => ?_
              exact Ans.fin H rfl
             ·refine Ans.mk rfl rfl fun a H => ?_
              replace H := H.ch (t := 66) (b := false) rfl h151
              replace H := H.ch (t := 70) (b := true) rfl h154
              refine s_pickT H (wantG H rfl rfl) rfl rfl (lt_ rfl) fun a H => ?_
              exact Ans.fin H rfl
             ·refine Ans.mk rfl rfl fun a H => ?_
              replace H := H.ch (t := 66) (b := false) rfl h151
              refine s_pickF H rfl rfl rfl (lt_ rfl) fun a H => ?_
              exact Ans.fin H rfl
             ·refine Ans.mk rfl rfl fun a H => s_move H rfl rfl (lt_ rfl) fun a H => ?_
              exact Ans.fin H rfl
             ·refine Ans.mk rfl rfl fun a H => ?_
              replace H := H.ch (t := 76) (b := false) rfl h157
              refine s_move H (wantG H rfl rfl) rfl (lt_ rfl) fun a H => ?_
              exact Ans.fin H rfl
             ·refine Ans.mk rfl rfl fun a H => ?_
              replace H := H.ch (t := 76) (b := false) rfl h157
              refine s_bin H (wantG H rfl rfl) rfl rfl r_gtr (lt_ rfl) fun a H => ?_
              exact Ans.fin H rfl
             ·refine Ans.mk rfl rfl fun a H => ?_
              replace H := H.ch (t := 76) (b := false) rfl h157
              refine s_move H (wantG H rfl rfl) rfl (lt_ rfl) fun a H => ?_
              exact Ans.fin H rfl
             ·exact .skip rfl rfl rfl rfl rfl rfl h158 rfl
             ·exact .skip rfl rfl rfl rfl rfl rfl h158 rfl
             ·exact .skip rfl rfl rfl rfl rfl rfl h158 rfl
             ·exact .skip rfl rfl rfl rfl rfl rfl h158 rfl
             ·exact .skip rfl rfl rfl rfl rfl rfl h158 rfl
             ·exact .skip rfl rfl rfl rfl rfl rfl h158 rfl
             ·exact .skip rfl rfl rfl rfl rfl rfl h158 rfl
             ·exact .skip rfl rfl rfl rfl rfl rfl h158 rfl
             ·intro a H
              replace H := H.weaken (L' := [(79, (.bool (decide (0 < s102)))), (85, undef), (87, undef)]) ⟨rfl, rfl, rfl, trivial⟩
              replace H := H.ch (t := 79) (b := false) rfl h158
              refine s_skip H (wantN H rfl rfl rfl) rfl (lt_ rfl) fun a H => c_nil <| effQ.go [(30, undef), (31, (.bool false)), (32, (.bool false))] H rfl rfl <| Stg.fin [30, 31, 32] (by kernel_rfl) (.cons ?_ (.cons ?_ (.cons ?_ .nil))) ?_
              ·exact .skip rfl rfl rfl rfl rfl rfl h158 rfl
              ·refine Ans.mk rfl rfl fun a H => ?_
               replace H := H.ch (t := 76) (b := false) rfl h157
               replace H := H.ch (t := 79) (b := false) rfl h158
               refine s_pickF H (wantG H rfl rfl) rfl rfl (lt_ rfl) fun a H => ?_
               exact Ans.fin H rfl
              ·refine Ans.mk rfl rfl fun a H => ?_
               replace H := H.ch (t := 76) (b := false) rfl h157
               refine s_pickF H rfl rfl rfl (lt_ rfl) fun a H => ?_
               exact Ans.fin H rfl
              ·intro a H
               replace H := H.weaken (L' := [(0, (.i s6)), (5, (.pointer N9)), (7, (.pointer (some (blk b18)))), (8, (.pointer (some (blk b22)))), (11, (.i s80)), (12, (.string k94)), (13, E97.v), (14, (.i f130)), (30, m2.v), (31, (.i (m2.l : Int))), (32, (.i s27)), (40, (.i s80)), (48, E97.v), (49, (.i (E97.l : Int))), (50, (.i s102)), (91, (.bool false))]) ⟨rfl, rfl, rfl, rfl, rfl, rfl, rfl, rfl, rfl, rfl, rfl, rfl, rfl, rfl, rfl, rfl, trivial⟩
               exact h139 _ _ _ h (H.weaken ⟨rfl, rfl, rfl, rfl, rfl, rfl, rfl, rfl, rfl, rfl, rfl, rfl, rfl, rfl, rfl, rfl, trivial⟩)
          ·replace h := h.2 h154
           rcases Bool.eq_false_or_eq_true (decide (0 < s102)) with h177 | h177
           ·replace h := h.1 h177
            obtain ⟨a178, h179, h180, h181, C182, hc183, C184, hc185, C186, hc187, C188, hc189, h⟩ := h
            refine effQ.go [(6, (.bool (decide (C150 < 0)))), (7, (.bool (decide (C150 < 0)))), (8, (.pointer (some ((blk b125).add 2)))), (9, (.bool l152)), (10, (.bool (!l152))), (11, (.bool (!l152))), (12, undef), (13, undef), (14, undef), (15, (.bool false)), (16, (.bool false)), (17, (.bool false)), (18, (.i s102)), (19, (.bool (decide (0 < s102)))), (20, (.bool (decide (0 < s102)))), (21, E97.v), (22, (.i s102)), (23, (.i (wr .i64 (s102 - 1)))), (24, (.pointer (some (a178.add (Int.toNat (wr .i64 (s102 - 1)) * 5))))), (25, (.pointer (some ((a178.add (Int.toNat (wr .i64 (s102 - 1)) * 5)).add 0)))), (26, (.agg #[(.i C182), (.i C184)])), (27, (.pointer (some ((blk b125).add 0)))), (28, (.agg #[(.i C186), (.i C188)]))] H rfl rfl ?_
            refine Stg.eff [6, 7, 8, 9, 10, 11, 12, 13, 14, 15, 16, 17, 18, 19, 20, 21, 22, 23, 24, 25, 26, 27, 28] (by kernel_rfl) rfl (.cons ?_ (.cons ?_ (.cons ?_ (.cons ?_ (.cons ?_ (.cons ?_ (.cons ?_ (.cons ?_ (.cons ?_ (.cons ?_ (.cons ?_ (.cons ?_ (.cons ?_ (.cons ?_ (.cons ?_ (.cons ?_ (.cons ?_ (.cons ?_ (.cons ?_ (.cons ?_ (.cons ?_ (.cons ?_ (.cons ?_ .nil))))))))))))))))))))))) ?_
            ·refine Ans.mk rfl rfl fun a H => s_bin H rfl rfl rfl r_lss (lt_ rfl) fun a H => ?_
             exact Ans.fin H rfl
            ·refine Ans.mk rfl rfl fun a H => s_move H rfl rfl (lt_ rfl) fun a H => ?_
             exact Ans.fin H rfl
            ·refine Ans.mk rfl rfl fun a H => ?_
             replace H := H.ch (t := 66) (b := false) rfl h151
             refine s_fld H (wantG H rfl rfl) rfl fld_37_1 (lt_ rfl) fun a H => ?_
             exact Ans.fin H rfl
            ·refine Ans.mk rfl rfl fun a H => ?_
             replace H := H.ch (t := 66) (b := false) rfl h151
             refine s_load (v := (.bool l152)) H (wantG H rfl rfl) rfl one_4 hc153 (lt_ rfl) fun a H => ?_
             exact Ans.fin H rfl
            ·refine Ans.mk rfl rfl fun a H => ?_
             replace H := H.ch (t := 66) (b := false) rfl h151
             refine s_un H (wantG H rfl rfl) rfl r_not (lt_ rfl) fun a H => ?_
             exact Ans.fin H rfl
            ·refine Ans.mk rfl rfl fun a H => ?_
             replace H := H.ch (t := 66) (b := false) rfl h151
             refine s_move H (wantG H rfl rfl) rfl (lt_ rfl) fun a H => ?_
             exact Ans.fin H rfl
            ·exact .skip rfl rfl rfl rfl rfl rfl h154 rfl
            ·exact .skip rfl rfl rfl rfl rfl rfl h154 rfl
            ·exact .skip rfl rfl rfl rfl rfl rfl h154 rfl
            ·refine Ans.mk rfl rfl fun a H => ?_
             replace H := H.ch (t := 66) (b := false) rfl h151
             replace H := H.ch (t := 70) (b := false) rfl h154
             refine s_pickF H (wantG H rfl rfl) rfl rfl (lt_ rfl) fun a H => ?_
             exact Ans.fin H rfl
            ·refine Ans.mk rfl rfl fun a H => ?_
             replace H := H.ch (t := 66) (b := false) rfl h151
             refine s_pickF H rfl rfl rfl (lt_ rfl) fun a H => ?_
             exact Ans.fin H rfl
            ·refine Ans.mk rfl rfl fun a H => s_move H rfl rfl (lt_ rfl) fun a H => ?_
             exact Ans.fin H rfl
            ·refine Ans.mk rfl rfl fun a H => s_move H (wantG H rfl rfl) rfl (lt_ rfl) fun a H => ?_
             exact Ans.fin H rfl
            ·refine Ans.mk rfl rfl fun a H => s_bin H (wantG H rfl rfl) rfl rfl r_gtr (lt_ rfl) fun a H => ?_
             exact Ans.fin H rfl
            ·refine Ans.mk rfl rfl fun a H => s_move H (wantG H rfl rfl) rfl (lt_ rfl) fun a H => ?_
             exact Ans.fin H rfl
            ·refine Ans.mk rfl rfl fun a H => ?_
             replace H := H.ch (t := 79) (b := true) rfl h177
             refine s_move H (wantG H rfl rfl) rfl (lt_ rfl) fun a H => ?_
             exact Ans.fin H rfl
            ·refine Ans.mk rfl rfl fun a H => ?_
             replace H := H.ch (t := 79) (b := true) rfl h177
             refine s_move H (wantG H rfl rfl) rfl (lt_ rfl) fun a H => ?_
             exact Ans.fin H rfl
            ·refine Ans.mk rfl rfl fun a H => ?_
             replace H := H.ch (t := 79) (b := true) rfl h177
             refine s_bin H (wantG H rfl rfl) rfl rfl r_sub (lt_ rfl) fun a H => ?_
             exact Ans.fin H rfl
            ·refine Ans.mk rfl rfl fun a H => ?_
             replace H := H.ch (t := 79) (b := true) rfl h177
             refine s_idxS (s := E97) H (wantG H rfl rfl) rfl rfl slc_42 h179 h180 h181 (lt_ rfl) fun a H => ?_
             exact Ans.fin H rfl
            ·refine Ans.mk rfl rfl fun a H => ?_
             replace H := H.ch (t := 79) (b := true) rfl h177
             refine s_fld H (wantG H rfl rfl) rfl fld_37_0 (lt_ rfl) fun a H => ?_
             exact Ans.fin H rfl
            ·refine Ans.mk rfl rfl fun a H => ?_
             replace H := H.ch (t := 79) (b := true) rfl h177
             refine s_loadN (l := [(.i C182), (.i C184)]) H (wantG H rfl rfl) rfl agg_29 rfl ⟨hc183, hc185, trivial⟩ (lt_ rfl) fun a H => ?_
             exact Ans.fin H rfl
            ·refine Ans.mk rfl rfl fun a H => ?_
             replace H := H.ch (t := 79) (b := true) rfl h177
             refine s_fld H (wantG H rfl rfl) rfl fld_37_0 (lt_ rfl) fun a H => ?_
             exact Ans.fin H rfl
            ·refine Ans.mk rfl rfl fun a H => ?_
             replace H := H.ch (t := 79) (b := true) rfl h177
             refine s_loadN (l := [(.i C186), (.i C188)]) H (wantG H rfl rfl) rfl agg_29 rfl ⟨hc187, hc189, trivial⟩ (lt_ rfl) fun a H => ?_
             exact Ans.fin H rfl
            ·intro a H
             replace H := H.weaken (L' := [(79, (.bool (decide (0 < s102)))), (85, (.agg #[(.i C182), (.i C184)])), (87, (.agg #[(.i C186), (.i C188)]))]) ⟨rfl, rfl, rfl, trivial⟩
             replace H := H.ch (t := 79) (b := true) rfl h177
             refine s_call H (wantG H rfl rfl) body_13 (H.args (vs := [(.agg #[(.i C182), (.i C184)]), (.agg #[(.i C186), (.i C188)])]) rfl) (lt_ rfl) h ?_ (fun c w' h H => e_panic (P := PP) (fn := Try.f3) H h)
             clear H h a
             rintro _ w190 a ⟨C191, rfl, h⟩ H
             refine c_nil <| effQ.go [(30, (.bool (decide (0 ≤ C191)))), (31, (.bool (decide (0 ≤ C191)))), (32, (.bool (decide (0 ≤ C191))))] H rfl rfl <| Stg.fin [30, 31, 32] (by kernel_rfl) (.cons ?_ (.cons ?_ (.cons ?_ .nil))) ?_
             ·refine Ans.mk rfl rfl fun a H => ?_
              replace H := H.ch (t := 79) (b := true) rfl h177
              refine s_bin H (wantG H rfl rfl) rfl rfl r_geq (lt_ rfl) fun a H => ?_
              exact Ans.fin H rfl
             ·refine Ans.mk rfl rfl fun a H => ?_
              replace H := H.ch (t := 79) (b := true) rfl h177
              refine s_pickT H (wantG H rfl rfl) rfl rfl (lt_ rfl) fun a H => ?_
              exact Ans.fin H rfl
             ·refine Ans.mk rfl rfl fun a H => s_pickF H rfl rfl rfl (lt_ rfl) fun a H => ?_
              exact Ans.fin H rfl
             ·intro a H
              replace H := H.weaken (L' := [(0, (.i s6)), (5, (.pointer N9)), (7, (.pointer (some (blk b18)))), (8, (.pointer (some (blk b22)))), (11, (.i s80)), (12, (.string k94)), (13, E97.v), (14, (.i f130)), (30, m2.v), (31, (.i (m2.l : Int))), (32, (.i s27)), (40, (.i s80)), (48, E97.v), (49, (.i (E97.l : Int))), (50, (.i s102)), (91, (.bool (decide (0 ≤ C191))))]) ⟨rfl, rfl, rfl, rfl, rfl, rfl, rfl, rfl, rfl, rfl, rfl, rfl, rfl, rfl, rfl, rfl, trivial⟩
              exact h139 _ _ _ h (H.weaken ⟨rfl, rfl, rfl, rfl, rfl, rfl, rfl, rfl, rfl, rfl, rfl, rfl, rfl, rfl, rfl, rfl, trivial⟩)
           ·replace h := h.2 h177
            refine effQ.go [(6, (.bool (decide (C150 < 0)))), (7, (.bool (decide (C150 < 0)))), (8, (.pointer (some ((blk b125).add 2)))), (9, (.bool l152)), (10, (.bool (!l152))), (11, (.bool (!l152))), (12, undef), (13, undef), (14, undef), (15, (.bool false)), (16, (.bool false)), (17, (.bool false)), (18, (.i s102)), (19, (.bool (decide (0 < s102)))), (20, (.bool (decide (0 < s102)))), (21, undef), (22, undef), (23, undef), (24, undef), (25, undef), (26, undef), (27, undef), (28, undef)] H rfl rfl ?_
            refine Stg.eff [6, 7, 8, 9, 10, 11, 12, 13, 14, 15, 16, 17, 18, 19, 20, 21, 22, 23, 24, 25, 26, 27, 28] (by kernel_rfl) rfl (.cons ?_ (.cons ?_ (.cons ?_ (.cons ?_ (.cons ?_ (.cons ?_ (.cons ?_ (.cons ?_ (.cons ?_ (.cons ?_ (.cons ?_ (.cons ?_ (.cons ?_ (.cons ?_ (.cons ?_ (.cons ?_ (.cons ?_ (.cons ?_ (.cons ?_ (.cons ?_ (.cons ?_ (.cons ?_ (.cons ?_ .nil))))))))))))))))))))))) ?_
            ·refine Ans.mk rfl rfl fun a H => s_bin H rfl rfl rfl r_lss (lt_ rfl) fun a H => ?_
             exact Ans.fin H rfl
            ·refine Ans.mk rfl rfl fun a H => s_move H rfl rfl (lt_ rfl) fun a H => ?_
             exact Ans.fin H rfl
            ·refine Ans.mk rfl rfl fun a H => ?_
             replace H := H.ch (t := 66) (b := false) rfl h151
             refine s_fld H (wantG H rfl rfl) rfl fld_37_1 (lt_ rfl) fun a H => ?_
             exact Ans.fin H rfl
            ·refine Ans.mk rfl rfl fun a H => ?_
             replace H := H.ch (t := 66) (b := false) rfl h151
             refine s_load (v := (.bool l152)) H (wantG H rfl rfl) rfl one_4 hc153 (lt_ rfl) fun a H => ?_
             exact Ans.fin H rfl
            ·refine Ans.mk rfl rfl fun a H => ?_
             replace H := H.ch (t := 66) (b := false) rfl h151
             refine s_un H (wantG H rfl rfl) rfl r_not (lt_ rfl) fun a H => ?_
             exact Ans.fin H rfl
            ·refine Ans.mk rfl rfl fun a H => ?_
             replace H := H.ch (t := 66) (b := false) rfl h151
             refine s_move H (wantG H rfl rfl) rfl (lt_ rfl) fun a H => ?_
             exact Ans.fin H rfl
            ·exact .skip rfl rfl rfl rfl rfl rfl h154 rfl
            ·exact .skip rfl rfl rfl rfl rfl rfl h154 rfl
            ·exact .skip rfl rfl rfl rfl rfl rfl h154 rfl
            ·refine Ans.mk rfl rfl fun a H => ?_
             replace H := H.ch (t := 66) (b := false) rfl h151
             replace H := H.ch (t := 70) (b := false) rfl h154
             refine s_pickF H (wantG H rfl rfl) rfl rfl (lt_ rfl) fun a H => ?_
             exact Ans.fin H rfl
            ·refine Ans.mk rfl rfl fun a H => ?_
             replace H := H.ch (t := 66) (b := false) rfl h151
             refine s_pickF H rfl rfl rfl (lt_ rfl) fun a H => ?_
             exact Ans.fin H rfl
            ·refine Ans.mk rfl rfl fun a H => s_move H rfl rfl (lt_ rfl) fun a H => ?_
             exact Ans.fin H rfl
            ·refine Ans.mk rfl rfl fun a H => s_move H (wantG H rfl rfl) rfl (lt_ rfl) fun a H => ?_
             exact Ans.fin H rfl
            ·refine Ans.mk rfl rfl fun a H => s_bin H (wantG H rfl rfl) rfl rfl r_gtr (lt_ rfl) fun a H => ?_
             exact Ans.fin H rfl
            ·refine Ans.mk rfl rfl fun a H => s_move H (wantG H rfl rfl) rfl (lt_ rfl) fun a H => ?_
             exact Ans.fin H rfl
            ·exact .skip rfl rfl rfl rfl rfl rfl h177 rfl
            ·exact .skip rfl rfl rfl rfl rfl rfl h177 rfl
            ·exact .skip rfl rfl rfl rfl rfl rfl h177 rfl
            ·exact .skip rfl rfl rfl rfl rfl rfl h177 rfl
            ·exact .skip rfl rfl rfl rfl rfl rfl h177 rfl
            ·exact .skip rfl rfl rfl rfl rfl rfl h177 rfl
            ·exact .skip rfl rfl rfl rfl rfl rfl h177 rfl
            ·exact .skip rfl rfl rfl rfl rfl rfl h177 rfl
            ·intro a H
             replace H := H.weaken (L' := [(79, (.bool (decide (0 < s102)))), (85, undef), (87, undef)]) ⟨rfl, rfl, rfl, trivial⟩
             replace H := H.ch (t := 79) (b := false) rfl h177
             refine s_skip H (wantN H rfl rfl rfl) rfl (lt_ rfl) fun a H => c_nil <| effQ.go [(30, undef), (31, (.bool false)), (32, (.bool false))] H rfl rfl <| Stg.fin [30, 31, 32] (by kernel_rfl) (.cons ?_ (.cons ?_ (.cons ?_ .nil))) ?_
             ·exact .skip rfl rfl rfl rfl rfl rfl h177 rfl
             ·refine Ans.mk rfl rfl fun a H => ?_
              replace H := H.ch (t := 79) (b := false) rfl h177
              refine s_pickF H (wantG H rfl rfl) rfl rfl (lt_ rfl) fun a H => ?_
              exact Ans.fin H rfl
             ·refine Ans.mk rfl rfl fun a H => s_pickF H rfl rfl rfl (lt_ rfl) fun a H => ?_
              exact Ans.fin H rfl
             ·intro a H
              replace H := H.weaken (L' := [(0, (.i s6)), (5, (.pointer N9)), (7, (.pointer (some (blk b18)))), (8, (.pointer (some (blk b22)))), (11, (.i s80)), (12, (.string k94)), (13, E97.v), (14, (.i f130)), (30, m2.v), (31, (.i (m2.l : Int))), (32, (.i s27)), (40, (.i s80)), (48, E97.v), (49, (.i (E97.l : Int))), (50, (.i s102)), (91, (.bool false))]) ⟨rfl, rfl, rfl, rfl, rfl, rfl, rfl, rfl, rfl, rfl, rfl, rfl, rfl, rfl, rfl, rfl, trivial⟩
              exact h139 _ _ _ h (H.weaken ⟨rfl, rfl, rfl, rfl, rfl, rfl, rfl, rfl, rfl, rfl, rfl, rfl, rfl, rfl, rfl, rfl, trivial⟩)
      clear h210
      refine c_seq fun K206 hK206 => c_reg <| s_fld H rfl rfl fld_37_1 (lt_ rfl) fun a H => ?_
      obtain ⟨l207, hc208, h⟩ := h
      refine s_load (v := (.bool l207)) H rfl rfl one_4 hc208 (lt_ rfl) fun a H => c_nil <| hK206 _ _ <| c_cond H rfl (fun h209 => ?_) (fun h209 => ?_)
      ·replace h := h.1 h209
       refine c_reg <| s_move H rfl rfl (lt_ rfl) fun a H => s_bin H rfl rfl rfl r_add (lt_ rfl) fun a H => s_assign H rfl rfl (lt_ rfl) fun a H => c_nil ?_
       exact h205 _ _ _ h (H.weaken ⟨rfl, rfl, rfl, rfl, rfl, rfl, rfl, rfl, rfl, rfl, rfl, rfl, rfl, rfl, rfl, rfl, rfl, trivial⟩)
      ·replace h := h.2 h209
       refine c_skip ?_
       exact h205 _ _ _ h (H.weaken ⟨rfl, rfl, rfl, rfl, rfl, rfl, rfl, rfl, rfl, rfl, rfl, rfl, rfl, rfl, rfl, rfl, rfl, trivial⟩)
     ·replace h := h.2 h108
      refine c_exit ?_
      first | (simp only [Exit.then, Exit.inBlock, ↓reduceIte]; fail_if_success simp only [Nat.reduceEqDiff]) | simp only [Exit.then, Exit.inBlock, ↓reduceIte, Nat.reduceEqDiff]
      refine hK99 _ _ <| c_seq fun K211 hK211 => c_seq fun K212 hK212 => ?_
      obtain ⟨R214, h, h284⟩ := h
      have h239 : ∀ (a : Act) (s213 : Bool) (w215 : World), R214 s213 w215 → Has 130 [] a [(0, (.i s6)), (5, (.pointer N9)), (7, (.pointer (some (blk b18)))), (8, (.pointer (some (blk b22)))), (11, (.i s80)), (12, (.string k94)), (30, m2.v), (31, (.i (m2.l : Int))), (32, (.i s27)), (40, (.i s80)), (116, (.bool s213))] → K212 a w215 := by
       clear h
       intro a s213 w215 h H
       replace h := h284 s213 w215 h
       refine hK212 _ _ <| c_cond H rfl (fun h216 => ?_) (fun h216 => ?_)
       ·replace h := h.1 h216
        refine c_seq fun K217 hK217 => c_reg <| s_assign H rfl rfl (lt_ rfl) fun a H => c_nil <| hK217 _ _ <| c_ret ?_
        exact e_ret1 H rfl rfl h
       ·replace h := h.2 h216
        refine c_skip <| hK211 _ _ <| c_seq fun K218 hK218 => c_reg ?_
        iterate 3 refine s_move H rfl rfl (lt_ rfl) fun a H => ?_
        refine s_call H rfl body_14 (H.args (vs := [(.pointer N9), (.string k94)]) rfl) (lt_ rfl) h ?_ (fun c w' h H => e_panic (P := PP) (fn := Try.f3) H h)
        clear H h a
        rintro _ w219 a ⟨C220, C221, rfl, h⟩ H
        obtain ⟨h222, h223, h⟩ := h
        refine s_idxA H rfl rfl rfl arr_30 h222 h223 (lt_ rfl) fun a H => s_stoN (l := [(.i C220), (.i C221)]) H rfl rfl rfl rfl agg_29 rfl rfl h ?_
        clear h H
        intro w224 h H
        refine c_nil <| hK218 _ _ <| c_reg ?_
        iterate 3 refine s_move H rfl rfl (lt_ rfl) fun a H => ?_
        refine s_call H rfl body_15 (H.args (vs := [(.pointer N9), (.string k94)]) rfl) (lt_ rfl) h ?_ (fun c w' h H => e_panic (P := PP) (fn := Try.f3) H h)
        clear H h a
        rintro _ w225 a ⟨C226, C227, rfl, h⟩ H
        obtain ⟨h228, h229, h⟩ := h
        refine s_idxA H rfl rfl rfl arr_30 h228 h229 (lt_ rfl) fun a H => s_stoN (l := [(.i C226), (.i C227)]) H rfl rfl rfl rfl agg_29 rfl rfl h ?_
        clear h H
        intro w230 h H
        refine c_nil ?_
        exact h90 _ _ h (H.weaken ⟨rfl, rfl, rfl, rfl, rfl, rfl, rfl, rfl, trivial⟩)
      clear h284
      replace H := H.weaken (L' := [(0, (.i s6)), (5, (.pointer N9)), (7, (.pointer (some (blk b18)))), (8, (.pointer (some (blk b22)))), (11, (.i s80)), (12, (.string k94)), (14, (.i f101)), (30, m2.v), (31, (.i (m2.l : Int))), (32, (.i s27)), (40, (.i s80))]) ⟨rfl, rfl, rfl, rfl, rfl, rfl, rfl, rfl, rfl, rfl, rfl, trivial⟩
      rcases Bool.eq_false_or_eq_true (decide ((wr .i64 (s6 + 1)) < f101)) with h240 | h240
      ·replace h := h.1 h240
       refine c_any (V := [(0, (.i f101)), (1, (.i s6)), (2, (.i (wr .i64 (s6 + 1)))), (3, (.bool (decide ((wr .i64 (s6 + 1)) < f101)))), (4, (.bool (decide ((wr .i64 (s6 + 1)) < f101)))), (5, undef), (6, undef), (8, undef), (9, undef), (10, undef)]) (⟨[[], [], [1], [0, 2], [3], [4], [4], [4, 5, 6], [4], [4, 8], [4, 9], [4, 7, 10], [4, 11], [4, 12], [11, 13], [14], [14], [14, 15, 16], [14], [14, 18], [14, 19], [14, 17, 20], [14, 21], [14, 22]], [some 93, some 94, some 95, some 96, some 97, some 98, some 99, some 100, some 101, some 102, some 103, some 104, some 105, some 106, some 107, some 108, some 109, some 110, some 111, some 112, some 113, some 114, some 115, some 116], [7, 11, 17, 21], [0, 0, 0, 0, 0, 0, 0, 0, 0, 0, 0, 1, 2, 2, 2, 2, 2, 2, 2, 2, 2, 3, 4, 4], [0, 0, 0, 0, 0, 0, 0, 1, 1, 1, 1, 2, 2, 2, 2, 2, 2, 3, 3, 3, 3, 4, 4, 4]⟩ : Rg) [(0, (.i s6)), (5, (.pointer N9)), (7, (.pointer (some (blk b18)))), (8, (.pointer (some (blk b22)))), (11, (.i s80)), (12, (.string k94)), (14, (.i f101)), (30, m2.v), (31, (.i (m2.l : Int))), (32, (.i s27)), (40, (.i s80))] mixed (by kernel_rfl) H ?_
       refine Stg.eff [0, 1, 2, 3, 4, 5, 6, 8, 9, 10] (by kernel_rfl) rfl (.cons ?_ (.cons ?_ (.cons ?_ (.cons ?_ (.cons ?_ (.cons ?_ (.cons ?_ (.cons ?_ (.cons ?_ (.cons ?_ .nil)))))))))) ?_
       ·refine Ans.mk rfl rfl fun a H => s_move H rfl rfl (lt_ rfl) fun a H => ?_
        exact Ans.fin H rfl
       ·refine Ans.mk rfl rfl fun a H => s_move H rfl rfl (lt_ rfl) fun a H => ?_
        exact Ans.fin H rfl
       ·refine Ans.mk rfl rfl fun a H => s_bin H rfl rfl rfl r_add (lt_ rfl) fun a H => ?_
        exact Ans.fin H rfl
       ·refine Ans.mk rfl rfl fun a H => s_bin H rfl rfl rfl r_gtr (lt_ rfl) fun a H => ?_
        exact Ans.fin H rfl
       ·refine Ans.mk rfl rfl fun a H => s_move H rfl rfl (lt_ rfl) fun a H => ?_
        exact Ans.fin H rfl
       ·exact .skip rfl rfl rfl rfl rfl rfl h240 rfl
       ·exact .skip rfl rfl rfl rfl rfl rfl h240 rfl
       ·exact .skip rfl rfl rfl rfl rfl rfl h240 rfl
       ·exact .skip rfl rfl rfl rfl rfl rfl h240 rfl
       ·exact .skip rfl rfl rfl rfl rfl rfl h240 rfl
       ·intro a H
        replace H := H.weaken (L' := [(97, (.bool (decide ((wr .i64 (s6 + 1)) < f101)))), (98, undef), (99, undef)]) ⟨rfl, rfl, rfl, trivial⟩
        replace H := H.ch (t := 97) (b := true) rfl h240
        refine s_skip H (wantN H rfl rfl rfl) rfl (lt_ rfl) fun a H => c_nil <| effQ.go [] H rfl rfl <| Stg.eff [8, 9, 10] (by kernel_rfl) rfl (.cons ?_ (.cons ?_ (.cons ?_ .nil))) ?_
        ·exact .skip rfl rfl rfl rfl rfl rfl h240 rfl
        ·exact .skip rfl rfl rfl rfl rfl rfl h240 rfl
        ·exact .skip rfl rfl rfl rfl rfl rfl h240 rfl
        ·intro a H
         replace H := H.weaken (L' := [(97, (.bool (decide ((wr .i64 (s6 + 1)) < f101)))), (100, undef), (103, undef)]) ⟨rfl, rfl, rfl, trivial⟩
         replace H := H.ch (t := 97) (b := true) rfl h240
         refine s_skip H (wantN H rfl rfl rfl) rfl (lt_ rfl) fun a H => c_nil <| effQ.go [(12, undef), (13, (.bool true)), (14, (.bool true)), (15, undef), (16, undef), (18, undef), (19, undef), (20, undef)] H rfl rfl <| Stg.eff [12, 13, 14, 15, 16, 18, 19, 20] (by kernel_rfl) rfl (.cons ?_ (.cons ?_ (.cons ?_ (.cons ?_ (.cons ?_ (.cons ?_ (.cons ?_ (.cons ?_ .nil)))))))) ?_
         ·exact .skip rfl rfl rfl rfl rfl rfl h240 rfl
         ·refine Ans.mk rfl rfl fun a H => ?_
          replace H := H.ch (t := 97) (b := true) rfl h240
          refine s_pickT H rfl rfl rfl (lt_ rfl) fun a H => ?_
          exact Ans.fin H rfl
         ·refine Ans.mk rfl rfl fun a H => s_move H rfl rfl (lt_ rfl) fun a H => ?_
          exact Ans.fin H rfl
         ·exact .skip rfl rfl rfl rfl rfl rfl rfl rfl
         ·exact .skip rfl rfl rfl rfl rfl rfl rfl rfl
         ·exact .skip rfl rfl rfl rfl rfl rfl rfl rfl
         ·exact .skip rfl rfl rfl rfl rfl rfl rfl rfl
         ·exact .skip rfl rfl rfl rfl rfl rfl rfl rfl
         ·intro a H
          replace H := H.weaken (L' := [(107, (.bool true)), (108, undef), (109, undef)]) ⟨rfl, rfl, rfl, trivial⟩
          refine s_skip H (wantN H rfl rfl rfl) rfl (lt_ rfl) fun a H => c_nil <| effQ.go [] H rfl rfl <| Stg.eff [18, 19, 20] (by kernel_rfl) rfl (.cons ?_ (.cons ?_ (.cons ?_ .nil))) ?_
          ·exact .skip rfl rfl rfl rfl rfl rfl rfl rfl
          ·exact .skip rfl rfl rfl rfl rfl rfl rfl rfl
          ·exact .skip rfl rfl rfl rfl rfl rfl rfl rfl
          ·intro a H
           replace H := H.weaken (L' := [(107, (.bool true)), (110, undef), (113, undef)]) ⟨rfl, rfl, rfl, trivial⟩
           refine s_skip H (wantN H rfl rfl rfl) rfl (lt_ rfl) fun a H => c_nil <| effQ.go [(22, undef), (23, (.bool true))] H rfl rfl <| Stg.fin [22, 23] (by kernel_rfl) (.cons ?_ (.cons ?_ .nil)) ?_
           ·exact .skip rfl rfl rfl rfl rfl rfl rfl rfl
           ·refine Ans.mk rfl rfl fun a H => s_pickT H rfl rfl rfl (lt_ rfl) fun a H => ?_
            exact Ans.fin H rfl
           ·intro a H
            replace H := H.weaken (L' := [(0, (.i s6)), (5, (.pointer N9)), (7, (.pointer (some (blk b18)))), (8, (.pointer (some (blk b22)))), (11, (.i s80)), (12, (.string k94)), (30, m2.v), (31, (.i (m2.l : Int))), (32, (.i s27)), (40, (.i s80)), (116, (.bool true))]) ⟨rfl, rfl, rfl, rfl, rfl, rfl, rfl, rfl, rfl, rfl, rfl, trivial⟩
            exact h239 _ _ _ h (H.weaken ⟨rfl, rfl, rfl, rfl, rfl, rfl, rfl, rfl, rfl, rfl, rfl, trivial⟩)
      ·replace h := h.2 h240
       obtain ⟨h241, h242, C243, hc244, C245, hc246, h⟩ := h
       refine c_any (V := [(0, (.i f101)), (1, (.i s6)), (2, (.i (wr .i64 (s6 + 1)))), (3, (.bool (decide ((wr .i64 (s6 + 1)) < f101)))), (4, (.bool (decide ((wr .i64 (s6 + 1)) < f101)))), (5, (.pointer N9)), (6, (.string k94)), (8, (.i s80)), (9, (.pointer (some ((blk b18).add (Int.toNat (s80) * 2))))), (10, (.agg #[(.i C243), (.i C245)]))]) (⟨[[], [], [1], [0, 2], [3], [4], [4], [4, 5, 6], [4], [4, 8], [4, 9], [4, 7, 10], [4, 11], [4, 12], [11, 13], [14], [14], [14, 15, 16], [14], [14, 18], [14, 19], [14, 17, 20], [14, 21], [14, 22]], [some 93, some 94, some 95, some 96, some 97, some 98, some 99, some 100, some 101, some 102, some 103, some 104, some 105, some 106, some 107, some 108, some 109, some 110, some 111, some 112, some 113, some 114, some 115, some 116], [7, 11, 17, 21], [0, 0, 0, 0, 0, 0, 0, 0, 0, 0, 0, 1, 2, 2, 2, 2, 2, 2, 2, 2, 2, 3, 4, 4], [0, 0, 0, 0, 0, 0, 0, 1, 1, 1, 1, 2, 2, 2, 2, 2, 2, 3, 3, 3, 3, 4, 4, 4]⟩ : Rg) [(0, (.i s6)), (5, (.pointer N9)), (7, (.pointer (some (blk b18)))), (8, (.pointer (some (blk b22)))), (11, (.i s80)), (12, (.string k94)), (14, (.i f101)), (30, m2.v), (31, (.i (m2.l : Int))), (32, (.i s27)), (40, (.i s80))] mixed (by kernel_rfl) H ?_
       refine Stg.eff [0, 1, 2, 3, 4, 5, 6, 8, 9, 10] (by kernel_rfl) rfl (.cons ?_ (.cons ?_ (.cons ?_ (.cons ?_ (.cons ?_ (.cons ?_ (.cons ?_ (.cons ?_ (.cons ?_ (.cons ?_ .nil)))))))))) ?_
       ·refine Ans.mk rfl rfl fun a H => s_move H rfl rfl (lt_ rfl) fun a H => ?_
        exact Ans.fin H rfl
       ·refine Ans.mk rfl rfl fun a H => s_move H rfl rfl (lt_ rfl) fun a H => ?_
        exact Ans.fin H rfl
       ·refine Ans.mk rfl rfl fun a H => s_bin H rfl rfl rfl r_add (lt_ rfl) fun a H => ?_
        exact Ans.fin H rfl
       ·refine Ans.mk rfl rfl fun a H => s_bin H rfl rfl rfl r_gtr (lt_ rfl) fun a H => ?_
        exact Ans.fin H rfl
       ·refine Ans.mk rfl rfl fun a H => s_move H rfl rfl (lt_ rfl) fun a H => ?_
        exact Ans.fin H rfl
       ·refine Ans.mk rfl rfl fun a H => ?_
        replace H := H.ch (t := 97) (b := false) rfl h240
        refine s_move H (wantG H rfl rfl) rfl (lt_ rfl) fun a H => ?_
        exact Ans.fin H rfl
       ·refine Ans.mk rfl rfl fun a H => ?_
        replace H := H.ch (t := 97) (b := false) rfl h240
        refine s_move H (wantG H rfl rfl) rfl (lt_ rfl) fun a H => ?_
        exact Ans.fin H rfl
       ·refine Ans.mk rfl rfl fun a H => ?_
        replace H := H.ch (t := 97) (b := false) rfl h240
        refine s_move H (wantG H rfl rfl) rfl (lt_ rfl) fun a H => ?_
        exact Ans.fin H rfl
       ·refine Ans.mk rfl rfl fun a H => ?_
        replace H := H.ch (t := 97) (b := false) rfl h240
        refine s_idxA H (wantG H rfl rfl) rfl rfl arr_30 h241 h242 (lt_ rfl) fun a H => ?_
        exact Ans.fin H rfl
       ·refine Ans.mk rfl rfl fun a H => ?_
        replace H := H.ch (t := 97) (b := false) rfl h240
        refine s_loadN (l := [(.i C243), (.i C245)]) H (wantG H rfl rfl) rfl agg_29 rfl ⟨hc244, hc246, trivial⟩ (lt_ rfl) fun a H => ?_
        exact Ans.fin H rfl
       ·intro a H
        replace H := H.weaken (L' := [(97, (.bool (decide ((wr .i64 (s6 + 1)) < f101)))), (98, (.pointer N9)), (99, (.string k94))]) ⟨rfl, rfl, rfl, trivial⟩
        replace H := H.ch (t := 97) (b := false) rfl h240
        refine s_call H (wantG H rfl rfl) body_14 (H.args (vs := [(.pointer N9), (.string k94)]) rfl) (lt_ rfl) h ?_ (fun c w' h H => e_panic (P := PP) (fn := Try.f3) H h)
        clear H h a
        rintro _ w247 a ⟨C248, C249, rfl, h⟩ H
        refine c_nil ?_
        obtain ⟨hc250, hc251, h⟩ := h
        refine effQ.go [] H rfl rfl <| Stg.eff [8, 9, 10] (by kernel_rfl) rfl (.cons ?_ (.cons ?_ (.cons ?_ .nil))) ?_
        ·refine Ans.mk rfl rfl fun a H => ?_
         replace H := H.ch (t := 97) (b := false) rfl h240
         refine s_move H (wantG H rfl rfl) rfl (lt_ rfl) fun a H => ?_
         exact Ans.fin H rfl
        ·refine Ans.mk rfl rfl fun a H => ?_
         replace H := H.ch (t := 97) (b := false) rfl h240
         refine s_idxA H (wantG H rfl rfl) rfl rfl arr_30 h241 h242 (lt_ rfl) fun a H => ?_
         exact Ans.fin H rfl
        ·refine Ans.mk rfl rfl fun a H => ?_
         replace H := H.ch (t := 97) (b := false) rfl h240
         refine s_loadN (l := [(.i C243), (.i C245)]) H (wantG H rfl rfl) rfl agg_29 rfl ⟨hc250, hc251, trivial⟩ (lt_ rfl) fun a H => ?_
         exact Ans.fin H rfl
        ·intro a H
         replace H := H.weaken (L' := [(97, (.bool (decide ((wr .i64 (s6 + 1)) < f101)))), (100, (.agg #[(.i C248), (.i C249)])), (103, (.agg #[(.i C243), (.i C245)]))]) ⟨rfl, rfl, rfl, trivial⟩
         replace H := H.ch (t := 97) (b := false) rfl h240
         refine s_call H (wantG H rfl rfl) body_13 (H.args (vs := [(.agg #[(.i C248), (.i C249)]), (.agg #[(.i C243), (.i C245)])]) rfl) (lt_ rfl) h ?_ (fun c w' h H => e_panic (P := PP) (fn := Try.f3) H h)
         clear H h a
         rintro _ w252 a ⟨C253, rfl, h⟩ H
         refine c_nil ?_
         rcases Bool.eq_false_or_eq_true (decide (C253 < 0)) with h254 | h254
         ·replace h := h.1 h254
          refine effQ.go [(12, (.bool (decide (C253 < 0)))), (13, (.bool (decide (C253 < 0)))), (14, (.bool (decide (C253 < 0)))), (15, undef), (16, undef), (18, undef), (19, undef), (20, undef)] H rfl rfl <| Stg.eff [12, 13, 14, 15, 16, 18, 19, 20] (by kernel_rfl) rfl (.cons ?_ (.cons ?_ (.cons ?_ (.cons ?_ (.cons ?_ (.cons ?_ (.cons ?_ (.cons ?_ .nil)))))))) ?_
          ·refine Ans.mk rfl rfl fun a H => ?_
           replace H := H.ch (t := 97) (b := false) rfl h240
           refine s_bin H (wantG H rfl rfl) rfl rfl r_lss (lt_ rfl) fun a H => ?_
           exact Ans.fin H rfl
          ·refine Ans.mk rfl rfl fun a H => ?_
           replace H := H.ch (t := 97) (b := false) rfl h240
           refine s_pickF H rfl rfl rfl (lt_ rfl) fun a H => ?_
           exact Ans.fin H rfl
          ·refine Ans.mk rfl rfl fun a H => s_move H rfl rfl (lt_ rfl) fun a H => ?_
           exact Ans.fin H rfl
          ·exact .skip rfl rfl rfl rfl rfl rfl h254 rfl
          ·exact .skip rfl rfl rfl rfl rfl rfl h254 rfl
          ·exact .skip rfl rfl rfl rfl rfl rfl h254 rfl
          ·exact .skip rfl rfl rfl rfl rfl rfl h254 rfl
          ·exact .skip rfl rfl rfl rfl rfl rfl h254 rfl
          ·intro a H
           replace H := H.weaken (L' := [(107, (.bool (decide (C253 < 0)))), (108, undef), (109, undef)]) ⟨rfl, rfl, rfl, trivial⟩
           replace H := H.ch (t := 107) (b := true) rfl h254
           refine s_skip H (wantN H rfl rfl rfl) rfl (lt_ rfl) fun a H => c_nil <| effQ.go [] H rfl rfl <| Stg.eff [18, 19, 20] (by kernel_rfl) rfl (.cons ?_ (.cons ?_ (.cons ?_ .nil))) ?_
           ·exact .skip rfl rfl rfl rfl rfl rfl h254 rfl
           ·exact .skip rfl rfl rfl rfl rfl rfl h254 rfl
           ·exact .skip rfl rfl rfl rfl rfl rfl h254 rfl
           ·intro a H
            replace H := H.weaken (L' := [(107, (.bool (decide (C253 < 0)))), (110, undef), (113, undef)]) ⟨rfl, rfl, rfl, trivial⟩
            replace H := H.ch (t := 107) (b := true) rfl h254
            refine s_skip H (wantN H rfl rfl rfl) rfl (lt_ rfl) fun a H => c_nil <| effQ.go [(22, undef), (23, (.bool true))] H rfl rfl <| Stg.fin [22, 23] (by kernel_rfl) (.cons ?_ (.cons ?_ .nil)) ?_
            ·exact .skip rfl rfl rfl rfl rfl rfl h254 rfl
            ·refine Ans.mk rfl rfl fun a H => ?_
             replace H := H.ch (t := 107) (b := true) rfl h254
             refine s_pickT H rfl rfl rfl (lt_ rfl) fun a H => ?_
             exact Ans.fin H rfl
            ·intro a H
             replace H := H.weaken (L' := [(0, (.i s6)), (5, (.pointer N9)), (7, (.pointer (some (blk b18)))), (8, (.pointer (some (blk b22)))), (11, (.i s80)), (12, (.string k94)), (30, m2.v), (31, (.i (m2.l : Int))), (32, (.i s27)), (40, (.i s80)), (116, (.bool true))]) ⟨rfl, rfl, rfl, rfl, rfl, rfl, rfl, rfl, rfl, rfl, rfl, trivial⟩
             exact h239 _ _ _ h (H.weaken ⟨rfl, rfl, rfl, rfl, rfl, rfl, rfl, rfl, rfl, rfl, rfl, trivial⟩)
         ·replace h := h.2 h254
          obtain ⟨h255, h256, C257, hc258, C259, hc260, h⟩ := h
          refine effQ.go [(12, (.bool (decide (C253 < 0)))), (13, (.bool (decide (C253 < 0)))), (14, (.bool (decide (C253 < 0)))), (15, (.pointer N9)), (16, (.string k94)), (18, (.i s80)), (19, (.pointer (some ((blk b22).add (Int.toNat (s80) * 2))))), (20, (.agg #[(.i C257), (.i C259)]))] H rfl rfl <| Stg.eff [12, 13, 14, 15, 16, 18, 19, 20] (by kernel_rfl) rfl (.cons ?_ (.cons ?_ (.cons ?_ (.cons ?_ (.cons ?_ (.cons ?_ (.cons ?_ (.cons ?_ .nil)))))))) ?_
          ·refine Ans.mk rfl rfl fun a H => ?_
           replace H := H.ch (t := 97) (b := false) rfl h240
           refine s_bin H (wantG H rfl rfl) rfl rfl r_lss (lt_ rfl) fun a H => ?_
           exact Ans.fin H rfl
          ·refine Ans.mk rfl rfl fun a H => ?_
           replace H := H.ch (t := 97) (b := false) rfl h240
           refine s_pickF H rfl rfl rfl (lt_ rfl) fun a H => ?_
           exact Ans.fin H rfl
          ·refine Ans.mk rfl rfl fun a H => s_move H rfl rfl (lt_ rfl) fun a H => ?_
           exact Ans.fin H rfl
          ·refine Ans.mk rfl rfl fun a H => ?_
           replace H := H.ch (t := 107) (b := false) rfl h254
           refine s_move H (wantG H rfl rfl) rfl (lt_ rfl) fun a H => ?_
           exact Ans.fin H rfl
          ·refine Ans.mk rfl rfl fun a H => ?_
           replace H := H.ch (t := 107) (b := false) rfl h254
           refine s_move H (wantG H rfl rfl) rfl (lt_ rfl) fun a H => ?_
           exact Ans.fin H rfl
          ·refine Ans.mk rfl rfl fun a H => ?_
           replace H := H.ch (t := 107) (b := false) rfl h254
           refine s_move H (wantG H rfl rfl) rfl (lt_ rfl) fun a H => ?_
           exact Ans.fin H rfl
          ·refine Ans.mk rfl rfl fun a H => ?_
           replace H := H.ch (t := 107) (b := false) rfl h254
           refine s_idxA H (wantG H rfl rfl) rfl rfl arr_30 h255 h256 (lt_ rfl) fun a H => ?_
           exact Ans.fin H rfl
          ·refine Ans.mk rfl rfl fun a H => ?_
           replace H := H.ch (t := 107) (b := false) rfl h254
           refine s_loadN (l := [(.i C257), (.i C259)]) H (wantG H rfl rfl) rfl agg_29 rfl ⟨hc258, hc260, trivial⟩ (lt_ rfl) fun a H => ?_
           exact Ans.fin H rfl
          ·intro a H
           replace H := H.weaken (L' := [(107, (.bool (decide (C253 < 0)))), (108, (.pointer N9)), (109, (.string k94))]) ⟨rfl, rfl, rfl, trivial⟩
           replace H := H.ch (t := 107) (b := false) rfl h254
           refine s_call H (wantG H rfl rfl) body_15 (H.args (vs := [(.pointer N9), (.string k94)]) rfl) (lt_ rfl) h ?_ (fun c w' h H => e_panic (P := PP) (fn := Try.f3) H h)
           clear H h a
           rintro _ w261 a ⟨C262, C263, rfl, h⟩ H
           refine c_nil ?_
           obtain ⟨hc264, hc265, h⟩ := h
           refine effQ.go [] H rfl rfl <| Stg.eff [18, 19, 20] (by kernel_rfl) rfl (.cons ?_ (.cons ?_ (.cons ?_ .nil))) ?_
           ·refine Ans.mk rfl rfl fun a H => ?_
            replace H := H.ch (t := 107) (b := false) rfl h254
            refine s_move H (wantG H rfl rfl) rfl (lt_ rfl) fun a H => ?_
            exact Ans.fin H rfl
           ·refine Ans.mk rfl rfl fun a H => ?_
            replace H := H.ch (t := 107) (b := false) rfl h254
            refine s_idxA H (wantG H rfl rfl) rfl rfl arr_30 h255 h256 (lt_ rfl) fun a H => ?_
            exact Ans.fin H rfl
           ·refine Ans.mk rfl rfl fun a H => ?_
            replace H := H.ch (t := 107) (b := false) rfl h254
            refine s_loadN (l := [(.i C257), (.i C259)]) H (wantG H rfl rfl) rfl agg_29 rfl ⟨hc264, hc265, trivial⟩ (lt_ rfl) fun a H => ?_
            exact Ans.fin H rfl
           ·intro a H
            replace H := H.weaken (L' := [(107, (.bool (decide (C253 < 0)))), (110, (.agg #[(.i C262), (.i C263)])), (113, (.agg #[(.i C257), (.i C259)]))]) ⟨rfl, rfl, rfl, trivial⟩
            replace H := H.ch (t := 107) (b := false) rfl h254
            refine s_call H (wantG H rfl rfl) body_13 (H.args (vs := [(.agg #[(.i C262), (.i C263)]), (.agg #[(.i C257), (.i C259)])]) rfl) (lt_ rfl) h ?_ (fun c w' h H => e_panic (P := PP) (fn := Try.f3) H h)
            clear H h a
            rintro _ w266 a ⟨C267, rfl, h⟩ H
            refine c_nil <| effQ.go [(22, (.bool (decide (C267 < 0)))), (23, (.bool (decide (C267 < 0))))] H rfl rfl <| Stg.fin [22, 23] (by kernel_rfl) (.cons ?_ (.cons ?_ .nil)) ?_
            ·refine Ans.mk rfl rfl fun a H => ?_
             replace H := H.ch (t := 107) (b := false) rfl h254
             refine s_bin H (wantG H rfl rfl) rfl rfl r_lss (lt_ rfl) fun a H => ?_
             exact Ans.fin H rfl
            ·refine Ans.mk rfl rfl fun a H => ?_
             replace H := H.ch (t := 107) (b := false) rfl h254
             refine s_pickF H rfl rfl rfl (lt_ rfl) fun a H => ?_
             exact Ans.fin H rfl
            ·intro a H
             replace H := H.weaken (L' := [(0, (.i s6)), (5, (.pointer N9)), (7, (.pointer (some (blk b18)))), (8, (.pointer (some (blk b22)))), (11, (.i s80)), (12, (.string k94)), (30, m2.v), (31, (.i (m2.l : Int))), (32, (.i s27)), (40, (.i s80)), (116, (.bool (decide (C267 < 0))))]) ⟨rfl, rfl, rfl, rfl, rfl, rfl, rfl, rfl, rfl, rfl, rfl, trivial⟩
             exact h239 _ _ _ h (H.weaken ⟨rfl, rfl, rfl, rfl, rfl, rfl, rfl, rfl, rfl, rfl, rfl, trivial⟩)
    ·replace h := h.2 h86
     refine c_exit ?_
     first | (simp only [Exit.then, Exit.inBlock, ↓reduceIte]; fail_if_success simp only [Nat.reduceEqDiff]) | simp only [Exit.then, Exit.inBlock, ↓reduceIte, Nat.reduceEqDiff]
     exact h37 _ _ h (H.weaken ⟨rfl, rfl, rfl, rfl, rfl, rfl, rfl, trivial⟩)
   ·replace h := h.2 h33
    refine c_exit ?_
    first | (simp only [Exit.then, Exit.inBlock, ↓reduceIte]; fail_if_success simp only [Nat.reduceEqDiff]) | simp only [Exit.then, Exit.inBlock, ↓reduceIte, Nat.reduceEqDiff]
    refine hK25 _ _ <| c_seq fun K307 hK307 => c_reg <| s_call H rfl body_16 (H.args (vs := []) rfl) (lt_ rfl) h ?_ (fun c w' h H => e_panic (P := PP) (fn := Try.f3) H h)
    clear H h a
    rintro _ w308 a ⟨t309, rfl, h⟩ H
    refine s_assign H rfl rfl (lt_ rfl) fun a H => c_nil <| hK307 _ _ <| c_ret ?_
    exact e_ret1 H rfl rfl h

theorem sim_sherdlaw15_TableHolds (d1 : Int) (m2 : Slc) (w : World) (Q : Ending → World → Prop) (h : vc_sherdlaw15_TableHolds d1 m2 w Q) : Calls PP F_sherdlaw15_TableHolds #[(.i d1), m2.v] w Q := by
 unfold vc_sherdlaw15_TableHolds at h
 refine enter (n := 84) Try.func4 rfl rfl (Nat.le_of_ble_eq_true rfl) fun a H => c_seq fun K3 hK3 => c_reg <| s_assign H rfl rfl (lt_ rfl) fun a H => c_nil <| hK3 _ _ <| c_seq fun K4 hK4 => c_reg <| s_move H rfl rfl (lt_ rfl) fun a H => s_call H rfl body_7 (H.args (vs := [(.i d1)]) rfl) (lt_ rfl) h ?_ (fun c w' h H => e_panic (P := PP) (fn := Try.f4) H h)
 clear H h a
 rintro _ w5 a ⟨s6, rfl, h⟩ H
 refine s_assign H rfl rfl (lt_ rfl) fun a H => c_nil <| hK4 _ _ <| c_seq fun K7 hK7 => c_reg <| s_move H rfl rfl (lt_ rfl) fun a H => s_move H rfl rfl (lt_ rfl) fun a H => s_call H rfl body_17 (H.args (vs := [(.i s6), m2.v]) rfl) (lt_ rfl) h ?_ (fun c w' h H => e_panic (P := PP) (fn := Try.f4) H h)
 clear H h a
 rintro _ w8 a ⟨d9, d10, rfl, h⟩ H
 refine s_move H rfl rfl (lt_ rfl) fun a H => s_ext H rfl rfl rfl (lt_ rfl) fun a H => s_ext H rfl rfl rfl (lt_ rfl) fun a H => s_assign H rfl rfl (lt_ rfl) fun a H => s_assign H rfl rfl (lt_ rfl) fun a H => c_nil <| hK7 _ _ <| c_seq fun K11 hK11 => c_seq fun K12 hK12 => c_reg <| s_move H rfl rfl (lt_ rfl) fun a H => s_un H rfl rfl r_not (lt_ rfl) fun a H => c_nil <| hK12 _ _ <| c_cond H rfl (fun h13 => ?_) (fun h13 => ?_)
 ·replace h := h.1 h13
  refine c_seq fun K14 hK14 => c_reg <| s_assign H rfl rfl (lt_ rfl) fun a H => c_nil <| hK14 _ _ <| c_ret ?_
  exact e_ret1 H rfl rfl h
 ·replace h := h.2 h13
  refine c_skip <| hK11 _ _ <| c_seq fun K15 hK15 => c_seq fun K16 hK16 => c_reg <| s_move H rfl rfl (lt_ rfl) fun a H => c_nil <| hK16 _ _ <| c_block ?_
  obtain ⟨I19, m20, h180, h181⟩ := h
  refine c_loop (σ := Int) (fun z w => I19 z w) (fun z w => m20 z w) (fun z => [(0, (.i s6)), (1, m2.v), (5, (.pointer d9)), (25, (.i z))]) 0 h180 (H.weaken ⟨rfl, rfl, rfl, rfl, trivial⟩) ?_
  clear H h180
  rintro s17 a w18 h H
  replace h := h181 s17 w18 h
  clear h181
  replace H : Has 84 [] a [(0, (.i s6)), (1, m2.v), (5, (.pointer d9)), (25, (.i s17))] := H
  refine c_seq fun K21 hK21 => c_reg <| s_bin H rfl rfl rfl r_lss (lt_ rfl) fun a H => c_nil <| hK21 _ _ <| c_seq fun K22 hK22 => c_cond H rfl (fun h23 => ?_) (fun h23 => ?_)
  ·replace h := h.1 h23
   refine c_skip <| hK22 _ _ <| c_seq fun K24 hK24 => ?_
   obtain ⟨R25, h, h172⟩ := h
   have h27 : ∀ (a : Act) (w26 : World), R25 w26 → Has 84 [] a [(0, (.i s6)), (1, m2.v), (5, (.pointer d9)), (25, (.i s17))] → K24 a w26 := by
    clear h
    intro a w26 h H
    replace h := h172 w26 h
    refine hK24 _ _ <| c_reg <| s_bin H rfl rfl rfl r_add (lt_ rfl) fun a H => s_move H rfl rfl (lt_ rfl) fun a H => c_nil <| Exists.intro (wr .i64 (s17 + 1)) ⟨h.1, h.2, H.weaken ⟨rfl, rfl, rfl, rfl, trivial⟩⟩
   clear h172
   refine c_block <| c_seq fun K28 hK28 => c_reg <| s_move H rfl rfl (lt_ rfl) fun a H => s_assign H rfl rfl (lt_ rfl) fun a H => c_nil <| hK28 _ _ <| c_seq fun K29 hK29 => c_reg <| s_move H rfl rfl (lt_ rfl) fun a H => s_call H rfl body_11 (H.args (vs := [(.i s17)]) rfl) (lt_ rfl) h ?_ (fun c w' h H => e_panic (P := PP) (fn := Try.f4) H h)
   clear H h a
   rintro _ w30 a ⟨k31, rfl, h⟩ H
   refine s_assign H rfl rfl (lt_ rfl) fun a H => c_nil <| hK29 _ _ <| c_seq fun K32 hK32 => c_reg ?_
   iterate 3 refine s_move H rfl rfl (lt_ rfl) fun a H => ?_
   refine s_call H rfl body_18 (H.args (vs := [(.i s6), m2.v, (.string k31)]) rfl) (lt_ rfl) h ?_ (fun c w' h H => e_panic (P := PP) (fn := Try.f4) H h)
   clear H h a
   rintro _ w33 a ⟨e34, rfl, h⟩ H
   refine s_assign H rfl rfl (lt_ rfl) fun a H => c_nil <| hK32 _ _ <| c_seq fun K35 hK35 => c_seq fun K36 hK36 => c_reg <| s_move H rfl rfl (lt_ rfl) fun a H => s_move H rfl rfl (lt_ rfl) fun a H => s_call H rfl body_12 (H.args (vs := [(.pointer d9), (.string k31)]) rfl) (lt_ rfl) h ?_ (fun c w' h H => e_panic (P := PP) (fn := Try.f4) H h)
   clear H h a
   rintro _ w37 a ⟨E38, rfl, h⟩ H
   refine s_move H rfl rfl (lt_ rfl) fun a H => s_call H rfl body_19 (H.args (vs := [E38.v, e34.v]) rfl) (lt_ rfl) h ?_ (fun c w' h H => e_panic (P := PP) (fn := Try.f4) H h)
   clear H h a
   rintro _ w39 a ⟨s40, rfl, h⟩ H
   refine s_un H rfl rfl r_not (lt_ rfl) fun a H => c_nil <| hK36 _ _ <| c_cond H rfl (fun h41 => ?_) (fun h41 => ?_)
   ·replace h := h.1 h41
    refine c_seq fun K42 hK42 => c_reg <| s_assign H rfl rfl (lt_ rfl) fun a H => c_nil <| hK42 _ _ <| c_ret ?_
    exact e_ret1 H rfl rfl h
   ·replace h := h.2 h41
    refine c_skip <| hK35 _ _ <| c_seq fun K43 hK43 => c_reg <| s_build H rfl (by rw [H.parts (vs := []) rfl]; exact bd_29 w39) (lt_ rfl) fun a H => ?_
    replace h := h.get
    obtain ⟨b44, w45, n46, h⟩ := h
    refine s_alloc H rfl zero_29 (lt_ rfl) ?_
    rw [← n46.at_]
    clear H a
    intro a H
    refine n46.go <| s_stoN (l := [(.i 0), (.i 0)]) H rfl rfl rfl rfl agg_29 rfl rfl h ?_
    clear h H
    intro w47 h H
    refine c_nil <| hK43 _ _ <| c_seq fun K48 hK48 => c_reg <| s_build H rfl (by rw [H.parts (vs := []) rfl]; exact bd_29 w47) (lt_ rfl) fun a H => ?_
    replace h := h.get
    obtain ⟨b49, w50, n51, h⟩ := h
    refine s_alloc H rfl zero_29 (lt_ rfl) ?_
    rw [← n51.at_]
    clear H a
    intro a H
    refine n51.go <| s_stoN (l := [(.i 0), (.i 0)]) H rfl rfl rfl rfl agg_29 rfl rfl h ?_
    clear h H
    intro w52 h H
    refine c_nil <| hK48 _ _ <| c_seq fun K53 hK53 => c_reg <| s_assign H rfl rfl (lt_ rfl) fun a H => c_nil <| hK53 _ _ <| c_seq fun K54 hK54 => c_seq fun K55 hK55 => c_reg <| s_move H rfl rfl (lt_ rfl) fun a H => s_blt H rfl (H.args (vs := [e34.v]) rfl) (lt_ rfl) (fun cs => b_lenS (z := e34) sl_42) fun a H => s_move H rfl rfl (lt_ rfl) fun a H => c_nil <| hK55 _ _ <| c_block ?_
    obtain ⟨I59, m60, h154, h155⟩ := h
    refine c_loop (σ := Int × Int) (fun z w => I59 z.1 z.2 w) (fun z w => m60 z.1 z.2 w) (fun z => [(0, (.i s6)), (1, m2.v), (5, (.pointer d9)), (8, (.string k31)), (9, e34.v), (10, (.pointer (some (blk b44)))), (11, (.pointer (some (blk b49)))), (12, (.i z.1)), (25, (.i s17)), (43, (.i (e34.l : Int))), (44, (.i z.2))]) (0, 0) h154 (H.weaken ⟨rfl, rfl, rfl, rfl, rfl, rfl, rfl, rfl, rfl, rfl, rfl, trivial⟩) ?_
    clear H h154
    rintro ⟨f56, s57⟩ a w58 h H
    replace h := h155 f56 s57 w58 h
    clear h155
    replace H : Has 84 [] a [(0, (.i s6)), (1, m2.v), (5, (.pointer d9)), (8, (.string k31)), (9, e34.v), (10, (.pointer (some (blk b44)))), (11, (.pointer (some (blk b49)))), (12, (.i f56)), (25, (.i s17)), (43, (.i (e34.l : Int))), (44, (.i s57))] := H
    refine c_seq fun K61 hK61 => c_reg <| s_bin H rfl rfl rfl r_lss (lt_ rfl) fun a H => c_nil <| hK61 _ _ <| c_seq fun K62 hK62 => c_cond H rfl (fun h63 => ?_) (fun h63 => ?_)
    ·replace h := h.1 h63
     refine c_skip <| hK62 _ _ <| c_seq fun K64 hK64 => ?_
     obtain ⟨R66, h, h118⟩ := h
     have h68 : ∀ (a : Act) (f65 : Int) (w67 : World), R66 f65 w67 → Has 84 [] a [(0, (.i s6)), (1, m2.v), (5, (.pointer d9)), (8, (.string k31)), (9, e34.v), (10, (.pointer (some (blk b44)))), (11, (.pointer (some (blk b49)))), (12, (.i f65)), (25, (.i s17)), (43, (.i (e34.l : Int))), (44, (.i s57))] → K64 a w67 := by
      clear h
      intro a f65 w67 h H
      replace h := h118 f65 w67 h
      refine hK64 _ _ <| c_reg <| s_bin H rfl rfl rfl r_add (lt_ rfl) fun a H => s_move H rfl rfl (lt_ rfl) fun a H => c_nil <| Exists.intro (f65, wr .i64 (s57 + 1)) ⟨h.1, h.2, H.weaken ⟨rfl, rfl, rfl, rfl, rfl, rfl, rfl, rfl, rfl, rfl, rfl, trivial⟩⟩
     clear h118
     refine c_block <| c_seq fun K69 hK69 => c_reg <| s_move H rfl rfl (lt_ rfl) fun a H => s_assign H rfl rfl (lt_ rfl) fun a H => c_nil <| hK69 _ _ <| c_seq fun K70 hK70 => c_reg <| s_move H rfl rfl (lt_ rfl) fun a H => s_move H rfl rfl (lt_ rfl) fun a H => s_blt H rfl (H.args (vs := [e34.v]) rfl) (lt_ rfl) (fun cs => b_lenS (z := e34) sl_42) fun a H => s_bin H rfl rfl rfl r_sub (lt_ rfl) fun a H => s_move H rfl rfl (lt_ rfl) fun a H => s_bin H rfl rfl rfl r_sub (lt_ rfl) fun a H => ?_
     obtain ⟨a71, h72, h73, h74, h⟩ := h
     refine s_idxS (s := e34) H rfl rfl rfl slc_42 h72 h73 h74 (lt_ rfl) fun a H => ?_
     obtain ⟨C75, hc76, C77, hc78, F79, hc80, H81, hc82, D83, hc84, h⟩ := h
     refine s_loadN (l := [(.i C75), (.i C77), (.bool F79), (.bool H81), D83.v]) H rfl rfl agg_37 rfl ⟨hc76, hc78, hc80, hc82, hc84, trivial⟩ (lt_ rfl) fun a H => ?_
     replace h := h.get
     obtain ⟨b85, w86, n87, h⟩ := h
     refine s_alloc H rfl zero_37 (lt_ rfl) ?_
     rw [← n87.at_]
     clear H a
     intro a H
     refine n87.go <| s_stoN (l := [(.i C75), (.i C77), (.bool F79), (.bool H81), D83.v]) H rfl rfl rfl rfl agg_37 rfl rfl h ?_
     clear h H
     intro w88 h H
     refine c_nil <| hK70 _ _ <| c_seq fun K89 hK89 => c_seq fun K90 hK90 => c_reg <| s_fld H rfl rfl fld_37_1 (lt_ rfl) fun a H => ?_
     obtain ⟨l91, hc92, h⟩ := h
     refine s_load (v := (.bool l91)) H rfl rfl one_4 hc92 (lt_ rfl) fun a H => s_un H rfl rfl r_not (lt_ rfl) fun a H => c_nil <| hK90 _ _ <| c_cond H rfl (fun h93 => ?_) (fun h93 => ?_)
     ·replace h := h.1 h93
      refine c_exit ?_
      first | (simp only [Exit.then, Exit.inBlock, ↓reduceIte]; fail_if_success simp only [Nat.reduceEqDiff]) | simp only [Exit.then, Exit.inBlock, ↓reduceIte, Nat.reduceEqDiff]
      exact h68 _ _ _ h (H.weaken ⟨rfl, rfl, rfl, rfl, rfl, rfl, rfl, rfl, rfl, rfl, rfl, trivial⟩)
     ·replace h := h.2 h93
      refine c_skip <| hK89 _ _ <| c_seq fun K94 hK94 => ?_
      obtain ⟨R95, h, h117⟩ := h
      have h109 : ∀ (a : Act) (w96 : World), R95 w96 → Has 84 [] a [(0, (.i s6)), (1, m2.v), (5, (.pointer d9)), (8, (.string k31)), (9, e34.v), (10, (.pointer (some (blk b44)))), (11, (.pointer (some (blk b49)))), (12, (.i f56)), (14, (.pointer (some (blk b85)))), (25, (.i s17)), (43, (.i (e34.l : Int))), (44, (.i s57))] → K94 a w96 := by
       clear h
       intro a w96 h H
       replace h := h117 w96 h
       refine hK94 _ _ <| c_seq fun K97 hK97 => ?_
       obtain ⟨R98, h, h108⟩ := h
       have h100 : ∀ (a : Act) (w99 : World), R98 w99 → Has 84 [] a [(0, (.i s6)), (1, m2.v), (5, (.pointer d9)), (8, (.string k31)), (9, e34.v), (10, (.pointer (some (blk b44)))), (11, (.pointer (some (blk b49)))), (12, (.i f56)), (25, (.i s17)), (43, (.i (e34.l : Int))), (44, (.i s57))] → K97 a w99 := by
        clear h
        intro a w99 h H
        replace h := h108 w99 h
        refine hK97 _ _ <| c_reg <| s_move H rfl rfl (lt_ rfl) fun a H => s_bin H rfl rfl rfl r_add (lt_ rfl) fun a H => s_assign H rfl rfl (lt_ rfl) fun a H => c_nil ?_
        exact h68 _ _ _ h (H.weaken ⟨rfl, rfl, rfl, rfl, rfl, rfl, rfl, rfl, rfl, rfl, rfl, trivial⟩)
       clear h108
       refine c_seq fun K101 hK101 => c_reg <| s_move H rfl rfl (lt_ rfl) fun a H => s_move H rfl rfl (lt_ rfl) fun a H => s_bin H rfl rfl rfl r_eql (lt_ rfl) fun a H => c_nil <| hK101 _ _ <| c_cond H rfl (fun h102 => ?_) (fun h102 => ?_)
       ·replace h := h.1 h102
        refine c_reg <| s_fld H rfl rfl fld_37_0 (lt_ rfl) fun a H => ?_
        obtain ⟨C103, hc104, C105, hc106, h⟩ := h
        refine s_loadN (l := [(.i C103), (.i C105)]) H rfl rfl agg_29 rfl ⟨hc104, hc106, trivial⟩ (lt_ rfl) fun a H => s_stoN (l := [(.i C103), (.i C105)]) H rfl rfl rfl rfl agg_29 rfl rfl h ?_
        clear h H
        intro w107 h H
        refine c_nil ?_
        exact h100 _ _ h (H.weaken ⟨rfl, rfl, rfl, rfl, rfl, rfl, rfl, rfl, rfl, rfl, rfl, trivial⟩)
       ·replace h := h.2 h102
        refine c_skip ?_
        exact h100 _ _ h (H.weaken ⟨rfl, rfl, rfl, rfl, rfl, rfl, rfl, rfl, rfl, rfl, rfl, trivial⟩)
      clear h117
      refine c_seq fun K110 hK110 => c_reg <| s_move H rfl rfl (lt_ rfl) fun a H => s_bin H rfl rfl rfl r_eql (lt_ rfl) fun a H => c_nil <| hK110 _ _ <| c_cond H rfl (fun h111 => ?_) (fun h111 => ?_)
      ·replace h := h.1 h111
       refine c_reg <| s_fld H rfl rfl fld_37_0 (lt_ rfl) fun a H => ?_
       obtain ⟨C112, hc113, C114, hc115, h⟩ := h
       refine s_loadN (l := [(.i C112), (.i C114)]) H rfl rfl agg_29 rfl ⟨hc113, hc115, trivial⟩ (lt_ rfl) fun a H => s_stoN (l := [(.i C112), (.i C114)]) H rfl rfl rfl rfl agg_29 rfl rfl h ?_
       clear h H
       intro w116 h H
       refine c_nil ?_
       exact h109 _ _ h (H.weaken ⟨rfl, rfl, rfl, rfl, rfl, rfl, rfl, rfl, rfl, rfl, rfl, rfl, trivial⟩)
      ·replace h := h.2 h111
       refine c_skip ?_
       exact h109 _ _ h (H.weaken ⟨rfl, rfl, rfl, rfl, rfl, rfl, rfl, rfl, rfl, rfl, rfl, rfl, trivial⟩)
    ·replace h := h.2 h63
     refine c_exit ?_
     first | (simp only [Exit.then, Exit.inBlock, ↓reduceIte]; fail_if_success simp only [Nat.reduceEqDiff]) | simp only [Exit.then, Exit.inBlock, ↓reduceIte, Nat.reduceEqDiff]
     refine hK54 _ _ <| c_seq fun K119 hK119 => ?_
     obtain ⟨R121, h, h153⟩ := h
     have h125 : ∀ (a : Act) (s120 : Bool) (w122 : World), R121 s120 w122 → Has 84 [] a [(0, (.i s6)), (1, m2.v), (5, (.pointer d9)), (25, (.i s17)), (81, (.bool s120))] → K119 a w122 := by
      clear h
      intro a s120 w122 h H
      replace h := h153 s120 w122 h
      refine hK119 _ _ <| c_cond H rfl (fun h123 => ?_) (fun h123 => ?_)
      ·replace h := h.1 h123
       refine c_seq fun K124 hK124 => c_reg <| s_assign H rfl rfl (lt_ rfl) fun a H => c_nil <| hK124 _ _ <| c_ret ?_
       exact e_ret1 H rfl rfl h
      ·replace h := h.2 h123
       refine c_skip ?_
       exact h27 _ _ h (H.weaken ⟨rfl, rfl, rfl, rfl, trivial⟩)
     clear h153
     replace H := H.weaken (L' := [(0, (.i s6)), (1, m2.v), (5, (.pointer d9)), (8, (.string k31)), (10, (.pointer (some (blk b44)))), (11, (.pointer (some (blk b49)))), (25, (.i s17))]) ⟨rfl, rfl, rfl, rfl, rfl, rfl, rfl, trivial⟩
     obtain ⟨C126, hc127, C128, hc129, h⟩ := h
     refine c_any (V := [(0, (.pointer d9)), (1, (.string k31)), (3, (.agg #[(.i C126), (.i C128)]))]) (⟨[[], [], [0, 1], [], [2, 3], [2, 4], [5], [5], [5, 6, 7], [5], [5, 8, 9], [5, 10]], [some 70, some 71, some 72, some 73, some 74, some 75, some 76, some 77, some 78, some 79, some 80, some 81], [2, 8], [0, 0, 0, 0, 1, 1, 1, 1, 1, 1, 2, 2], [0, 0, 1, 1, 1, 1, 1, 1, 2, 2, 2, 2]⟩ : Rg) [(0, (.i s6)), (1, m2.v), (5, (.pointer d9)), (8, (.string k31)), (10, (.pointer (some (blk b44)))), (11, (.pointer (some (blk b49)))), (25, (.i s17))] mixed (by kernel_rfl) H ?_
     refine Stg.eff [0, 1, 3] (by kernel_rfl) rfl (.cons ?_ (.cons ?_ (.cons ?_ .nil))) ?_
     ·refine Ans.mk rfl rfl fun a H => s_move H rfl rfl (lt_ rfl) fun a H => ?_
      exact Ans.fin H rfl
     ·refine Ans.mk rfl rfl fun a H => s_move H rfl rfl (lt_ rfl) fun a H => ?_
      exact Ans.fin H rfl
     ·refine Ans.mk rfl rfl fun a H => s_loadN (l := [(.i C126), (.i C128)]) H rfl rfl agg_29 rfl ⟨hc127, hc129, trivial⟩ (lt_ rfl) fun a H => ?_
      exact Ans.fin H rfl
     ·intro a H
      replace H := H.weaken (L' := [(70, (.pointer d9)), (71, (.string k31))]) ⟨rfl, rfl, trivial⟩
      refine s_call H rfl body_15 (H.args (vs := [(.pointer d9), (.string k31)]) rfl) (lt_ rfl) h ?_ (fun c w' h H => e_panic (P := PP) (fn := Try.f4) H h)
      clear H h a
      rintro _ w130 a ⟨C131, C132, rfl, h⟩ H
      refine c_nil ?_
      obtain ⟨hc133, hc134, h⟩ := h
      rcases Bool.eq_false_or_eq_true (!(decide (C131 = C126) && (decide (C132 = C128)))) with h135 | h135
      ·replace h := h.1 h135
       refine effQ.go [(4, (.bool (!(decide (C131 = C126) && (decide (C132 = C128)))))), (5, (.bool (!(decide (C131 = C126) && (decide (C132 = C128)))))), (6, undef), (7, undef), (9, undef)] H rfl rfl <| Stg.eff [3, 4, 5, 6, 7, 9] (by kernel_rfl) rfl (.cons ?_ (.cons ?_ (.cons ?_ (.cons ?_ (.cons ?_ (.cons ?_ .nil)))))) ?_
       ·refine Ans.mk rfl rfl fun a H => s_loadN (l := [(.i C126), (.i C128)]) H rfl rfl agg_29 rfl ⟨hc133, hc134, trivial⟩ (lt_ rfl) fun a H => ?_
        exact Ans.fin H rfl
       ·refine Ans.mk rfl rfl fun a H => s_bin H rfl rfl rfl (r_nest eqg_29 (eqst_29 0) rfl) (lt_ rfl) fun a H => ?_
        exact Ans.fin H rfl
       ·refine Ans.mk rfl rfl fun a H => s_move H rfl rfl (lt_ rfl) fun a H => ?_
        exact Ans.fin H rfl
       ·exact .skip rfl rfl rfl rfl rfl rfl h135 rfl
       ·exact .skip rfl rfl rfl rfl rfl rfl h135 rfl
       ·exact .skip rfl rfl rfl rfl rfl rfl h135 rfl
       ·intro a H
        replace H := H.weaken (L' := [(75, (.bool (!(decide (C131 = C126) && (decide (C132 = C128)))))), (76, undef), (77, undef)]) ⟨rfl, rfl, rfl, trivial⟩
        replace H := H.ch (t := 75) (b := true) rfl h135
        refine s_skip H (wantN H rfl rfl rfl) rfl (lt_ rfl) fun a H => c_nil <| effQ.go [(10, undef), (11, (.bool true))] H rfl rfl <| Stg.fin [9, 10, 11] (by kernel_rfl) (.cons ?_ (.cons ?_ (.cons ?_ .nil))) ?_
        ·exact .skip rfl rfl rfl rfl rfl rfl h135 rfl
        ·exact .skip rfl rfl rfl rfl rfl rfl h135 rfl
        ·refine Ans.mk rfl rfl fun a H => ?_
         replace H := H.ch (t := 75) (b := true) rfl h135
         refine s_pickT H rfl rfl rfl (lt_ rfl) fun a H => ?_
         exact Ans.fin H rfl
        ·intro a H
         replace H := H.weaken (L' := [(0, (.i s6)), (1, m2.v), (5, (.pointer d9)), (25, (.i s17)), (81, (.bool true))]) ⟨rfl, rfl, rfl, rfl, rfl, trivial⟩
         exact h125 _ _ _ h (H.weaken ⟨rfl, rfl, rfl, rfl, rfl, trivial⟩)
      ·replace h := h.2 h135
       obtain ⟨C136, hc137, C138, hc139, h⟩ := h
       refine effQ.go [(4, (.bool (!(decide (C131 = C126) && (decide (C132 = C128)))))), (5, (.bool (!(decide (C131 = C126) && (decide (C132 = C128)))))), (6, (.pointer d9)), (7, (.string k31)), (9, (.agg #[(.i C136), (.i C138)]))] H rfl rfl <| Stg.eff [3, 4, 5, 6, 7, 9] (by kernel_rfl) rfl (.cons ?_ (.cons ?_ (.cons ?_ (.cons ?_ (.cons ?_ (.cons ?_ .nil)))))) ?_
       ·refine Ans.mk rfl rfl fun a H => s_loadN (l := [(.i C126), (.i C128)]) H rfl rfl agg_29 rfl ⟨hc133, hc134, trivial⟩ (lt_ rfl) fun a H => ?_
        exact Ans.fin H rfl
       ·refine Ans.mk rfl rfl fun a H => s_bin H rfl rfl rfl (r_nest eqg_29 (eqst_29 0) rfl) (lt_ rfl) fun a H => ?_
        exact Ans.fin H rfl
       ·refine Ans.mk rfl rfl fun a H => s_move H rfl rfl (lt_ rfl) fun a H => ?_
        exact Ans.fin H rfl
       ·refine Ans.mk rfl rfl fun a H => ?_
        replace H := H.ch (t := 75) (b := false) rfl h135
        refine s_move H (wantG H rfl rfl) rfl (lt_ rfl) fun a H => ?_
        exact Ans.fin H rfl
       ·refine Ans.mk rfl rfl fun a H => ?_
        replace H := H.ch (t := 75) (b := false) rfl h135
        refine s_move H (wantG H rfl rfl) rfl (lt_ rfl) fun a H => ?_
        exact Ans.fin H rfl
       ·refine Ans.mk rfl rfl fun a H => ?_
        replace H := H.ch (t := 75) (b := false) rfl h135
        refine s_loadN (l := [(.i C136), (.i C138)]) H (wantG H rfl rfl) rfl agg_29 rfl ⟨hc137, hc139, trivial⟩ (lt_ rfl) fun a H => ?_
        exact Ans.fin H rfl
       ·intro a H
        replace H := H.weaken (L' := [(75, (.bool (!(decide (C131 = C126) && (decide (C132 = C128)))))), (76, (.pointer d9)), (77, (.string k31))]) ⟨rfl, rfl, rfl, trivial⟩
        replace H := H.ch (t := 75) (b := false) rfl h135
        refine s_call H (wantG H rfl rfl) body_14 (H.args (vs := [(.pointer d9), (.string k31)]) rfl) (lt_ rfl) h ?_ (fun c w' h H => e_panic (P := PP) (fn := Try.f4) H h)
        clear H h a
        rintro _ w140 a ⟨C141, C142, rfl, h⟩ H
        refine c_nil ?_
        obtain ⟨hc143, hc144, h⟩ := h
        refine effQ.go [(10, (.bool (!(decide (C141 = C136) && (decide (C142 = C138)))))), (11, (.bool (!(decide (C141 = C136) && (decide (C142 = C138))))))] H rfl rfl <| Stg.fin [9, 10, 11] (by kernel_rfl) (.cons ?_ (.cons ?_ (.cons ?_ .nil))) ?_
        ·refine Ans.mk rfl rfl fun a H => ?_
         replace H := H.ch (t := 75) (b := false) rfl h135
         refine s_loadN (l := [(.i C136), (.i C138)]) H (wantG H rfl rfl) rfl agg_29 rfl ⟨hc143, hc144, trivial⟩ (lt_ rfl) fun a H => ?_
         exact Ans.fin H rfl
        ·refine Ans.mk rfl rfl fun a H => ?_
         replace H := H.ch (t := 75) (b := false) rfl h135
         refine s_bin H (wantG H rfl rfl) rfl rfl (r_nest eqg_29 (eqst_29 0) rfl) (lt_ rfl) fun a H => ?_
         exact Ans.fin H rfl
        ·refine Ans.mk rfl rfl fun a H => ?_
         replace H := H.ch (t := 75) (b := false) rfl h135
         refine s_pickF H rfl rfl rfl (lt_ rfl) fun a H => ?_
         exact Ans.fin H rfl
        ·intro a H
         replace H := H.weaken (L' := [(0, (.i s6)), (1, m2.v), (5, (.pointer d9)), (25, (.i s17)), (81, (.bool (!(decide (C141 = C136) && (decide (C142 = C138))))))]) ⟨rfl, rfl, rfl, rfl, rfl, trivial⟩
         exact h125 _ _ _ h (H.weaken ⟨rfl, rfl, rfl, rfl, rfl, trivial⟩)
  ·replace h := h.2 h23
   refine c_exit ?_
   first | (simp only [Exit.then, Exit.inBlock, ↓reduceIte]; fail_if_success simp only [Nat.reduceEqDiff]) | simp only [Exit.then, Exit.inBlock, ↓reduceIte, Nat.reduceEqDiff]
   refine hK15 _ _ <| c_seq fun K173 hK173 => c_reg <| s_call H rfl body_16 (H.args (vs := []) rfl) (lt_ rfl) h ?_ (fun c w' h H => e_panic (P := PP) (fn := Try.f4) H h)
   clear H h a
   rintro _ w174 a ⟨t175, rfl, h⟩ H
   refine s_assign H rfl rfl (lt_ rfl) fun a H => c_nil <| hK173 _ _ <| c_ret ?_
   exact e_ret1 H rfl rfl h

theorem sim_sherdlaw15_TableTurns (d1 : Int) (m2 s3 : Slc) (w : World) (Q : Ending → World → Prop) (h : vc_sherdlaw15_TableTurns d1 m2 s3 w Q) : Calls PP F_sherdlaw15_TableTurns #[(.i d1), m2.v, s3.v] w Q := by
 unfold vc_sherdlaw15_TableTurns at h
 refine enter (n := 101) Try.func5 rfl rfl (Nat.le_of_ble_eq_true rfl) fun a H => c_seq fun K4 hK4 => c_reg <| s_assign H rfl rfl (lt_ rfl) fun a H => c_nil <| hK4 _ _ <| c_seq fun K5 hK5 => c_reg <| s_move H rfl rfl (lt_ rfl) fun a H => s_call H rfl body_7 (H.args (vs := [(.i d1)]) rfl) (lt_ rfl) h ?_ (fun c w' h H => e_panic (P := PP) (fn := Try.f5) H h)
 clear H h a
 rintro _ w6 a ⟨s7, rfl, h⟩ H
 refine s_assign H rfl rfl (lt_ rfl) fun a H => c_nil <| hK5 _ _ <| c_seq fun K8 hK8 => c_reg <| s_move H rfl rfl (lt_ rfl) fun a H => s_move H rfl rfl (lt_ rfl) fun a H => s_call H rfl body_17 (H.args (vs := [(.i s7), m2.v]) rfl) (lt_ rfl) h ?_ (fun c w' h H => e_panic (P := PP) (fn := Try.f5) H h)
 clear H h a
 rintro _ w9 a ⟨d10, d11, rfl, h⟩ H
 refine s_move H rfl rfl (lt_ rfl) fun a H => s_ext H rfl rfl rfl (lt_ rfl) fun a H => s_ext H rfl rfl rfl (lt_ rfl) fun a H => s_assign H rfl rfl (lt_ rfl) fun a H => s_assign H rfl rfl (lt_ rfl) fun a H => c_nil <| hK8 _ _ <| c_seq fun K12 hK12 => c_seq fun K13 hK13 => c_reg <| s_move H rfl rfl (lt_ rfl) fun a H => s_un H rfl rfl r_not (lt_ rfl) fun a H => c_nil <| hK13 _ _ <| c_cond H rfl (fun h14 => ?_) (fun h14 => ?_)
 ·replace h := h.1 h14
  refine c_seq fun K15 hK15 => c_reg <| s_assign H rfl rfl (lt_ rfl) fun a H => c_nil <| hK15 _ _ <| c_ret ?_
  exact e_ret1 H rfl rfl h
 ·replace h := h.2 h14
  refine c_skip <| hK12 _ _ <| c_seq fun K16 hK16 => c_reg <| s_assign H rfl rfl (lt_ rfl) fun a H => c_nil <| hK16 _ _ <| c_seq fun K17 hK17 => c_reg <| s_move H rfl rfl (lt_ rfl) fun a H => s_move H rfl rfl (lt_ rfl) fun a H => ?_
  obtain ⟨s18, w19, h20, h⟩ := h
  refine s_blt H rfl (H.args (vs := [Slc.nil.v, m2.v]) rfl) (lt_ rfl) (fun cs => b_app (z := s18) h20) ?_
  clear H a h20
  intro a H
  refine s_assign H rfl rfl (lt_ rfl) fun a H => c_nil <| hK17 _ _ <| c_seq fun K21 hK21 => ?_
  obtain ⟨R23, h, h197⟩ := h
  have h94 : ∀ (a : Act) (o22 : Slc) (w24 : World), R23 o22 w24 → Has 101 [] a [(0, (.i s7)), (7, (.pointer d10)), (9, o22.v)] → K21 a w24 := by
   clear h
   intro a o22 w24 h H
   replace h := h197 o22 w24 h
   refine hK21 _ _ <| c_seq fun K25 hK25 => c_reg <| s_move H rfl rfl (lt_ rfl) fun a H => s_move H rfl rfl (lt_ rfl) fun a H => s_call H rfl body_17 (H.args (vs := [(.i s7), o22.v]) rfl) (lt_ rfl) h ?_ (fun c w' h H => e_panic (P := PP) (fn := Try.f5) H h)
   clear H h a
   rintro _ w26 a ⟨d27, d28, rfl, h⟩ H
   refine s_move H rfl rfl (lt_ rfl) fun a H => s_ext H rfl rfl rfl (lt_ rfl) fun a H => s_ext H rfl rfl rfl (lt_ rfl) fun a H => s_assign H rfl rfl (lt_ rfl) fun a H => s_assign H rfl rfl (lt_ rfl) fun a H => c_nil <| hK25 _ _ <| c_seq fun K29 hK29 => c_reg <| s_move H rfl rfl (lt_ rfl) fun a H => s_move H rfl rfl (lt_ rfl) fun a H => ?_
   obtain ⟨R32, h, h89⟩ := h
   refine g_joinW (n := 101) R32 (fun x33 => [(90, (.bool x33)), (7, (.pointer d10)), (15, (.pointer d27))]) (.succ (.succ (.succ (.succ (.succ (.succ (.zero _))))))) ?_ ?_
   ·intro h31
    clear h89
    rcases Bool.eq_false_or_eq_true d28 with h30 | h30
    ·replace H := H.ch (t := 84) (b := true) rfl h30
     replace h := h.1 h30
     refine s_move H (wantG H rfl rfl) rfl (lt_ rfl) fun a H => s_call H (wantG H rfl rfl) body_21 (H.args (vs := [(.pointer d10)]) rfl) (lt_ rfl) h ?_ (fun c w' h H => e_panic (P := PP) (fn := Try.f5) H h)
     clear H h a
     rintro _ w35 a ⟨A36, rfl, h⟩ H
     refine s_move H (wantG H rfl rfl) rfl (lt_ rfl) fun a H => s_call H (wantG H rfl rfl) body_21 (H.args (vs := [(.pointer d27)]) rfl) (lt_ rfl) h ?_ (fun c w' h H => e_panic (P := PP) (fn := Try.f5) H h)
     clear H h a
     rintro _ w37 a ⟨A38, rfl, h⟩ H
     refine s_call H (wantG H rfl rfl) body_20 (H.args (vs := [A36.v, A38.v]) rfl) (lt_ rfl) h ?_ (fun c w' h H => e_panic (P := PP) (fn := Try.f5) H h)
     clear H h a
     rintro _ w39 a ⟨s40, rfl, h⟩ H
     refine s_pickT H rfl rfl rfl (lt_ rfl) fun a H => ?_
     exact h31 _ _ _ h (H.weaken ⟨rfl, rfl, rfl, trivial⟩)
    ·replace H := H.ch (t := 84) (b := false) rfl h30
     replace h := h.2 h30
     iterate 5 refine s_skip H (wantN H rfl rfl rfl) rfl (lt_ rfl) fun a H => ?_
     refine s_pickF H rfl rfl rfl (lt_ rfl) fun a H => ?_
     exact h31 _ _ _ h (H.weaken ⟨rfl, rfl, rfl, trivial⟩)
   ·clear H a h
    intro a x33 w34 h H
    replace h := h89 x33 w34 h
    clear h89
    refine s_move H rfl rfl (lt_ rfl) fun a H => ?_
    obtain ⟨R55, h, h88⟩ := h
    refine g_joinW (n := 101) R55 (fun x56 => [(97, (.bool x56))]) (.succ (.succ (.succ (.succ (.succ (.succ (.zero _))))))) ?_ ?_
    ·intro h54
     clear h88
     rcases Bool.eq_false_or_eq_true x33 with h53 | h53
     ·replace H := H.ch (t := 91) (b := true) rfl h53
      replace h := h.1 h53
      refine s_move H (wantG H rfl rfl) rfl (lt_ rfl) fun a H => s_call H (wantG H rfl rfl) body_23 (H.args (vs := [(.pointer d10)]) rfl) (lt_ rfl) h ?_ (fun c w' h H => e_panic (P := PP) (fn := Try.f5) H h)
      clear H h a
      rintro _ w58 a ⟨U59, rfl, h⟩ H
      refine s_move H (wantG H rfl rfl) rfl (lt_ rfl) fun a H => s_call H (wantG H rfl rfl) body_23 (H.args (vs := [(.pointer d27)]) rfl) (lt_ rfl) h ?_ (fun c w' h H => e_panic (P := PP) (fn := Try.f5) H h)
      clear H h a
      rintro _ w60 a ⟨U61, rfl, h⟩ H
      refine s_call H (wantG H rfl rfl) body_22 (H.args (vs := [U59.v, U61.v]) rfl) (lt_ rfl) h ?_ (fun c w' h H => e_panic (P := PP) (fn := Try.f5) H h)
      clear H h a
      rintro _ w62 a ⟨s63, rfl, h⟩ H
      refine s_pickT H rfl rfl rfl (lt_ rfl) fun a H => ?_
      exact h54 _ _ _ h (H.weaken ⟨rfl, trivial⟩)
     ·replace H := H.ch (t := 91) (b := false) rfl h53
      replace h := h.2 h53
      iterate 5 refine s_skip H (wantN H rfl rfl rfl) rfl (lt_ rfl) fun a H => ?_
      refine s_pickF H rfl rfl rfl (lt_ rfl) fun a H => ?_
      exact h54 _ _ _ h (H.weaken ⟨rfl, trivial⟩)
    ·clear H a h
     intro a x56 w57 h H
     replace h := h88 x56 w57 h
     clear h88
     refine s_move H rfl rfl (lt_ rfl) fun a H => ?_
     obtain ⟨R78, h, h87⟩ := h
     refine g_joinW (n := 101) R78 (fun x79 => [(100, (.bool x79))]) (.succ (.succ (.zero _))) ?_ ?_
     ·intro h77
      clear h87
      rcases Bool.eq_false_or_eq_true x56 with h76 | h76
      ·replace H := H.ch (t := 98) (b := true) rfl h76
       replace h := h.1 h76
       refine s_call H (wantG H rfl rfl) body_16 (H.args (vs := []) rfl) (lt_ rfl) h ?_ (fun c w' h H => e_panic (P := PP) (fn := Try.f5) H h)
       clear H h a
       rintro _ w81 a ⟨t82, rfl, h⟩ H
       refine s_pickT H rfl rfl rfl (lt_ rfl) fun a H => ?_
       exact h77 _ _ _ h (H.weaken ⟨rfl, trivial⟩)
      ·replace H := H.ch (t := 98) (b := false) rfl h76
       replace h := h.2 h76
       refine s_skip H (wantN H rfl rfl rfl) rfl (lt_ rfl) fun a H => s_pickF H rfl rfl rfl (lt_ rfl) fun a H => ?_
       exact h77 _ _ _ h (H.weaken ⟨rfl, trivial⟩)
     ·clear H a h
      intro a x79 w80 h H
      replace h := h87 x79 w80 h
      clear h87
      refine s_assign H rfl rfl (lt_ rfl) fun a H => c_nil <| hK29 _ _ <| c_ret ?_
      exact e_ret1 H rfl rfl h
  clear h197
  refine c_seq fun K95 hK95 => c_reg <| s_move H rfl rfl (lt_ rfl) fun a H => s_blt H rfl (H.args (vs := [s3.v]) rfl) (lt_ rfl) (fun cs => b_lenS (z := s3) sl_52) fun a H => s_move H rfl rfl (lt_ rfl) fun a H => c_nil <| hK95 _ _ <| c_block ?_
  obtain ⟨I99, m100, h195, h196⟩ := h
  refine c_loop (σ := Slc × Int) (fun z w => I99 z.1 z.2 w) (fun z w => m100 z.1 z.2 w) (fun z => [(0, (.i s7)), (1, m2.v), (7, (.pointer d10)), (9, z.1.v), (30, s3.v), (31, (.i (s3.l : Int))), (32, (.i z.2))]) (s18, 0) h195 (H.weaken ⟨rfl, rfl, rfl, rfl, rfl, rfl, rfl, trivial⟩) ?_
  clear H h195
  rintro ⟨o96, s97⟩ a w98 h H
  replace h := h196 o96 s97 w98 h
  clear h196
  replace H : Has 101 [] a [(0, (.i s7)), (1, m2.v), (7, (.pointer d10)), (9, o96.v), (30, s3.v), (31, (.i (s3.l : Int))), (32, (.i s97))] := H
  refine c_seq fun K101 hK101 => c_reg <| s_bin H rfl rfl rfl r_lss (lt_ rfl) fun a H => c_nil <| hK101 _ _ <| c_seq fun K102 hK102 => c_cond H rfl (fun h103 => ?_) (fun h103 => ?_)
  ·replace h := h.1 h103
   refine c_skip <| hK102 _ _ <| c_seq fun K104 hK104 => c_block <| c_seq fun K105 hK105 => c_reg <| s_move H rfl rfl (lt_ rfl) fun a H => ?_
   obtain ⟨a106, h107, h108, h109, h⟩ := h
   refine s_idxS (s := s3) H rfl rfl rfl slc_52 h107 h108 h109 (lt_ rfl) fun a H => ?_
   obtain ⟨l110, hc111, h⟩ := h
   refine s_load (v := (.i l110)) H rfl rfl one_3 hc111 (lt_ rfl) fun a H => s_assign H rfl rfl (lt_ rfl) fun a H => s_assign H rfl rfl (lt_ rfl) fun a H => c_nil <| hK105 _ _ <| c_seq fun K112 hK112 => c_seq fun K113 hK113 => c_reg <| s_move H rfl rfl (lt_ rfl) fun a H => s_blt H rfl (H.args (vs := [m2.v]) rfl) (lt_ rfl) (fun cs => b_lenS (z := m2) sl_22) fun a H => s_bin H rfl rfl rfl r_eql (lt_ rfl) fun a H => c_nil <| hK113 _ _ <| c_cond H rfl (fun h114 => ?_) (fun h114 => ?_)
   ·replace h := h.1 h114
    refine c_exit ?_
    first | (simp only [Exit.then, Exit.inBlock, ↓reduceIte]; fail_if_success simp only [Nat.reduceEqDiff]) | simp only [Exit.then, Exit.inBlock, ↓reduceIte, Nat.reduceEqDiff]
    exact h94 _ _ _ h (H.weaken ⟨rfl, rfl, rfl, trivial⟩)
   ·replace h := h.2 h114
    refine c_skip <| hK112 _ _ <| c_seq fun K115 hK115 => c_reg <| s_move H rfl rfl (lt_ rfl) fun a H => s_move H rfl rfl (lt_ rfl) fun a H => s_blt H rfl (H.args (vs := [m2.v]) rfl) (lt_ rfl) (fun cs => b_lenS (z := m2) sl_22) fun a H => ?_
    obtain ⟨h116, h⟩ := h
    refine s_bin H rfl rfl rfl (r_rem h116) (lt_ rfl) fun a H => s_assign H rfl rfl (lt_ rfl) fun a H => c_nil <| hK115 _ _ <| c_seq fun K117 hK117 => c_reg <| s_move H rfl rfl (lt_ rfl) fun a H => s_move H rfl rfl (lt_ rfl) fun a H => s_blt H rfl (H.args (vs := [m2.v]) rfl) (lt_ rfl) (fun cs => b_lenS (z := m2) sl_22) fun a H => ?_
    obtain ⟨h118, h⟩ := h
    refine s_bin H rfl rfl rfl (r_rem h118) (lt_ rfl) fun a H => s_move H rfl rfl (lt_ rfl) fun a H => s_blt H rfl (H.args (vs := [m2.v]) rfl) (lt_ rfl) (fun cs => b_lenS (z := m2) sl_22) fun a H => s_bin H rfl rfl rfl r_add (lt_ rfl) fun a H => s_move H rfl rfl (lt_ rfl) fun a H => s_blt H rfl (H.args (vs := [m2.v]) rfl) (lt_ rfl) (fun cs => b_lenS (z := m2) sl_22) fun a H => ?_
    obtain ⟨h119, h⟩ := h
    refine s_bin H rfl rfl rfl (r_rem h119) (lt_ rfl) fun a H => s_assign H rfl rfl (lt_ rfl) fun a H => c_nil <| hK117 _ _ <| c_seq fun K120 hK120 => c_reg <| s_move H rfl rfl (lt_ rfl) fun a H => s_move H rfl rfl (lt_ rfl) fun a H => ?_
    obtain ⟨a121, h122, h123, h124, h⟩ := h
    refine s_idxS (s := o96) H rfl rfl rfl slc_22 h122 h123 h124 (lt_ rfl) fun a H => ?_
    obtain ⟨K125, hc126, F127, hc128, B129, hc130, C131, hc132, C133, hc134, h⟩ := h
    refine s_loadN (l := [(.i K125), (.bool F127), (.bool B129), (.i C131), (.i C133)]) H rfl rfl agg_32 rfl ⟨hc126, hc128, hc130, hc132, hc134, trivial⟩ (lt_ rfl) fun a H => ?_
    replace h := h.get
    obtain ⟨b135, w136, n137, h⟩ := h
    refine s_alloc H rfl zero_32 (lt_ rfl) ?_
    rw [← n137.at_]
    clear H a
    intro a H
    refine n137.go <| s_stoN (l := [(.i K125), (.bool F127), (.bool B129), (.i C131), (.i C133)]) H rfl rfl rfl rfl agg_32 rfl rfl h ?_
    clear h H
    intro w138 h H
    refine c_nil <| hK120 _ _ <| c_seq fun K139 hK139 => c_reg ?_
    iterate 4 refine s_move H rfl rfl (lt_ rfl) fun a H => ?_
    obtain ⟨a140, h141, h142, h143, h⟩ := h
    refine s_idxS (s := o96) H rfl rfl rfl slc_22 h141 h142 h143 (lt_ rfl) fun a H => ?_
    obtain ⟨K144, hc145, F146, hc147, B148, hc149, C150, hc151, C152, hc153, h⟩ := h
    refine s_loadN (l := [(.i K144), (.bool F146), (.bool B148), (.i C150), (.i C152)]) H rfl rfl agg_32 rfl ⟨hc145, hc147, hc149, hc151, hc153, trivial⟩ (lt_ rfl) fun a H => ?_
    obtain ⟨a154, h155, h156, h157, h⟩ := h
    refine s_idxS (s := o96) H rfl rfl rfl slc_22 h155 h156 h157 (lt_ rfl) fun a H => s_stoN (l := [(.i K144), (.bool F146), (.bool B148), (.i C150), (.i C152)]) H rfl rfl rfl rfl agg_32 rfl rfl h ?_
    clear h H
    intro w158 h H
    refine c_nil <| hK139 _ _ <| c_seq fun K159 hK159 => c_reg <| s_move H rfl rfl (lt_ rfl) fun a H => s_move H rfl rfl (lt_ rfl) fun a H => ?_
    obtain ⟨K160, hc161, F162, hc163, B164, hc165, C166, hc167, C168, hc169, h⟩ := h
    refine s_loadN (l := [(.i K160), (.bool F162), (.bool B164), (.i C166), (.i C168)]) H rfl rfl agg_32 rfl ⟨hc161, hc163, hc165, hc167, hc169, trivial⟩ (lt_ rfl) fun a H => ?_
    obtain ⟨a170, h171, h172, h173, h⟩ := h
    refine s_idxS (s := o96) H rfl rfl rfl slc_22 h171 h172 h173 (lt_ rfl) fun a H => s_stoN (l := [(.i K160), (.bool F162), (.bool B164), (.i C166), (.i C168)]) H rfl rfl rfl rfl agg_32 rfl rfl h ?_
    clear h H
    intro w174 h H
    refine c_nil <| hK159 _ _ <| c_reg ?_
    iterate 3 refine s_move H rfl rfl (lt_ rfl) fun a H => ?_
    obtain ⟨a175, h176, h177, h178, h⟩ := h
    refine s_idxS (s := m2) H rfl rfl rfl slc_22 h176 h177 h178 (lt_ rfl) fun a H => ?_
    obtain ⟨K179, hc180, F181, hc182, B183, hc184, C185, hc186, C187, hc188, h⟩ := h
    refine s_loadN (l := [(.i K179), (.bool F181), (.bool B183), (.i C185), (.i C187)]) H rfl rfl agg_32 rfl ⟨hc180, hc182, hc184, hc186, hc188, trivial⟩ (lt_ rfl) fun a H => ?_
    replace h := h.get
    obtain ⟨b189, w190, n191, h⟩ := h
    refine s_bslc H rfl (by rw [H.parts (vs := [(0, (.agg #[(.i K179), (.bool F181), (.bool B183), (.i C185), (.i C187)]))]) rfl]; exact bs_22_1_ii64bbii64ii640 w174 K179 F181 B183 C185 C187) (lt_ rfl) ?_
    rw [← n191.at_]
    clear H a
    intro a H
    refine n191.go ?_
    obtain ⟨s192, w193, h194, h⟩ := h
    refine s_blt H rfl (H.args (vs := [o96.v, (Slc.v (Slc.mk (some (blk b189)) 1 1))]) rfl) (lt_ rfl) (fun cs => b_app (z := s192) h194) ?_
    clear H a h194
    intro a H
    refine s_assign H rfl rfl (lt_ rfl) fun a H => c_nil <| hK104 _ _ <| c_reg <| s_bin H rfl rfl rfl r_add (lt_ rfl) fun a H => s_move H rfl rfl (lt_ rfl) fun a H => c_nil <| Exists.intro (s192, wr .i64 (s97 + 1)) ⟨h.1, h.2, H.weaken ⟨rfl, rfl, rfl, rfl, rfl, rfl, rfl, trivial⟩⟩
  ·replace h := h.2 h103
   refine c_exit ?_
   first | (simp only [Exit.then, Exit.inBlock, ↓reduceIte]; fail_if_success simp only [Nat.reduceEqDiff]) | simp only [Exit.then, Exit.inBlock, ↓reduceIte, Nat.reduceEqDiff]
   exact h94 _ _ _ h (H.weaken ⟨rfl, rfl, rfl, trivial⟩)
end Go.Proofs.Ytgnceldnfefnmaa
