/-
  The conditions give the machine's calls; printed by vcgen.py.
-/
import Derived.Test.YtnhgnfflihoaiaaGreatDoorRecVc
namespace Go.Proofs.YtnhgnfflihoaiaaGreatDoor
open Go Go.Vc
set_option maxRecDepth 100000
set_option maxHeartbeats 4000000
theorem sim_sherdlaw11_apart (l1 : Slc) (w : World) (Q : Ending → World → Prop) (h : vc_sherdlaw11_apart l1 w Q) : Calls PP F_sherdlaw11_apart #[l1.v] w Q := by
 unfold vc_sherdlaw11_apart at h
 refine enter (n := 111) Tryz.func14 rfl rfl (Nat.le_of_ble_eq_true rfl) fun a H => c_seq fun K2 hK2 => c_reg <| s_assign H rfl rfl (lt_ rfl) fun a H => c_nil <| hK2 _ _ <| c_seq fun K3 hK3 => c_seq fun K4 hK4 => c_reg <| s_assign H rfl rfl (lt_ rfl) fun a H => c_nil <| hK4 _ _ <| c_block ?_
 obtain ⟨I7, m8, h175, h176⟩ := h
 refine c_loop (σ := Int) (fun z w => I7 z w) (fun z w => m8 z w) (fun z => [(0, l1.v), (3, (.i z))]) 0 h175 (H.weaken ⟨rfl, rfl, trivial⟩) ?_
 clear H h175
 rintro i5 a w6 h H
 replace h := h176 i5 w6 h
 clear h176
 replace H : Has 111 [] a [(0, l1.v), (3, (.i i5))] := H
 refine c_seq fun K9 hK9 => c_seq fun K10 hK10 => c_reg <| s_move H rfl rfl (lt_ rfl) fun a H => s_move H rfl rfl (lt_ rfl) fun a H => s_blt H rfl (H.args (vs := [l1.v]) rfl) (lt_ rfl) (fun cs => b_lenS (z := l1) sl_55) fun a H => s_bin H rfl rfl rfl r_lss (lt_ rfl) fun a H => c_nil <| hK10 _ _ <| c_cond H rfl (fun h11 => ?_) (fun h11 => ?_)
 ·replace h := h.1 h11
  refine c_skip <| hK9 _ _ <| c_seq fun K12 hK12 => ?_
  obtain ⟨R13, h, h46⟩ := h
  have h15 : ∀ (a : Act) (w14 : World), R13 w14 → Has 111 [] a [(0, l1.v), (3, (.i i5))] → K12 a w14 := by
   clear h
   intro a w14 h H
   replace h := h46 w14 h
   refine hK12 _ _ <| c_reg <| s_move H rfl rfl (lt_ rfl) fun a H => s_bin H rfl rfl rfl r_add (lt_ rfl) fun a H => s_assign H rfl rfl (lt_ rfl) fun a H => c_nil <| Exists.intro (wr .i64 (i5 + 1)) ⟨h.1, h.2, H.weaken ⟨rfl, rfl, trivial⟩⟩
  clear h46
  refine c_block <| c_seq fun K16 hK16 => c_reg <| s_assign H rfl rfl (lt_ rfl) fun a H => c_nil <| hK16 _ _ <| c_block ?_
  obtain ⟨I19, m20, h44, h45⟩ := h
  refine c_loop (σ := Int) (fun z w => I19 z w) (fun z w => m20 z w) (fun z => [(0, l1.v), (3, (.i i5)), (4, (.i z))]) 0 h44 (H.weaken ⟨rfl, rfl, rfl, trivial⟩) ?_
  clear H h44
  rintro j17 a w18 h H
  replace h := h45 j17 w18 h
  clear h45
  replace H : Has 111 [] a [(0, l1.v), (3, (.i i5)), (4, (.i j17))] := H
  refine c_seq fun K21 hK21 => c_seq fun K22 hK22 => c_reg ?_
  iterate 3 refine s_move H rfl rfl (lt_ rfl) fun a H => ?_
  obtain ⟨a23, h24, h25, h26, h⟩ := h
  refine s_idxS (s := l1) H rfl rfl rfl slc_55 h24 h25 h26 (lt_ rfl) fun a H => ?_
  obtain ⟨l27, hc28, h⟩ := h
  refine s_load (v := l27.v) H rfl rfl one_22 hc28 (lt_ rfl) fun a H => s_blt H rfl (H.args (vs := [l27.v]) rfl) (lt_ rfl) (fun cs => b_lenS (z := l27) sl_22) fun a H => s_bin H rfl rfl rfl r_lss (lt_ rfl) fun a H => c_nil <| hK22 _ _ <| c_cond H rfl (fun h29 => ?_) (fun h29 => ?_)
  ·replace h := h.1 h29
   refine c_skip <| hK21 _ _ <| c_seq fun K30 hK30 => c_block <| c_reg <| s_move H rfl rfl (lt_ rfl) fun a H => s_move H rfl rfl (lt_ rfl) fun a H => ?_
   obtain ⟨a31, h32, h33, h34, h⟩ := h
   refine s_idxS (s := l1) H rfl rfl rfl slc_55 h32 h33 h34 (lt_ rfl) fun a H => ?_
   obtain ⟨l35, hc36, h⟩ := h
   refine s_load (v := l35.v) H rfl rfl one_22 hc36 (lt_ rfl) fun a H => s_move H rfl rfl (lt_ rfl) fun a H => s_move H rfl rfl (lt_ rfl) fun a H => s_bin H rfl rfl rfl r_mul (lt_ rfl) fun a H => s_bin H rfl rfl rfl r_add (lt_ rfl) fun a H => s_cv H rfl rfl (r_cvI some_3 int_5) (lt_ rfl) fun a H => ?_
   obtain ⟨a37, h38, h39, h40, h⟩ := h
   refine s_idxS (s := l35) H rfl rfl rfl slc_22 h38 h39 h40 (lt_ rfl) fun a H => ?_
   obtain ⟨h42, h43, h⟩ := h
   refine s_sto (p := a37.add (Int.toNat (j17) * 1)) (v := (.int .u8 (wr .u8 (wr .i64 ((wr .i64 (i5 * 3)) + 1))))) H rfl rfl rfl rfl one_5 rfl h42 h43 ?_
   clear H
   intro H
   generalize hww41 : World.setCell w18 (a37.add (Int.toNat (j17) * 1)) (.int .u8 (wr .u8 (wr .i64 ((wr .i64 (i5 * 3)) + 1)))) = w41 at h ⊢
   have w41S : SetAt w18 (a37.add (Int.toNat (j17) * 1)) (.int .u8 (wr .u8 (wr .i64 ((wr .i64 (i5 * 3)) + 1)))) w41 := ⟨hww41.symm⟩
   clear hww41 h42 h43
   refine c_nil <| hK30 _ _ <| c_reg <| s_move H rfl rfl (lt_ rfl) fun a H => s_bin H rfl rfl rfl r_add (lt_ rfl) fun a H => s_assign H rfl rfl (lt_ rfl) fun a H => c_nil <| Exists.intro (wr .i64 (j17 + 1)) ⟨h.1, h.2, H.weaken ⟨rfl, rfl, rfl, trivial⟩⟩
  ·replace h := h.2 h29
   refine c_exit ?_
   first | (simp only [Exit.then, Exit.inBlock, ↓reduceIte]; fail_if_success simp only [Nat.reduceEqDiff]) | simp only [Exit.then, Exit.inBlock, ↓reduceIte, Nat.reduceEqDiff]
   exact h15 _ _ h (H.weaken ⟨rfl, rfl, trivial⟩)
 ·replace h := h.2 h11
  refine c_exit ?_
  first | (simp only [Exit.then, Exit.inBlock, ↓reduceIte]; fail_if_success simp only [Nat.reduceEqDiff]) | simp only [Exit.then, Exit.inBlock, ↓reduceIte, Nat.reduceEqDiff]
  refine hK3 _ _ <| c_seq fun K47 hK47 => c_reg <| s_assign H rfl rfl (lt_ rfl) fun a H => c_nil <| hK47 _ _ <| c_seq fun K48 hK48 => c_seq fun K49 hK49 => c_reg <| s_assign H rfl rfl (lt_ rfl) fun a H => c_nil <| hK49 _ _ <| c_block ?_
  obtain ⟨I53, m54, h173, h174⟩ := h
  refine c_loop (σ := Slc × Int) (fun z w => I53 z.1 z.2 w) (fun z w => m54 z.1 z.2 w) (fun z => [(0, l1.v), (5, z.1.v), (6, (.i z.2))]) (Slc.nil, 0) h173 (H.weaken ⟨rfl, rfl, rfl, trivial⟩) ?_
  clear H h173
  rintro ⟨m50, i51⟩ a w52 h H
  replace h := h174 m50 i51 w52 h
  clear h174
  replace H : Has 111 [] a [(0, l1.v), (5, m50.v), (6, (.i i51))] := H
  refine c_seq fun K55 hK55 => c_seq fun K56 hK56 => c_reg <| s_move H rfl rfl (lt_ rfl) fun a H => s_move H rfl rfl (lt_ rfl) fun a H => s_blt H rfl (H.args (vs := [l1.v]) rfl) (lt_ rfl) (fun cs => b_lenS (z := l1) sl_55) fun a H => s_bin H rfl rfl rfl r_lss (lt_ rfl) fun a H => c_nil <| hK56 _ _ <| c_cond H rfl (fun h57 => ?_) (fun h57 => ?_)
  ·replace h := h.1 h57
   refine c_skip <| hK55 _ _ <| c_seq fun K58 hK58 => ?_
   obtain ⟨R60, h, h95⟩ := h
   have h62 : ∀ (a : Act) (m59 : Slc) (w61 : World), R60 m59 w61 → Has 111 [] a [(0, l1.v), (5, m59.v), (6, (.i i51))] → K58 a w61 := by
    clear h
    intro a m59 w61 h H
    replace h := h95 m59 w61 h
    refine hK58 _ _ <| c_reg <| s_move H rfl rfl (lt_ rfl) fun a H => s_bin H rfl rfl rfl r_add (lt_ rfl) fun a H => s_assign H rfl rfl (lt_ rfl) fun a H => c_nil <| Exists.intro (m59, wr .i64 (i51 + 1)) ⟨h.1, h.2, H.weaken ⟨rfl, rfl, rfl, trivial⟩⟩
   clear h95
   refine c_block <| c_seq fun K63 hK63 => c_reg <| s_move H rfl rfl (lt_ rfl) fun a H => s_move H rfl rfl (lt_ rfl) fun a H => ?_
   obtain ⟨a64, h65, h66, h67, h⟩ := h
   refine s_idxS (s := l1) H rfl rfl rfl slc_55 h65 h66 h67 (lt_ rfl) fun a H => ?_
   obtain ⟨l68, hc69, h⟩ := h
   refine s_load (v := l68.v) H rfl rfl one_22 hc69 (lt_ rfl) fun a H => s_assign H rfl rfl (lt_ rfl) fun a H => c_nil <| hK63 _ _ <| c_seq fun K70 hK70 => c_seq fun K71 hK71 => c_reg <| s_assign H rfl rfl (lt_ rfl) fun a H => c_nil <| hK71 _ _ <| c_block ?_
   obtain ⟨I75, m76, h93, h94⟩ := h
   refine c_loop (σ := Slc × Int) (fun z w => I75 z.1 z.2 w) (fun z w => m76 z.1 z.2 w) (fun z => [(0, l1.v), (5, m50.v), (6, (.i i51)), (7, z.1.v), (8, (.i z.2))]) (l68, 0) h93 (H.weaken ⟨rfl, rfl, rfl, rfl, rfl, trivial⟩) ?_
   clear H h93
   rintro ⟨x72, k73⟩ a w74 h H
   replace h := h94 x72 k73 w74 h
   clear h94
   replace H : Has 111 [] a [(0, l1.v), (5, m50.v), (6, (.i i51)), (7, x72.v), (8, (.i k73))] := H
   refine c_seq fun K77 hK77 => c_seq fun K78 hK78 => c_reg <| s_move H rfl rfl (lt_ rfl) fun a H => s_bin H rfl rfl rfl r_lss (lt_ rfl) fun a H => c_nil <| hK78 _ _ <| c_cond H rfl (fun h79 => ?_) (fun h79 => ?_)
   ·replace h := h.1 h79
    refine c_skip <| hK77 _ _ <| c_seq fun K80 hK80 => c_block <| c_reg <| s_move H rfl rfl (lt_ rfl) fun a H => s_move H rfl rfl (lt_ rfl) fun a H => s_bin H rfl rfl rfl r_mul (lt_ rfl) fun a H => s_bin H rfl rfl rfl r_add (lt_ rfl) fun a H => s_cv H rfl rfl (r_cvI some_3 int_5) (lt_ rfl) fun a H => ?_
    replace h := h.get
    obtain ⟨b81, w82, n83, h⟩ := h
    refine s_bslc H rfl (by rw [H.parts (vs := [(0, (.int .u8 (wr .u8 (wr .i64 ((wr .i64 (i51 * 3)) + 1)))))]) rfl]; exact bs_22_1_iu80 w74 (wr .u8 (wr .i64 ((wr .i64 (i51 * 3)) + 1)))) (lt_ rfl) ?_
    rw [← n83.at_]
    clear H a
    intro a H
    refine n83.go ?_
    obtain ⟨s84, w85, h86, h⟩ := h
    refine s_blt H rfl (H.args (vs := [x72.v, (Slc.v (Slc.mk (some (blk b81)) 1 1))]) rfl) (lt_ rfl) (fun cs => b_app (z := s84) h86) ?_
    clear H a h86
    intro a H
    refine s_assign H rfl rfl (lt_ rfl) fun a H => c_nil <| hK80 _ _ <| c_reg <| s_move H rfl rfl (lt_ rfl) fun a H => s_bin H rfl rfl rfl r_add (lt_ rfl) fun a H => s_assign H rfl rfl (lt_ rfl) fun a H => c_nil <| Exists.intro (s84, wr .i64 (k73 + 1)) ⟨h.1, h.2, H.weaken ⟨rfl, rfl, rfl, rfl, rfl, trivial⟩⟩
   ·replace h := h.2 h79
    refine c_exit ?_
    first | (simp only [Exit.then, Exit.inBlock, ↓reduceIte]; fail_if_success simp only [Nat.reduceEqDiff]) | simp only [Exit.then, Exit.inBlock, ↓reduceIte, Nat.reduceEqDiff]
    refine hK70 _ _ <| c_reg <| s_move H rfl rfl (lt_ rfl) fun a H => s_move H rfl rfl (lt_ rfl) fun a H => ?_
    replace h := h.get
    obtain ⟨b87, w88, n89, h⟩ := h
    refine s_bslc H rfl (by rw [H.parts (vs := [(0, x72.v)]) rfl]; exact bs_55_1_s0 w74 x72) (lt_ rfl) ?_
    rw [← n89.at_]
    clear H a
    intro a H
    refine n89.go ?_
    obtain ⟨s90, w91, h92, h⟩ := h
    refine s_blt H rfl (H.args (vs := [m50.v, (Slc.v (Slc.mk (some (blk b87)) 1 1))]) rfl) (lt_ rfl) (fun cs => b_app (z := s90) h92) ?_
    clear H a h92
    intro a H
    refine s_assign H rfl rfl (lt_ rfl) fun a H => c_nil ?_
    exact h62 _ _ _ h (H.weaken ⟨rfl, rfl, rfl, trivial⟩)
  ·replace h := h.2 h57
   refine c_exit ?_
   first | (simp only [Exit.then, Exit.inBlock, ↓reduceIte]; fail_if_success simp only [Nat.reduceEqDiff]) | simp only [Exit.then, Exit.inBlock, ↓reduceIte, Nat.reduceEqDiff]
   refine hK48 _ _ <| c_seq fun K96 hK96 => c_seq fun K97 hK97 => c_reg <| s_assign H rfl rfl (lt_ rfl) fun a H => c_nil <| hK97 _ _ <| c_block ?_
   obtain ⟨I100, m101, h171, h172⟩ := h
   refine c_loop (σ := Int) (fun z w => I100 z w) (fun z w => m101 z w) (fun z => [(0, l1.v), (5, m50.v), (9, (.i z))]) 0 h171 (H.weaken ⟨rfl, rfl, rfl, trivial⟩) ?_
   clear H h171
   rintro i98 a w99 h H
   replace h := h172 i98 w99 h
   clear h172
   replace H : Has 111 [] a [(0, l1.v), (5, m50.v), (9, (.i i98))] := H
   refine c_seq fun K102 hK102 => c_seq fun K103 hK103 => c_reg <| s_move H rfl rfl (lt_ rfl) fun a H => s_move H rfl rfl (lt_ rfl) fun a H => s_blt H rfl (H.args (vs := [l1.v]) rfl) (lt_ rfl) (fun cs => b_lenS (z := l1) sl_55) fun a H => s_bin H rfl rfl rfl r_lss (lt_ rfl) fun a H => c_nil <| hK103 _ _ <| c_cond H rfl (fun h104 => ?_) (fun h104 => ?_)
   ·replace h := h.1 h104
    refine c_skip <| hK102 _ _ <| c_seq fun K105 hK105 => ?_
    obtain ⟨R106, h, h169⟩ := h
    have h108 : ∀ (a : Act) (w107 : World), R106 w107 → Has 111 [] a [(0, l1.v), (5, m50.v), (9, (.i i98))] → K105 a w107 := by
     clear h
     intro a w107 h H
     replace h := h169 w107 h
     refine hK105 _ _ <| c_reg <| s_move H rfl rfl (lt_ rfl) fun a H => s_bin H rfl rfl rfl r_add (lt_ rfl) fun a H => s_assign H rfl rfl (lt_ rfl) fun a H => c_nil <| Exists.intro (wr .i64 (i98 + 1)) ⟨h.1, h.2, H.weaken ⟨rfl, rfl, rfl, trivial⟩⟩
    clear h169
    refine c_block <| c_seq fun K109 hK109 => c_reg <| s_assign H rfl rfl (lt_ rfl) fun a H => c_nil <| hK109 _ _ <| c_block ?_
    obtain ⟨I112, m113, h167, h168⟩ := h
    refine c_loop (σ := Int) (fun z w => I112 z w) (fun z w => m113 z w) (fun z => [(0, l1.v), (5, m50.v), (9, (.i i98)), (10, (.i z))]) 0 h167 (H.weaken ⟨rfl, rfl, rfl, rfl, trivial⟩) ?_
    clear H h167
    rintro j110 a w111 h H
    replace h := h168 j110 w111 h
    clear h168
    replace H : Has 111 [] a [(0, l1.v), (5, m50.v), (9, (.i i98)), (10, (.i j110))] := H
    refine c_seq fun K114 hK114 => c_seq fun K115 hK115 => c_reg ?_
    iterate 3 refine s_move H rfl rfl (lt_ rfl) fun a H => ?_
    obtain ⟨a116, h117, h118, h119, h⟩ := h
    refine s_idxS (s := m50) H rfl rfl rfl slc_55 h117 h118 h119 (lt_ rfl) fun a H => ?_
    obtain ⟨l120, hc121, h⟩ := h
    refine s_load (v := l120.v) H rfl rfl one_22 hc121 (lt_ rfl) fun a H => s_blt H rfl (H.args (vs := [l120.v]) rfl) (lt_ rfl) (fun cs => b_lenS (z := l120) sl_22) fun a H => s_bin H rfl rfl rfl r_lss (lt_ rfl) fun a H => c_nil <| hK115 _ _ <| c_cond H rfl (fun h122 => ?_) (fun h122 => ?_)
    ·replace h := h.1 h122
     refine c_skip <| hK114 _ _ <| c_seq fun K123 hK123 => c_block <| c_seq fun K124 hK124 => c_reg <| s_move H rfl rfl (lt_ rfl) fun a H => s_move H rfl rfl (lt_ rfl) fun a H => ?_
     obtain ⟨a125, h126, h127, h128, h⟩ := h
     refine s_idxS (s := m50) H rfl rfl rfl slc_55 h126 h127 h128 (lt_ rfl) fun a H => ?_
     obtain ⟨l129, hc130, h⟩ := h
     refine s_load (v := l129.v) H rfl rfl one_22 hc130 (lt_ rfl) fun a H => s_move H rfl rfl (lt_ rfl) fun a H => ?_
     obtain ⟨a131, h132, h133, h134, h⟩ := h
     refine s_idxS (s := l129) H rfl rfl rfl slc_22 h132 h133 h134 (lt_ rfl) fun a H => ?_
     obtain ⟨l135, hc136, h⟩ := h
     refine s_load (v := (.int .u8 l135)) H rfl rfl one_5 hc136 (lt_ rfl) fun a H => s_move H rfl rfl (lt_ rfl) fun a H => s_bin H rfl rfl rfl r_mul (lt_ rfl) fun a H => s_bin H rfl rfl rfl r_add (lt_ rfl) fun a H => s_cv H rfl rfl (r_cvI some_3 int_5) (lt_ rfl) fun a H => s_bin H rfl rfl rfl r_neq (lt_ rfl) fun a H => s_move H rfl rfl (lt_ rfl) fun a H => ?_
     obtain ⟨x162, h163, h164, h⟩ := h
     refine g_join (n := 111) [(110, (.bool x162)), (0, l1.v), (5, m50.v), (9, (.i i98)), (10, (.i j110))] (.succ (.succ (.succ (.succ (.succ (.succ (.succ (.succ (.succ (.succ (.succ (.succ (.succ (.succ (.succ (.succ (.succ (.succ (.succ (.succ (.succ (.succ (.zero _))))))))))))))))))))))) ?_ ?_
     ·intro h138
      try clear h
      rcases Bool.eq_false_or_eq_true (decide (l135 ≠ (wr .u8 (wr .i64 ((wr .i64 (i98 * 3)) + 1))))) with h137 | h137
      ·replace H := H.ch (t := 88) (b := true) rfl h137
       iterate 8 refine s_skip H (wantN H rfl rfl rfl) rfl (lt_ rfl) fun a H => ?_
       iterate 12 refine s_skip H (wantU H rfl rfl) rfl (lt_ rfl) fun a H => ?_
       refine s_skip H (wantN H rfl rfl rfl) rfl (lt_ rfl) fun a H => s_pickT H rfl rfl rfl (lt_ rfl) fun a H => ?_
       replace h := h164 h137
       subst h
       exact h138 _ (H.weaken ⟨rfl, rfl, rfl, rfl, rfl, trivial⟩)
      ·replace H := H.ch (t := 88) (b := false) rfl h137
       replace h := h163 h137
       iterate 3 refine s_move H (wantG H rfl rfl) rfl (lt_ rfl) fun a H => ?_
       obtain ⟨a139, h140, h141, h142, h⟩ := h
       refine s_idxS (s := l1) H (wantG H rfl rfl) rfl rfl slc_55 h140 h141 h142 (lt_ rfl) fun a H => ?_
       obtain ⟨l143, hc144, h⟩ := h
       refine s_load (v := l143.v) H (wantG H rfl rfl) rfl one_22 hc144 (lt_ rfl) fun a H => s_blt H (wantG H rfl rfl) (H.args (vs := [l143.v]) rfl) (lt_ rfl) (fun cs => b_lenS (z := l143) sl_22) fun a H => s_bin H (wantG H rfl rfl) rfl rfl r_lss (lt_ rfl) fun a H => s_move H (wantG H rfl rfl) rfl (lt_ rfl) fun a H => ?_
       obtain ⟨x159, h160, h161, h⟩ := h
       refine g_join (n := 111) [(109, (.bool x159)), (0, l1.v), (5, m50.v), (9, (.i i98)), (10, (.i j110)), (88, (.bool false))] (.succ (.succ (.succ (.succ (.succ (.succ (.succ (.succ (.succ (.succ (.succ (.succ (.succ (.zero _)))))))))))))) ?_ ?_
       ·intro h146
        try clear h
        rcases Bool.eq_false_or_eq_true (decide (j110 < (l143.l : Int))) with h145 | h145
        ·replace H := H.ch (t := 96) (b := true) rfl h145
         replace h := h160 h145
         refine s_move H (wantG H rfl rfl) rfl (lt_ rfl) fun a H => s_move H (wantG H rfl rfl) rfl (lt_ rfl) fun a H => ?_
         obtain ⟨a147, h148, h149, h150, h⟩ := h
         refine s_idxS (s := l1) H (wantG H rfl rfl) rfl rfl slc_55 h148 h149 h150 (lt_ rfl) fun a H => ?_
         obtain ⟨l151, hc152, h⟩ := h
         refine s_load (v := l151.v) H (wantG H rfl rfl) rfl one_22 hc152 (lt_ rfl) fun a H => s_move H (wantG H rfl rfl) rfl (lt_ rfl) fun a H => ?_
         obtain ⟨a153, h154, h155, h156, h⟩ := h
         refine s_idxS (s := l151) H (wantG H rfl rfl) rfl rfl slc_22 h154 h155 h156 (lt_ rfl) fun a H => ?_
         obtain ⟨l157, hc158, h⟩ := h
         refine s_load (v := (.int .u8 l157)) H (wantG H rfl rfl) rfl one_5 hc158 (lt_ rfl) fun a H => s_move H (wantG H rfl rfl) rfl (lt_ rfl) fun a H => s_bin H (wantG H rfl rfl) rfl rfl r_mul (lt_ rfl) fun a H => s_bin H (wantG H rfl rfl) rfl rfl r_add (lt_ rfl) fun a H => s_cv H (wantG H rfl rfl) rfl (r_cvI some_3 int_5) (lt_ rfl) fun a H => s_bin H (wantG H rfl rfl) rfl rfl r_neq (lt_ rfl) fun a H => s_pickT H (wantG H rfl rfl) rfl rfl (lt_ rfl) fun a H => ?_
         subst h
         exact h146 _ (H.weaken ⟨rfl, rfl, rfl, rfl, rfl, rfl, trivial⟩)
        ·replace H := H.ch (t := 96) (b := false) rfl h145
         iterate 12 refine s_skip H (wantN H rfl rfl rfl) rfl (lt_ rfl) fun a H => ?_
         refine s_pickF H (wantG H rfl rfl) rfl rfl (lt_ rfl) fun a H => ?_
         replace h := h161 h145
         subst h
         exact h146 _ (H.weaken ⟨rfl, rfl, rfl, rfl, rfl, rfl, trivial⟩)
       ·clear H a
        clear h160 h161
        intro a H
        refine s_pickF H rfl rfl rfl (lt_ rfl) fun a H => ?_
        subst h
        exact h138 _ (H.weaken ⟨rfl, rfl, rfl, rfl, rfl, trivial⟩)
     ·clear H a
      clear h163 h164
      intro a H
      refine c_nil <| hK124 _ _ <| c_cond H rfl (fun h165 => ?_) (fun h165 => ?_)
      ·replace h := h.1 h165
       refine c_seq fun K166 hK166 => c_reg <| s_assign H rfl rfl (lt_ rfl) fun a H => c_nil <| hK166 _ _ <| c_ret ?_
       exact e_ret1 H rfl rfl h
      ·replace h := h.2 h165
       refine c_skip <| hK123 _ _ <| c_reg <| s_move H rfl rfl (lt_ rfl) fun a H => s_bin H rfl rfl rfl r_add (lt_ rfl) fun a H => s_assign H rfl rfl (lt_ rfl) fun a H => c_nil <| Exists.intro (wr .i64 (j110 + 1)) ⟨h.1, h.2, H.weaken ⟨rfl, rfl, rfl, rfl, trivial⟩⟩
    ·replace h := h.2 h122
     refine c_exit ?_
     first | (simp only [Exit.then, Exit.inBlock, ↓reduceIte]; fail_if_success simp only [Nat.reduceEqDiff]) | simp only [Exit.then, Exit.inBlock, ↓reduceIte, Nat.reduceEqDiff]
     exact h108 _ _ h (H.weaken ⟨rfl, rfl, rfl, trivial⟩)
   ·replace h := h.2 h104
    refine c_exit ?_
    first | (simp only [Exit.then, Exit.inBlock, ↓reduceIte]; fail_if_success simp only [Nat.reduceEqDiff]) | simp only [Exit.then, Exit.inBlock, ↓reduceIte, Nat.reduceEqDiff]
    refine hK96 _ _ <| c_seq fun K170 hK170 => c_reg <| s_assign H rfl rfl (lt_ rfl) fun a H => c_nil <| hK170 _ _ <| c_ret ?_
    exact e_ret1 H rfl rfl h

theorem sim_sherdlaw11_bytes (x1 : Slc) (w : World) (Q : Ending → World → Prop) (h : vc_sherdlaw11_bytes x1 w Q) : Calls PP F_sherdlaw11_bytes #[x1.v] w Q := by
 unfold vc_sherdlaw11_bytes at h
 refine enter (n := 36) Tryz.func15 rfl rfl (Nat.le_of_ble_eq_true rfl) fun a H => c_seq fun K2 hK2 => c_reg <| s_assign H rfl rfl (lt_ rfl) fun a H => c_nil <| hK2 _ _ <| c_seq fun K3 hK3 => c_reg <| s_assign H rfl rfl (lt_ rfl) fun a H => c_nil <| hK3 _ _ <| c_seq fun K4 hK4 => c_seq fun K5 hK5 => c_reg <| s_assign H rfl rfl (lt_ rfl) fun a H => c_nil <| hK5 _ _ <| c_block ?_
 obtain ⟨I9, m10, h57, h58⟩ := h
 refine c_loop (σ := Slc × Int) (fun z w => I9 z.1 z.2 w) (fun z w => m10 z.1 z.2 w) (fun z => [(0, x1.v), (3, z.1.v), (4, (.i z.2))]) (Slc.nil, 0) h57 (H.weaken ⟨rfl, rfl, rfl, trivial⟩) ?_
 clear H h57
 rintro ⟨a6, k7⟩ a w8 h H
 replace h := h58 a6 k7 w8 h
 clear h58
 replace H : Has 36 [] a [(0, x1.v), (3, a6.v), (4, (.i k7))] := H
 refine c_seq fun K11 hK11 => c_seq fun K12 hK12 => c_reg <| s_move H rfl rfl (lt_ rfl) fun a H => s_move H rfl rfl (lt_ rfl) fun a H => s_blt H rfl (H.args (vs := [x1.v]) rfl) (lt_ rfl) (fun cs => b_lenS (z := x1) sl_51) fun a H => s_bin H rfl rfl rfl r_lss (lt_ rfl) fun a H => c_nil <| hK12 _ _ <| c_cond H rfl (fun h13 => ?_) (fun h13 => ?_)
 ·replace h := h.1 h13
  refine c_skip <| hK11 _ _ <| c_seq fun K14 hK14 => ?_
  obtain ⟨R16, h, h55⟩ := h
  have h18 : ∀ (a : Act) (a15 : Slc) (w17 : World), R16 a15 w17 → Has 36 [] a [(0, x1.v), (3, a15.v), (4, (.i k7))] → K14 a w17 := by
   clear h
   intro a a15 w17 h H
   replace h := h55 a15 w17 h
   refine hK14 _ _ <| c_reg <| s_move H rfl rfl (lt_ rfl) fun a H => s_bin H rfl rfl rfl r_add (lt_ rfl) fun a H => s_assign H rfl rfl (lt_ rfl) fun a H => c_nil <| Exists.intro (a15, wr .i64 (k7 + 1)) ⟨h.1, h.2, H.weaken ⟨rfl, rfl, rfl, trivial⟩⟩
  clear h55
  refine c_block <| c_seq fun K19 hK19 => c_reg <| s_assign H rfl rfl (lt_ rfl) fun a H => c_nil <| hK19 _ _ <| c_block ?_
  obtain ⟨I23, m24, h53, h54⟩ := h
  refine c_loop (σ := Slc × Int) (fun z w => I23 z.1 z.2 w) (fun z w => m24 z.1 z.2 w) (fun z => [(0, x1.v), (3, z.1.v), (4, (.i k7)), (5, (.i z.2))]) (a6, 0) h53 (H.weaken ⟨rfl, rfl, rfl, rfl, trivial⟩) ?_
  clear H h53
  rintro ⟨a20, i21⟩ a w22 h H
  replace h := h54 a20 i21 w22 h
  clear h54
  replace H : Has 36 [] a [(0, x1.v), (3, a20.v), (4, (.i k7)), (5, (.i i21))] := H
  refine c_seq fun K25 hK25 => c_seq fun K26 hK26 => c_reg ?_
  iterate 3 refine s_move H rfl rfl (lt_ rfl) fun a H => ?_
  obtain ⟨a27, h28, h29, h30, h⟩ := h
  refine s_idxS (s := x1) H rfl rfl rfl slc_51 h28 h29 h30 (lt_ rfl) fun a H => s_fld H rfl rfl fld_49_1 (lt_ rfl) fun a H => ?_
  obtain ⟨l31, hc32, h⟩ := h
  refine s_load (v := l31.v) H rfl rfl one_43 hc32 (lt_ rfl) fun a H => s_blt H rfl (H.args (vs := [l31.v]) rfl) (lt_ rfl) (fun cs => b_lenS (z := l31) sl_43) fun a H => s_bin H rfl rfl rfl r_lss (lt_ rfl) fun a H => c_nil <| hK26 _ _ <| c_cond H rfl (fun h33 => ?_) (fun h33 => ?_)
  ·replace h := h.1 h33
   refine c_skip <| hK25 _ _ <| c_seq fun K34 hK34 => c_block <| c_reg ?_
   iterate 3 refine s_move H rfl rfl (lt_ rfl) fun a H => ?_
   obtain ⟨a35, h36, h37, h38, h⟩ := h
   refine s_idxS (s := x1) H rfl rfl rfl slc_51 h36 h37 h38 (lt_ rfl) fun a H => s_fld H rfl rfl fld_49_1 (lt_ rfl) fun a H => ?_
   obtain ⟨l39, hc40, h⟩ := h
   refine s_load (v := l39.v) H rfl rfl one_43 hc40 (lt_ rfl) fun a H => s_move H rfl rfl (lt_ rfl) fun a H => ?_
   obtain ⟨a41, h42, h43, h44, h⟩ := h
   refine s_idxS (s := l39) H rfl rfl rfl slc_43 h42 h43 h44 (lt_ rfl) fun a H => s_fld H rfl rfl fld_28_2 (lt_ rfl) fun a H => s_fld H rfl rfl fld_26_3 (lt_ rfl) fun a H => ?_
   obtain ⟨l45, hc46, h⟩ := h
   refine s_load (v := l45.v) H rfl rfl one_22 hc46 (lt_ rfl) fun a H => ?_
   replace h := h.get
   obtain ⟨b47, w48, n49, h⟩ := h
   refine s_bslc H rfl (by rw [H.parts (vs := [(0, l45.v)]) rfl]; exact bs_55_1_s0 w22 l45) (lt_ rfl) ?_
   rw [← n49.at_]
   clear H a
   intro a H
   refine n49.go ?_
   obtain ⟨s50, w51, h52, h⟩ := h
   refine s_blt H rfl (H.args (vs := [a20.v, (Slc.v (Slc.mk (some (blk b47)) 1 1))]) rfl) (lt_ rfl) (fun cs => b_app (z := s50) h52) ?_
   clear H a h52
   intro a H
   refine s_assign H rfl rfl (lt_ rfl) fun a H => c_nil <| hK34 _ _ <| c_reg <| s_move H rfl rfl (lt_ rfl) fun a H => s_bin H rfl rfl rfl r_add (lt_ rfl) fun a H => s_assign H rfl rfl (lt_ rfl) fun a H => c_nil <| Exists.intro (s50, wr .i64 (i21 + 1)) ⟨h.1, h.2, H.weaken ⟨rfl, rfl, rfl, rfl, trivial⟩⟩
  ·replace h := h.2 h33
   refine c_exit ?_
   first | (simp only [Exit.then, Exit.inBlock, ↓reduceIte]; fail_if_success simp only [Nat.reduceEqDiff]) | simp only [Exit.then, Exit.inBlock, ↓reduceIte, Nat.reduceEqDiff]
   exact h18 _ _ _ h (H.weaken ⟨rfl, rfl, rfl, trivial⟩)
 ·replace h := h.2 h13
  refine c_exit ?_
  first | (simp only [Exit.then, Exit.inBlock, ↓reduceIte]; fail_if_success simp only [Nat.reduceEqDiff]) | simp only [Exit.then, Exit.inBlock, ↓reduceIte, Nat.reduceEqDiff]
  refine hK4 _ _ <| c_seq fun K56 hK56 => c_reg <| s_move H rfl rfl (lt_ rfl) fun a H => s_assign H rfl rfl (lt_ rfl) fun a H => c_nil <| hK56 _ _ <| c_ret ?_
  exact e_ret1 H rfl rfl h

theorem sim_sherdlaw11_marked (x1 : Slc) (w : World) (Q : Ending → World → Prop) (h : vc_sherdlaw11_marked x1 w Q) : Calls PP F_sherdlaw11_marked #[x1.v] w Q := by
 unfold vc_sherdlaw11_marked at h
 refine enter (n := 129) Tryz.func16 rfl rfl (Nat.le_of_ble_eq_true rfl) fun a H => c_seq fun K2 hK2 => c_reg <| s_assign H rfl rfl (lt_ rfl) fun a H => c_nil <| hK2 _ _ <| c_seq fun K3 hK3 => c_seq fun K4 hK4 => c_reg <| s_assign H rfl rfl (lt_ rfl) fun a H => c_nil <| hK4 _ _ <| c_block ?_
 obtain ⟨I7, m8, h197, h198⟩ := h
 refine c_loop (σ := Int) (fun z w => I7 z w) (fun z w => m8 z w) (fun z => [(0, x1.v), (3, (.i z))]) 0 h197 (H.weaken ⟨rfl, rfl, trivial⟩) ?_
 clear H h197
 rintro k5 a w6 h H
 replace h := h198 k5 w6 h
 clear h198
 replace H : Has 129 [] a [(0, x1.v), (3, (.i k5))] := H
 refine c_seq fun K9 hK9 => c_seq fun K10 hK10 => c_reg <| s_move H rfl rfl (lt_ rfl) fun a H => s_move H rfl rfl (lt_ rfl) fun a H => s_blt H rfl (H.args (vs := [x1.v]) rfl) (lt_ rfl) (fun cs => b_lenS (z := x1) sl_51) fun a H => s_bin H rfl rfl rfl r_lss (lt_ rfl) fun a H => c_nil <| hK10 _ _ <| c_cond H rfl (fun h11 => ?_) (fun h11 => ?_)
 ·replace h := h.1 h11
  refine c_skip <| hK9 _ _ <| c_seq fun K12 hK12 => ?_
  obtain ⟨R13, h, h77⟩ := h
  have h15 : ∀ (a : Act) (w14 : World), R13 w14 → Has 129 [] a [(0, x1.v), (3, (.i k5))] → K12 a w14 := by
   clear h
   intro a w14 h H
   replace h := h77 w14 h
   refine hK12 _ _ <| c_reg <| s_move H rfl rfl (lt_ rfl) fun a H => s_bin H rfl rfl rfl r_add (lt_ rfl) fun a H => s_assign H rfl rfl (lt_ rfl) fun a H => c_nil <| Exists.intro (wr .i64 (k5 + 1)) ⟨h.1, h.2, H.weaken ⟨rfl, rfl, trivial⟩⟩
  clear h77
  refine c_block <| c_seq fun K16 hK16 => c_seq fun K17 hK17 => c_reg <| s_assign H rfl rfl (lt_ rfl) fun a H => c_nil <| hK17 _ _ <| c_block ?_
  obtain ⟨I20, m21, h75, h76⟩ := h
  refine c_loop (σ := Int) (fun z w => I20 z w) (fun z w => m21 z w) (fun z => [(0, x1.v), (3, (.i k5)), (4, (.i z))]) 0 h75 (H.weaken ⟨rfl, rfl, rfl, trivial⟩) ?_
  clear H h75
  rintro i18 a w19 h H
  replace h := h76 i18 w19 h
  clear h76
  replace H : Has 129 [] a [(0, x1.v), (3, (.i k5)), (4, (.i i18))] := H
  refine c_seq fun K22 hK22 => c_seq fun K23 hK23 => c_reg ?_
  iterate 3 refine s_move H rfl rfl (lt_ rfl) fun a H => ?_
  obtain ⟨a24, h25, h26, h27, h⟩ := h
  refine s_idxS (s := x1) H rfl rfl rfl slc_51 h25 h26 h27 (lt_ rfl) fun a H => s_fld H rfl rfl fld_49_2 (lt_ rfl) fun a H => ?_
  obtain ⟨l28, hc29, h⟩ := h
  refine s_load (v := l28.v) H rfl rfl one_44 hc29 (lt_ rfl) fun a H => s_blt H rfl (H.args (vs := [l28.v]) rfl) (lt_ rfl) (fun cs => b_lenS (z := l28) sl_44) fun a H => s_bin H rfl rfl rfl r_lss (lt_ rfl) fun a H => c_nil <| hK23 _ _ <| c_cond H rfl (fun h30 => ?_) (fun h30 => ?_)
  ·replace h := h.1 h30
   refine c_skip <| hK22 _ _ <| c_seq fun K31 hK31 => c_block <| c_reg <| s_move H rfl rfl (lt_ rfl) fun a H => s_move H rfl rfl (lt_ rfl) fun a H => ?_
   obtain ⟨a32, h33, h34, h35, h⟩ := h
   refine s_idxS (s := x1) H rfl rfl rfl slc_51 h33 h34 h35 (lt_ rfl) fun a H => s_fld H rfl rfl fld_49_2 (lt_ rfl) fun a H => ?_
   obtain ⟨l36, hc37, h⟩ := h
   refine s_load (v := l36.v) H rfl rfl one_44 hc37 (lt_ rfl) fun a H => s_move H rfl rfl (lt_ rfl) fun a H => s_move H rfl rfl (lt_ rfl) fun a H => s_bin H rfl rfl rfl r_sub (lt_ rfl) fun a H => ?_
   obtain ⟨a38, h39, h40, h41, h⟩ := h
   refine s_idxS (s := l36) H rfl rfl rfl slc_44 h39 h40 h41 (lt_ rfl) fun a H => ?_
   obtain ⟨h43, h44, h⟩ := h
   refine s_sto (p := a38.add (Int.toNat (i18) * 1)) (v := (.i (wr .i64 ((-100) - k5)))) H rfl rfl rfl rfl one_3 rfl h43 h44 ?_
   clear H
   intro H
   generalize hww42 : World.setCell w19 (a38.add (Int.toNat (i18) * 1)) (.i (wr .i64 ((-100) - k5))) = w42 at h ⊢
   have w42S : SetAt w19 (a38.add (Int.toNat (i18) * 1)) (.i (wr .i64 ((-100) - k5))) w42 := ⟨hww42.symm⟩
   clear hww42 h43 h44
   refine c_nil <| hK31 _ _ <| c_reg <| s_move H rfl rfl (lt_ rfl) fun a H => s_bin H rfl rfl rfl r_add (lt_ rfl) fun a H => s_assign H rfl rfl (lt_ rfl) fun a H => c_nil <| Exists.intro (wr .i64 (i18 + 1)) ⟨h.1, h.2, H.weaken ⟨rfl, rfl, rfl, trivial⟩⟩
  ·replace h := h.2 h30
   refine c_exit ?_
   first | (simp only [Exit.then, Exit.inBlock, ↓reduceIte]; fail_if_success simp only [Nat.reduceEqDiff]) | simp only [Exit.then, Exit.inBlock, ↓reduceIte, Nat.reduceEqDiff]
   refine hK16 _ _ <| c_seq fun K45 hK45 => c_reg <| s_assign H rfl rfl (lt_ rfl) fun a H => c_nil <| hK45 _ _ <| c_block ?_
   obtain ⟨I48, m49, h73, h74⟩ := h
   refine c_loop (σ := Int) (fun z w => I48 z w) (fun z w => m49 z w) (fun z => [(0, x1.v), (3, (.i k5)), (5, (.i z))]) 0 h73 (H.weaken ⟨rfl, rfl, rfl, trivial⟩) ?_
   clear H h73
   rintro i46 a w47 h H
   replace h := h74 i46 w47 h
   clear h74
   replace H : Has 129 [] a [(0, x1.v), (3, (.i k5)), (5, (.i i46))] := H
   refine c_seq fun K50 hK50 => c_seq fun K51 hK51 => c_reg ?_
   iterate 3 refine s_move H rfl rfl (lt_ rfl) fun a H => ?_
   obtain ⟨a52, h53, h54, h55, h⟩ := h
   refine s_idxS (s := x1) H rfl rfl rfl slc_51 h53 h54 h55 (lt_ rfl) fun a H => s_fld H rfl rfl fld_49_1 (lt_ rfl) fun a H => ?_
   obtain ⟨l56, hc57, h⟩ := h
   refine s_load (v := l56.v) H rfl rfl one_43 hc57 (lt_ rfl) fun a H => s_blt H rfl (H.args (vs := [l56.v]) rfl) (lt_ rfl) (fun cs => b_lenS (z := l56) sl_43) fun a H => s_bin H rfl rfl rfl r_lss (lt_ rfl) fun a H => c_nil <| hK51 _ _ <| c_cond H rfl (fun h58 => ?_) (fun h58 => ?_)
   ·replace h := h.1 h58
    refine c_skip <| hK50 _ _ <| c_seq fun K59 hK59 => c_block <| c_reg <| s_move H rfl rfl (lt_ rfl) fun a H => s_move H rfl rfl (lt_ rfl) fun a H => ?_
    obtain ⟨a60, h61, h62, h63, h⟩ := h
    refine s_idxS (s := x1) H rfl rfl rfl slc_51 h61 h62 h63 (lt_ rfl) fun a H => s_fld H rfl rfl fld_49_1 (lt_ rfl) fun a H => ?_
    obtain ⟨l64, hc65, h⟩ := h
    refine s_load (v := l64.v) H rfl rfl one_43 hc65 (lt_ rfl) fun a H => s_move H rfl rfl (lt_ rfl) fun a H => s_move H rfl rfl (lt_ rfl) fun a H => s_bin H rfl rfl rfl r_sub (lt_ rfl) fun a H => ?_
    obtain ⟨a66, h67, h68, h69, h⟩ := h
    refine s_idxS (s := l64) H rfl rfl rfl slc_43 h67 h68 h69 (lt_ rfl) fun a H => s_fld H rfl rfl fld_28_0 (lt_ rfl) fun a H => ?_
    obtain ⟨h71, h72, h⟩ := h
    refine s_sto (p := (a66.add (Int.toNat (i46) * 7)).add 0) (v := (.i (wr .i64 ((-100) - k5)))) H rfl rfl rfl rfl one_3 rfl h71 h72 ?_
    clear H
    intro H
    generalize hww70 : World.setCell w47 ((a66.add (Int.toNat (i46) * 7)).add 0) (.i (wr .i64 ((-100) - k5))) = w70 at h ⊢
    have w70S : SetAt w47 ((a66.add (Int.toNat (i46) * 7)).add 0) (.i (wr .i64 ((-100) - k5))) w70 := ⟨hww70.symm⟩
    clear hww70 h71 h72
    refine c_nil <| hK59 _ _ <| c_reg <| s_move H rfl rfl (lt_ rfl) fun a H => s_bin H rfl rfl rfl r_add (lt_ rfl) fun a H => s_assign H rfl rfl (lt_ rfl) fun a H => c_nil <| Exists.intro (wr .i64 (i46 + 1)) ⟨h.1, h.2, H.weaken ⟨rfl, rfl, rfl, trivial⟩⟩
   ·replace h := h.2 h58
    refine c_exit ?_
    first | (simp only [Exit.then, Exit.inBlock, ↓reduceIte]; fail_if_success simp only [Nat.reduceEqDiff]) | simp only [Exit.then, Exit.inBlock, ↓reduceIte, Nat.reduceEqDiff]
    exact h15 _ _ h (H.weaken ⟨rfl, rfl, trivial⟩)
 ·replace h := h.2 h11
  refine c_exit ?_
  first | (simp only [Exit.then, Exit.inBlock, ↓reduceIte]; fail_if_success simp only [Nat.reduceEqDiff]) | simp only [Exit.then, Exit.inBlock, ↓reduceIte, Nat.reduceEqDiff]
  refine hK3 _ _ <| c_seq fun K78 hK78 => c_seq fun K79 hK79 => c_reg <| s_assign H rfl rfl (lt_ rfl) fun a H => c_nil <| hK79 _ _ <| c_block ?_
  obtain ⟨I82, m83, h195, h196⟩ := h
  refine c_loop (σ := Int) (fun z w => I82 z w) (fun z w => m83 z w) (fun z => [(0, x1.v), (6, (.i z))]) 0 h195 (H.weaken ⟨rfl, rfl, trivial⟩) ?_
  clear H h195
  rintro k80 a w81 h H
  replace h := h196 k80 w81 h
  clear h196
  replace H : Has 129 [] a [(0, x1.v), (6, (.i k80))] := H
  refine c_seq fun K84 hK84 => c_seq fun K85 hK85 => c_reg <| s_move H rfl rfl (lt_ rfl) fun a H => s_move H rfl rfl (lt_ rfl) fun a H => s_blt H rfl (H.args (vs := [x1.v]) rfl) (lt_ rfl) (fun cs => b_lenS (z := x1) sl_51) fun a H => s_bin H rfl rfl rfl r_lss (lt_ rfl) fun a H => c_nil <| hK85 _ _ <| c_cond H rfl (fun h86 => ?_) (fun h86 => ?_)
  ·replace h := h.1 h86
   refine c_skip <| hK84 _ _ <| c_seq fun K87 hK87 => c_block <| c_seq fun K88 hK88 => c_reg <| s_move H rfl rfl (lt_ rfl) fun a H => s_move H rfl rfl (lt_ rfl) fun a H => ?_
   obtain ⟨a89, h90, h91, h92, h⟩ := h
   refine s_idxS (s := x1) H rfl rfl rfl slc_51 h90 h91 h92 (lt_ rfl) fun a H => s_fld H rfl rfl fld_49_2 (lt_ rfl) fun a H => ?_
   obtain ⟨l93, hc94, h⟩ := h
   refine s_load (v := l93.v) H rfl rfl one_44 hc94 (lt_ rfl) fun a H => s_move H rfl rfl (lt_ rfl) fun a H => s_bin H rfl rfl rfl r_sub (lt_ rfl) fun a H => ?_
   replace h := h.get
   obtain ⟨b95, w96, n97, h⟩ := h
   refine s_bslc H rfl (by rw [H.parts (vs := [(0, (.i (wr .i64 ((-100) - k80))))]) rfl]; exact bs_44_1_ii640 w81 (wr .i64 ((-100) - k80))) (lt_ rfl) ?_
   rw [← n97.at_]
   clear H a
   intro a H
   refine n97.go ?_
   obtain ⟨s98, w99, h100, h⟩ := h
   refine s_blt H rfl (H.args (vs := [l93.v, (Slc.v (Slc.mk (some (blk b95)) 1 1))]) rfl) (lt_ rfl) (fun cs => b_app (z := s98) h100) ?_
   clear H a h100
   intro a H
   refine c_nil <| hK88 _ _ <| c_reg <| s_move H rfl rfl (lt_ rfl) fun a H => s_move H rfl rfl (lt_ rfl) fun a H => ?_
   obtain ⟨a101, h102, h103, h104, h⟩ := h
   refine s_idxS (s := x1) H rfl rfl rfl slc_51 h102 h103 h104 (lt_ rfl) fun a H => s_fld H rfl rfl fld_49_1 (lt_ rfl) fun a H => ?_
   obtain ⟨l105, hc106, h⟩ := h
   refine s_load (v := l105.v) H rfl rfl one_43 hc106 (lt_ rfl) fun a H => s_move H rfl rfl (lt_ rfl) fun a H => s_bin H rfl rfl rfl r_sub (lt_ rfl) fun a H => s_build H rfl (by rw [H.parts (vs := [(0, (.i (wr .i64 ((-100) - k80))))]) rfl]; exact bd_28_ii640 w99 (wr .i64 ((-100) - k80))) (lt_ rfl) fun a H => ?_
   replace h := h.get
   obtain ⟨b107, w108, n109, h⟩ := h
   refine s_bslc H rfl (by rw [H.parts (vs := [(0, (.agg #[(.i (wr .i64 ((-100) - k80))), (.string ⟨#[]⟩), (.i 0), (.i 0), (.bool false), (.bool false), Slc.nil.v]))]) rfl]; exact bs_43_1_ii64sii64ii64bbs0 w99 (wr .i64 ((-100) - k80)) ⟨#[]⟩ 0 0 false false Slc.nil) (lt_ rfl) ?_
   rw [← n109.at_]
   clear H a
   intro a H
   refine n109.go ?_
   obtain ⟨s110, w111, h112, h⟩ := h
   refine s_blt H rfl (H.args (vs := [l105.v, (Slc.v (Slc.mk (some (blk b107)) 1 1))]) rfl) (lt_ rfl) (fun cs => b_app (z := s110) h112) ?_
   clear H a h112
   intro a H
   refine c_nil <| hK87 _ _ <| c_reg <| s_move H rfl rfl (lt_ rfl) fun a H => s_bin H rfl rfl rfl r_add (lt_ rfl) fun a H => s_assign H rfl rfl (lt_ rfl) fun a H => c_nil <| Exists.intro (wr .i64 (k80 + 1)) ⟨h.1, h.2, H.weaken ⟨rfl, rfl, trivial⟩⟩
  ·replace h := h.2 h86
   refine c_exit ?_
   first | (simp only [Exit.then, Exit.inBlock, ↓reduceIte]; fail_if_success simp only [Nat.reduceEqDiff]) | simp only [Exit.then, Exit.inBlock, ↓reduceIte, Nat.reduceEqDiff]
   refine hK78 _ _ <| c_seq fun K113 hK113 => c_seq fun K114 hK114 => c_reg <| s_assign H rfl rfl (lt_ rfl) fun a H => c_nil <| hK114 _ _ <| c_block ?_
   obtain ⟨I117, m118, h193, h194⟩ := h
   refine c_loop (σ := Int) (fun z w => I117 z w) (fun z w => m118 z w) (fun z => [(0, x1.v), (7, (.i z))]) 0 h193 (H.weaken ⟨rfl, rfl, trivial⟩) ?_
   clear H h193
   rintro k115 a w116 h H
   replace h := h194 k115 w116 h
   clear h194
   replace H : Has 129 [] a [(0, x1.v), (7, (.i k115))] := H
   refine c_seq fun K119 hK119 => c_seq fun K120 hK120 => c_reg <| s_move H rfl rfl (lt_ rfl) fun a H => s_move H rfl rfl (lt_ rfl) fun a H => s_blt H rfl (H.args (vs := [x1.v]) rfl) (lt_ rfl) (fun cs => b_lenS (z := x1) sl_51) fun a H => s_bin H rfl rfl rfl r_lss (lt_ rfl) fun a H => c_nil <| hK120 _ _ <| c_cond H rfl (fun h121 => ?_) (fun h121 => ?_)
   ·replace h := h.1 h121
    refine c_skip <| hK119 _ _ <| c_seq fun K122 hK122 => ?_
    obtain ⟨R123, h, h191⟩ := h
    have h125 : ∀ (a : Act) (w124 : World), R123 w124 → Has 129 [] a [(0, x1.v), (7, (.i k115))] → K122 a w124 := by
     clear h
     intro a w124 h H
     replace h := h191 w124 h
     refine hK122 _ _ <| c_reg <| s_move H rfl rfl (lt_ rfl) fun a H => s_bin H rfl rfl rfl r_add (lt_ rfl) fun a H => s_assign H rfl rfl (lt_ rfl) fun a H => c_nil <| Exists.intro (wr .i64 (k115 + 1)) ⟨h.1, h.2, H.weaken ⟨rfl, rfl, trivial⟩⟩
    clear h191
    refine c_block <| c_seq fun K126 hK126 => c_seq fun K127 hK127 => c_reg <| s_assign H rfl rfl (lt_ rfl) fun a H => c_nil <| hK127 _ _ <| c_block ?_
    obtain ⟨I130, m131, h189, h190⟩ := h
    refine c_loop (σ := Int) (fun z w => I130 z w) (fun z w => m131 z w) (fun z => [(0, x1.v), (7, (.i k115)), (8, (.i z))]) 0 h189 (H.weaken ⟨rfl, rfl, rfl, trivial⟩) ?_
    clear H h189
    rintro i128 a w129 h H
    replace h := h190 i128 w129 h
    clear h190
    replace H : Has 129 [] a [(0, x1.v), (7, (.i k115)), (8, (.i i128))] := H
    refine c_seq fun K132 hK132 => c_seq fun K133 hK133 => c_reg ?_
    iterate 3 refine s_move H rfl rfl (lt_ rfl) fun a H => ?_
    obtain ⟨a134, h135, h136, h137, h⟩ := h
    refine s_idxS (s := x1) H rfl rfl rfl slc_51 h135 h136 h137 (lt_ rfl) fun a H => s_fld H rfl rfl fld_49_2 (lt_ rfl) fun a H => ?_
    obtain ⟨l138, hc139, h⟩ := h
    refine s_load (v := l138.v) H rfl rfl one_44 hc139 (lt_ rfl) fun a H => s_blt H rfl (H.args (vs := [l138.v]) rfl) (lt_ rfl) (fun cs => b_lenS (z := l138) sl_44) fun a H => s_bin H rfl rfl rfl r_lss (lt_ rfl) fun a H => c_nil <| hK133 _ _ <| c_cond H rfl (fun h140 => ?_) (fun h140 => ?_)
    ·replace h := h.1 h140
     refine c_skip <| hK132 _ _ <| c_seq fun K141 hK141 => c_block <| c_seq fun K142 hK142 => c_reg <| s_move H rfl rfl (lt_ rfl) fun a H => s_move H rfl rfl (lt_ rfl) fun a H => ?_
     obtain ⟨a143, h144, h145, h146, h⟩ := h
     refine s_idxS (s := x1) H rfl rfl rfl slc_51 h144 h145 h146 (lt_ rfl) fun a H => s_fld H rfl rfl fld_49_2 (lt_ rfl) fun a H => ?_
     obtain ⟨l147, hc148, h⟩ := h
     refine s_load (v := l147.v) H rfl rfl one_44 hc148 (lt_ rfl) fun a H => s_move H rfl rfl (lt_ rfl) fun a H => ?_
     obtain ⟨a149, h150, h151, h152, h⟩ := h
     refine s_idxS (s := l147) H rfl rfl rfl slc_44 h150 h151 h152 (lt_ rfl) fun a H => ?_
     obtain ⟨l153, hc154, h⟩ := h
     refine s_load (v := (.i l153)) H rfl rfl one_3 hc154 (lt_ rfl) fun a H => s_move H rfl rfl (lt_ rfl) fun a H => s_bin H rfl rfl rfl r_sub (lt_ rfl) fun a H => s_bin H rfl rfl rfl r_neq (lt_ rfl) fun a H => c_nil <| hK142 _ _ <| c_cond H rfl (fun h155 => ?_) (fun h155 => ?_)
     ·replace h := h.1 h155
      refine c_seq fun K156 hK156 => c_reg <| s_assign H rfl rfl (lt_ rfl) fun a H => c_nil <| hK156 _ _ <| c_ret ?_
      exact e_ret1 H rfl rfl h
     ·replace h := h.2 h155
      refine c_skip <| hK141 _ _ <| c_reg <| s_move H rfl rfl (lt_ rfl) fun a H => s_bin H rfl rfl rfl r_add (lt_ rfl) fun a H => s_assign H rfl rfl (lt_ rfl) fun a H => c_nil <| Exists.intro (wr .i64 (i128 + 1)) ⟨h.1, h.2, H.weaken ⟨rfl, rfl, rfl, trivial⟩⟩
    ·replace h := h.2 h140
     refine c_exit ?_
     first | (simp only [Exit.then, Exit.inBlock, ↓reduceIte]; fail_if_success simp only [Nat.reduceEqDiff]) | simp only [Exit.then, Exit.inBlock, ↓reduceIte, Nat.reduceEqDiff]
     refine hK126 _ _ <| c_seq fun K157 hK157 => c_reg <| s_assign H rfl rfl (lt_ rfl) fun a H => c_nil <| hK157 _ _ <| c_block ?_
     obtain ⟨I160, m161, h187, h188⟩ := h
     refine c_loop (σ := Int) (fun z w => I160 z w) (fun z w => m161 z w) (fun z => [(0, x1.v), (7, (.i k115)), (9, (.i z))]) 0 h187 (H.weaken ⟨rfl, rfl, rfl, trivial⟩) ?_
     clear H h187
     rintro i158 a w159 h H
     replace h := h188 i158 w159 h
     clear h188
     replace H : Has 129 [] a [(0, x1.v), (7, (.i k115)), (9, (.i i158))] := H
     refine c_seq fun K162 hK162 => c_seq fun K163 hK163 => c_reg ?_
     iterate 3 refine s_move H rfl rfl (lt_ rfl) fun a H => ?_
     obtain ⟨a164, h165, h166, h167, h⟩ := h
     refine s_idxS (s := x1) H rfl rfl rfl slc_51 h165 h166 h167 (lt_ rfl) fun a H => s_fld H rfl rfl fld_49_1 (lt_ rfl) fun a H => ?_
     obtain ⟨l168, hc169, h⟩ := h
     refine s_load (v := l168.v) H rfl rfl one_43 hc169 (lt_ rfl) fun a H => s_blt H rfl (H.args (vs := [l168.v]) rfl) (lt_ rfl) (fun cs => b_lenS (z := l168) sl_43) fun a H => s_bin H rfl rfl rfl r_lss (lt_ rfl) fun a H => c_nil <| hK163 _ _ <| c_cond H rfl (fun h170 => ?_) (fun h170 => ?_)
     ·replace h := h.1 h170
      refine c_skip <| hK162 _ _ <| c_seq fun K171 hK171 => c_block <| c_seq fun K172 hK172 => c_reg <| s_move H rfl rfl (lt_ rfl) fun a H => s_move H rfl rfl (lt_ rfl) fun a H => ?_
      obtain ⟨a173, h174, h175, h176, h⟩ := h
      refine s_idxS (s := x1) H rfl rfl rfl slc_51 h174 h175 h176 (lt_ rfl) fun a H => s_fld H rfl rfl fld_49_1 (lt_ rfl) fun a H => ?_
      obtain ⟨l177, hc178, h⟩ := h
      refine s_load (v := l177.v) H rfl rfl one_43 hc178 (lt_ rfl) fun a H => s_move H rfl rfl (lt_ rfl) fun a H => ?_
      obtain ⟨a179, h180, h181, h182, h⟩ := h
      refine s_idxS (s := l177) H rfl rfl rfl slc_43 h180 h181 h182 (lt_ rfl) fun a H => s_fld H rfl rfl fld_28_0 (lt_ rfl) fun a H => ?_
      obtain ⟨l183, hc184, h⟩ := h
      refine s_load (v := (.i l183)) H rfl rfl one_3 hc184 (lt_ rfl) fun a H => s_move H rfl rfl (lt_ rfl) fun a H => s_bin H rfl rfl rfl r_sub (lt_ rfl) fun a H => s_bin H rfl rfl rfl r_neq (lt_ rfl) fun a H => c_nil <| hK172 _ _ <| c_cond H rfl (fun h185 => ?_) (fun h185 => ?_)
      ·replace h := h.1 h185
       refine c_seq fun K186 hK186 => c_reg <| s_assign H rfl rfl (lt_ rfl) fun a H => c_nil <| hK186 _ _ <| c_ret ?_
       exact e_ret1 H rfl rfl h
      ·replace h := h.2 h185
       refine c_skip <| hK171 _ _ <| c_reg <| s_move H rfl rfl (lt_ rfl) fun a H => s_bin H rfl rfl rfl r_add (lt_ rfl) fun a H => s_assign H rfl rfl (lt_ rfl) fun a H => c_nil <| Exists.intro (wr .i64 (i158 + 1)) ⟨h.1, h.2, H.weaken ⟨rfl, rfl, rfl, trivial⟩⟩
     ·replace h := h.2 h170
      refine c_exit ?_
      first | (simp only [Exit.then, Exit.inBlock, ↓reduceIte]; fail_if_success simp only [Nat.reduceEqDiff]) | simp only [Exit.then, Exit.inBlock, ↓reduceIte, Nat.reduceEqDiff]
      exact h125 _ _ h (H.weaken ⟨rfl, rfl, trivial⟩)
   ·replace h := h.2 h121
    refine c_exit ?_
    first | (simp only [Exit.then, Exit.inBlock, ↓reduceIte]; fail_if_success simp only [Nat.reduceEqDiff]) | simp only [Exit.then, Exit.inBlock, ↓reduceIte, Nat.reduceEqDiff]
    refine hK113 _ _ <| c_seq fun K192 hK192 => c_reg <| s_assign H rfl rfl (lt_ rfl) fun a H => c_nil <| hK192 _ _ <| c_ret ?_
    exact e_ret1 H rfl rfl h

theorem sim_sherdlaw11_putting (w1 v2 : Option Addr) (K3 : Int) (K4 : ByteArray) (C5 C6 : Int) (F7 H8 : Bool) (D9 : Slc) (w : World) (Q : Ending → World → Prop) (h : vc_sherdlaw11_putting w1 v2 K3 K4 C5 C6 F7 H8 D9 w Q) : Calls PP F_sherdlaw11_putting #[(.pointer w1), (.pointer v2), (.agg #[(.i K3), (.string K4), (.i C5), (.i C6), (.bool F7), (.bool H8), D9.v])] w Q := by
 unfold vc_sherdlaw11_putting at h
 refine enter (n := 63) Tryz.func17 rfl rfl (Nat.le_of_ble_eq_true rfl) fun a H => c_seq fun K10 hK10 => c_reg ?_
 replace h := h.get
 obtain ⟨b11, w12, n13, h⟩ := h
 refine s_box H rfl rfl (lt_ rfl) ?_
 rw [← n13.at_]
 clear H a
 intro a H
 refine n13.go <| s_assign H rfl rfl (lt_ rfl) fun a H => s_assign H rfl rfl (lt_ rfl) fun a H => c_nil <| hK10 _ _ <| c_seq fun K14 hK14 => c_reg <| s_fld H rfl rfl fld_28_2 (lt_ rfl) fun a H => s_fld H rfl rfl fld_26_3 (lt_ rfl) fun a H => s_load (v := D9.v) H rfl rfl one_22 (n13.cell (i := 6) rfl) (lt_ rfl) fun a H => s_call H rfl body_9 (H.args (vs := [D9.v]) rfl) (lt_ rfl) h ?_ (fun c w' h H => e_panic (P := PP) (fn := Tryz.f17) H h)
 clear H h a
 rintro _ w15 a ⟨l16, rfl, h⟩ H
 refine s_assign H rfl rfl (lt_ rfl) fun a H => c_nil <| hK14 _ _ <| c_seq fun K17 hK17 => c_reg ?_
 obtain ⟨K18, hc19, K20, hc21, C22, hc23, C24, hc25, F26, hc27, H28, hc29, D30, hc31, h⟩ := h
 refine s_loadN (l := [(.i K18), (.string K20), (.i C22), (.i C24), (.bool F26), (.bool H28), D30.v]) H rfl rfl agg_28 rfl ⟨hc19, hc21, hc23, hc25, hc27, hc29, hc31, trivial⟩ (lt_ rfl) fun a H => ?_
 replace h := h.get
 obtain ⟨b32, w33, n34, h⟩ := h
 refine s_alloc H rfl zero_28 (lt_ rfl) ?_
 rw [← n34.at_]
 clear H a
 intro a H
 refine n34.go <| s_stoN (l := [(.i K18), (.string K20), (.i C22), (.i C24), (.bool F26), (.bool H28), D30.v]) H rfl rfl rfl rfl agg_28 rfl rfl h ?_
 clear h H
 intro w35 h H
 refine c_nil <| hK17 _ _ <| c_seq fun K36 hK36 => c_reg <| s_move H rfl rfl (lt_ rfl) fun a H => s_fld H rfl rfl fld_28_2 (lt_ rfl) fun a H => s_fld H rfl rfl fld_26_3 (lt_ rfl) fun a H => ?_
 obtain ⟨l37, hc38, h⟩ := h
 refine s_load (v := l37.v) H rfl rfl one_22 hc38 (lt_ rfl) fun a H => s_blt H rfl (H.args (vs := [l37.v]) rfl) (lt_ rfl) (fun cs => b_lenS (z := l37) sl_22) fun a H => ?_
 obtain ⟨h39, h40, h41, h⟩ := h
 refine s_slice (v := (Slc.v (l16.cut 1 (Int.toNat (0)) (Int.toNat ((l37.l : Int)))))) H rfl rfl ⟨rfl, rfl⟩ ⟨rfl, rfl⟩ ⟨rfl, rfl⟩ (r_sliceSlc (lo := none) (hi := (some (.i64, (l37.l : Int)))) slc_22 rfl rfl h39 h40 h41) (lt_ rfl) fun a H => s_fld H rfl rfl fld_28_2 (lt_ rfl) fun a H => s_fld H rfl rfl fld_26_3 (lt_ rfl) fun a H => ?_
 obtain ⟨h43, h44, h⟩ := h
 refine s_sto (p := ((blk b32).add 2).add 4) (v := (Slc.v (l16.cut 1 (Int.toNat (0)) (Int.toNat ((l37.l : Int)))))) H rfl rfl rfl rfl one_22 rfl h43 h44 ?_
 clear H
 intro H
 generalize hww42 : World.setCell w35 (((blk b32).add 2).add 4) (Slc.v (l16.cut 1 (Int.toNat (0)) (Int.toNat ((l37.l : Int))))) = w42 at h ⊢
 have w42S : SetAt w35 (((blk b32).add 2).add 4) (Slc.v (l16.cut 1 (Int.toNat (0)) (Int.toNat ((l37.l : Int))))) w42 := ⟨hww42.symm⟩
 clear hww42 h43 h44
 refine c_nil <| hK36 _ _ <| c_seq fun K45 hK45 => c_reg <| s_move H rfl rfl (lt_ rfl) fun a H => ?_
 obtain ⟨K46, hc47, K48, hc49, C50, hc51, C52, hc53, F54, hc55, H56, hc57, D58, hc59, h⟩ := h
 refine s_loadN (l := [(.i K46), (.string K48), (.i C50), (.i C52), (.bool F54), (.bool H56), D58.v]) H rfl rfl agg_28 rfl ⟨hc47, hc49, hc51, hc53, hc55, hc57, hc59, trivial⟩ (lt_ rfl) fun a H => s_call H rfl body_33 (H.args (vs := [(.pointer v2), (.agg #[(.i K46), (.string K48), (.i C50), (.i C52), (.bool F54), (.bool H56), D58.v])]) rfl) (lt_ rfl) h ?_ (fun c w' h H => e_panic (P := PP) (fn := Tryz.f17) H h)
 clear H h a
 rintro _ w60 a ⟨P61, P62, rfl, h⟩ H
 refine s_move H rfl rfl (lt_ rfl) fun a H => s_ext H rfl rfl rfl (lt_ rfl) fun a H => s_ext H rfl rfl rfl (lt_ rfl) fun a H => s_assign H rfl rfl (lt_ rfl) fun a H => s_assign H rfl rfl (lt_ rfl) fun a H => c_nil <| hK45 _ _ <| c_seq fun K63 hK63 => c_reg <| s_move H rfl rfl (lt_ rfl) fun a H => ?_
 obtain ⟨K64, hc65, K66, hc67, C68, hc69, C70, hc71, F72, hc73, H74, hc75, D76, hc77, h⟩ := h
 refine s_loadN (l := [(.i K64), (.string K66), (.i C68), (.i C70), (.bool F72), (.bool H74), D76.v]) H rfl rfl agg_28 rfl ⟨hc65, hc67, hc69, hc71, hc73, hc75, hc77, trivial⟩ (lt_ rfl) fun a H => s_call H rfl body_34 (H.args (vs := [(.pointer w1), (.agg #[(.i K64), (.string K66), (.i C68), (.i C70), (.bool F72), (.bool H74), D76.v])]) rfl) (lt_ rfl) h ?_ (fun c w' h H => e_panic (P := PP) (fn := Tryz.f17) H h)
 clear H h a
 rintro _ w78 a ⟨P79, P80, rfl, h⟩ H
 refine s_move H rfl rfl (lt_ rfl) fun a H => s_ext H rfl rfl rfl (lt_ rfl) fun a H => s_ext H rfl rfl rfl (lt_ rfl) fun a H => s_assign H rfl rfl (lt_ rfl) fun a H => s_assign H rfl rfl (lt_ rfl) fun a H => c_nil <| hK63 _ _ <| c_seq fun K81 hK81 => c_reg ?_
 iterate 3 refine s_move H rfl rfl (lt_ rfl) fun a H => ?_
 refine s_bin H rfl rfl rfl r_eql (lt_ rfl) fun a H => s_move H rfl rfl (lt_ rfl) fun a H => ?_
 obtain ⟨R84, h, h131⟩ := h
 refine g_joinW (n := 63) R84 (fun x85 => [(47, (.bool x85)), (0, (.pointer w1)), (1, (.pointer v2)), (5, (.pointer (some (blk b11)))), (8, l16.v), (39, P79.v)]) (.succ (.succ (.succ (.succ (.zero _))))) ?_ ?_
 ·intro h83
  clear h131
  rcases Bool.eq_false_or_eq_true (decide (P80 = P62)) with h82 | h82
  ·replace H := H.ch (t := 43) (b := true) rfl h82
   replace h := h.1 h82
   refine s_move H (wantG H rfl rfl) rfl (lt_ rfl) fun a H => s_move H (wantG H rfl rfl) rfl (lt_ rfl) fun a H => s_call H (wantG H rfl rfl) body_13 (H.args (vs := [P79.v, P61.v]) rfl) (lt_ rfl) h ?_ (fun c w' h H => e_panic (P := PP) (fn := Tryz.f17) H h)
   clear H h a
   rintro _ w87 a ⟨s88, rfl, h⟩ H
   refine s_pickT H rfl rfl rfl (lt_ rfl) fun a H => ?_
   exact h83 _ _ _ h (H.weaken ⟨rfl, rfl, rfl, rfl, rfl, rfl, trivial⟩)
  ·replace H := H.ch (t := 43) (b := false) rfl h82
   replace h := h.2 h82
   iterate 3 refine s_skip H (wantN H rfl rfl rfl) rfl (lt_ rfl) fun a H => ?_
   refine s_pickF H rfl rfl rfl (lt_ rfl) fun a H => ?_
   exact h83 _ _ _ h (H.weaken ⟨rfl, rfl, rfl, rfl, rfl, rfl, trivial⟩)
 ·clear H a h
  intro a x85 w86 h H
  replace h := h131 x85 w86 h
  clear h131
  refine s_move H rfl rfl (lt_ rfl) fun a H => ?_
  obtain ⟨R95, h, h130⟩ := h
  refine g_joinW (n := 63) R95 (fun x96 => [(54, (.bool x96)), (5, (.pointer (some (blk b11)))), (8, l16.v), (39, P79.v)]) (.succ (.succ (.succ (.succ (.succ (.succ (.zero _))))))) ?_ ?_
  ·intro h94
   clear h130
   rcases Bool.eq_false_or_eq_true x85 with h93 | h93
   ·replace H := H.ch (t := 48) (b := true) rfl h93
    replace h := h.1 h93
    refine s_move H (wantG H rfl rfl) rfl (lt_ rfl) fun a H => s_call H (wantG H rfl rfl) body_18 (H.args (vs := [(.pointer w1)]) rfl) (lt_ rfl) h ?_ (fun c w' h H => e_panic (P := PP) (fn := Tryz.f17) H h)
    clear H h a
    rintro _ w98 a ⟨C99, rfl, h⟩ H
    refine s_move H (wantG H rfl rfl) rfl (lt_ rfl) fun a H => s_call H (wantG H rfl rfl) body_19 (H.args (vs := [(.pointer v2)]) rfl) (lt_ rfl) h ?_ (fun c w' h H => e_panic (P := PP) (fn := Tryz.f17) H h)
    clear H h a
    rintro _ w100 a ⟨C101, rfl, h⟩ H
    refine s_bin H (wantG H rfl rfl) rfl rfl r_eql (lt_ rfl) fun a H => s_pickT H rfl rfl rfl (lt_ rfl) fun a H => ?_
    exact h94 _ _ _ h (H.weaken ⟨rfl, rfl, rfl, rfl, trivial⟩)
   ·replace H := H.ch (t := 48) (b := false) rfl h93
    replace h := h.2 h93
    iterate 5 refine s_skip H (wantN H rfl rfl rfl) rfl (lt_ rfl) fun a H => ?_
    refine s_pickF H rfl rfl rfl (lt_ rfl) fun a H => ?_
    exact h94 _ _ _ h (H.weaken ⟨rfl, rfl, rfl, rfl, trivial⟩)
  ·clear H a h
   intro a x96 w97 h H
   replace h := h130 x96 w97 h
   clear h130
   refine s_move H rfl rfl (lt_ rfl) fun a H => ?_
   obtain ⟨R112, h, h129⟩ := h
   refine g_joinW (n := 63) R112 (fun x113 => [(62, (.bool x113)), (39, P79.v)]) (.succ (.succ (.succ (.succ (.succ (.succ (.succ (.zero _)))))))) ?_ ?_
   ·intro h111
    clear h129
    rcases Bool.eq_false_or_eq_true x96 with h110 | h110
    ·replace H := H.ch (t := 55) (b := true) rfl h110
     replace h := h.1 h110
     refine s_move H (wantG H rfl rfl) rfl (lt_ rfl) fun a H => s_fld H (wantG H rfl rfl) rfl fld_28_2 (lt_ rfl) fun a H => s_fld H (wantG H rfl rfl) rfl fld_26_3 (lt_ rfl) fun a H => ?_
     obtain ⟨l115, hc116, h⟩ := h
     refine s_load (v := l115.v) H (wantG H rfl rfl) rfl one_22 hc116 (lt_ rfl) fun a H => s_call H (wantG H rfl rfl) body_9 (H.args (vs := [l115.v]) rfl) (lt_ rfl) h ?_ (fun c w' h H => e_panic (P := PP) (fn := Tryz.f17) H h)
     clear H h a
     rintro _ w117 a ⟨l118, rfl, h⟩ H
     refine s_call H (wantG H rfl rfl) body_13 (H.args (vs := [l16.v, l118.v]) rfl) (lt_ rfl) h ?_ (fun c w' h H => e_panic (P := PP) (fn := Tryz.f17) H h)
     clear H h a
     rintro _ w119 a ⟨s120, rfl, h⟩ H
     refine s_pickT H rfl rfl rfl (lt_ rfl) fun a H => ?_
     exact h111 _ _ _ h (H.weaken ⟨rfl, rfl, trivial⟩)
    ·replace H := H.ch (t := 55) (b := false) rfl h110
     replace h := h.2 h110
     iterate 6 refine s_skip H (wantN H rfl rfl rfl) rfl (lt_ rfl) fun a H => ?_
     refine s_pickF H rfl rfl rfl (lt_ rfl) fun a H => ?_
     exact h111 _ _ _ h (H.weaken ⟨rfl, rfl, trivial⟩)
   ·clear H a h
    intro a x113 w114 h H
    replace h := h129 x113 w114 h
    clear h129
    refine s_assign H rfl rfl (lt_ rfl) fun a H => s_assign H rfl rfl (lt_ rfl) fun a H => c_nil <| hK81 _ _ <| c_ret ?_
    exact e_ret2 H rfl rfl rfl h

theorem sim_record_Writer_Count (w1 : Option Addr) (w : World) (Q : Ending → World → Prop) (h : vc_record_Writer_Count w1 w Q) : Calls PP F_record_Writer_Count #[(.pointer w1)] w Q := by
 unfold vc_record_Writer_Count at h
 refine enter (n := 9) Tryz.func18 rfl rfl (Nat.le_of_ble_eq_true rfl) fun a H => c_seq fun K2 hK2 => c_reg <| s_assign H rfl rfl (lt_ rfl) fun a H => c_nil <| hK2 _ _ <| c_seq fun K3 hK3 => c_seq fun K4 hK4 => c_reg <| s_move H rfl rfl (lt_ rfl) fun a H => s_bin H rfl rfl rfl (r_eqP0 ptr_29) (lt_ rfl) fun a H => c_nil <| hK4 _ _ <| c_cond H rfl (fun h5 => ?_) (fun h5 => ?_)
 ·replace h := h.1 h5
  refine c_seq fun K6 hK6 => c_reg <| s_assign H rfl rfl (lt_ rfl) fun a H => c_nil <| hK6 _ _ <| c_ret ?_
  exact e_ret1 H rfl rfl h
 ·replace h := h.2 h5
  refine c_skip <| hK3 _ _ <| c_seq fun K7 hK7 => c_reg <| s_move H rfl rfl (lt_ rfl) fun a H => ?_
  obtain ⟨a8, h11, h⟩ := h
  subst h11
  refine s_nil H rfl rfl (lt_ rfl) fun a H => s_fld H rfl rfl fld_42_1 (lt_ rfl) fun a H => ?_
  obtain ⟨l9, hc10, h⟩ := h
  refine s_load (v := (.i l9)) H rfl rfl one_3 hc10 (lt_ rfl) fun a H => s_assign H rfl rfl (lt_ rfl) fun a H => c_nil <| hK7 _ _ <| c_ret ?_
  exact e_ret1 H rfl rfl h

theorem sim_sherdref11_Writer_Count (w1 : Option Addr) (w : World) (Q : Ending → World → Prop) (h : vc_sherdref11_Writer_Count w1 w Q) : Calls PP F_sherdref11_Writer_Count #[(.pointer w1)] w Q := by
 unfold vc_sherdref11_Writer_Count at h
 refine enter (n := 7) Tryz.func19 rfl rfl (Nat.le_of_ble_eq_true rfl) fun a H => c_seq fun K2 hK2 => c_reg <| s_assign H rfl rfl (lt_ rfl) fun a H => c_nil <| hK2 _ _ <| c_seq fun K3 hK3 => c_reg <| s_move H rfl rfl (lt_ rfl) fun a H => ?_
 obtain ⟨a4, h7, h⟩ := h
 subst h7
 refine s_nil H rfl rfl (lt_ rfl) fun a H => s_fld H rfl rfl fld_74_1 (lt_ rfl) fun a H => ?_
 obtain ⟨l5, hc6, h⟩ := h
 refine s_load (v := (.i l5)) H rfl rfl one_3 hc6 (lt_ rfl) fun a H => s_assign H rfl rfl (lt_ rfl) fun a H => c_nil <| hK3 _ _ <| c_ret ?_
 exact e_ret1 H rfl rfl h

theorem sim_quorum_Check (N1 K2 D3 : Int) (w : World) (Q : Ending → World → Prop) (h : vc_quorum_Check N1 K2 D3 w Q) : Calls PP F_quorum_Check #[(.agg #[(.i N1), (.i K2), (.i D3)])] w Q := by
 unfold vc_quorum_Check at h
 refine enter (n := 28) Tryz.func20 rfl rfl (Nat.le_of_ble_eq_true rfl) fun a H => c_seq fun K4 hK4 => c_reg ?_
 replace h := h.get
 obtain ⟨b5, w6, n7, h⟩ := h
 refine s_box H rfl rfl (lt_ rfl) ?_
 rw [← n7.at_]
 clear H a
 intro a H
 refine n7.go <| s_assign H rfl rfl (lt_ rfl) fun a H => c_nil <| hK4 _ _ <| c_seq fun K8 hK8 => c_seq fun K9 hK9 => c_reg <| s_fld H rfl rfl fld_34_1 (lt_ rfl) fun a H => s_load (v := (.i K2)) H rfl rfl one_3 (n7.cell (i := 1) rfl) (lt_ rfl) fun a H => s_bin H rfl rfl rfl r_lss (lt_ rfl) fun a H => s_move H rfl rfl (lt_ rfl) fun a H => ?_
 refine g_join (n := 28) [(12, (.bool ((decide (K2 < 1)) || (decide (N1 < K2))))), (1, (.pointer (some (blk b5))))] (.succ (.succ (.succ (.succ (.succ (.succ (.zero _))))))) ?_ ?_
 ·intro h11
  try clear h
  rcases Bool.eq_false_or_eq_true (decide (K2 < 1)) with h10 | h10
  ·replace H := H.ch (t := 6) (b := true) rfl h10
   iterate 5 refine s_skip H (wantN H rfl rfl rfl) rfl (lt_ rfl) fun a H => ?_
   refine s_pickT H rfl rfl rfl (lt_ rfl) fun a H => ?_
   exact h11 _ (H.weaken ⟨by rw [h10]; rfl, rfl, trivial⟩)
  ·replace H := H.ch (t := 6) (b := false) rfl h10
   refine s_fld H (wantG H rfl rfl) rfl fld_34_1 (lt_ rfl) fun a H => s_load (v := (.i K2)) H (wantG H rfl rfl) rfl one_3 (n7.cell (i := 1) rfl) (lt_ rfl) fun a H => s_fld H (wantG H rfl rfl) rfl fld_34_0 (lt_ rfl) fun a H => s_load (v := (.i N1)) H (wantG H rfl rfl) rfl one_3 (n7.cell (i := 0) rfl) (lt_ rfl) fun a H => s_bin H (wantG H rfl rfl) rfl rfl r_gtr (lt_ rfl) fun a H => s_pickF H rfl rfl rfl (lt_ rfl) fun a H => ?_
   exact h11 _ (H.weaken ⟨by rw [h10]; rfl, rfl, trivial⟩)
 ·clear H a
  intro a H
  refine s_move H rfl rfl (lt_ rfl) fun a H => g_join (n := 28) [(17, (.bool (((decide (K2 < 1)) || (decide (N1 < K2))) || (decide (255 < N1))))), (1, (.pointer (some (blk b5))))] (.succ (.succ (.succ (.succ (.zero _))))) ?_ ?_
  ·intro h13
   try clear h
   rcases Bool.eq_false_or_eq_true ((decide (K2 < 1)) || (decide (N1 < K2))) with h12 | h12
   ·replace H := H.ch (t := 13) (b := true) rfl h12
    iterate 3 refine s_skip H (wantN H rfl rfl rfl) rfl (lt_ rfl) fun a H => ?_
    refine s_pickT H rfl rfl rfl (lt_ rfl) fun a H => ?_
    exact h13 _ (H.weaken ⟨by rw [h12]; rfl, rfl, trivial⟩)
   ·replace H := H.ch (t := 13) (b := false) rfl h12
    refine s_fld H (wantG H rfl rfl) rfl fld_34_0 (lt_ rfl) fun a H => s_load (v := (.i N1)) H (wantG H rfl rfl) rfl one_3 (n7.cell (i := 0) rfl) (lt_ rfl) fun a H => s_bin H (wantG H rfl rfl) rfl rfl r_gtr (lt_ rfl) fun a H => s_pickF H rfl rfl rfl (lt_ rfl) fun a H => ?_
    exact h13 _ (H.weaken ⟨by rw [h12]; rfl, rfl, trivial⟩)
  ·clear H a
   intro a H
   refine s_move H rfl rfl (lt_ rfl) fun a H => g_join (n := 28) [(22, (.bool ((((decide (K2 < 1)) || (decide (N1 < K2))) || (decide (255 < N1))) || (decide (D3 < 0))))), (1, (.pointer (some (blk b5))))] (.succ (.succ (.succ (.succ (.zero _))))) ?_ ?_
   ·intro h15
    try clear h
    rcases Bool.eq_false_or_eq_true (((decide (K2 < 1)) || (decide (N1 < K2))) || (decide (255 < N1))) with h14 | h14
    ·replace H := H.ch (t := 18) (b := true) rfl h14
     iterate 3 refine s_skip H (wantN H rfl rfl rfl) rfl (lt_ rfl) fun a H => ?_
     refine s_pickT H rfl rfl rfl (lt_ rfl) fun a H => ?_
     exact h15 _ (H.weaken ⟨by rw [h14]; rfl, rfl, trivial⟩)
    ·replace H := H.ch (t := 18) (b := false) rfl h14
     refine s_fld H (wantG H rfl rfl) rfl fld_34_2 (lt_ rfl) fun a H => s_load (v := (.i D3)) H (wantG H rfl rfl) rfl one_3 (n7.cell (i := 2) rfl) (lt_ rfl) fun a H => s_bin H (wantG H rfl rfl) rfl rfl r_lss (lt_ rfl) fun a H => s_pickF H rfl rfl rfl (lt_ rfl) fun a H => ?_
     exact h15 _ (H.weaken ⟨by rw [h14]; rfl, rfl, trivial⟩)
   ·clear H a
    intro a H
    refine s_move H rfl rfl (lt_ rfl) fun a H => g_join (n := 28) [(27, (.bool (((((decide (K2 < 1)) || (decide (N1 < K2))) || (decide (255 < N1))) || (decide (D3 < 0))) || (decide (4611686018427387903 < D3)))))] (.succ (.succ (.succ (.succ (.zero _))))) ?_ ?_
    ·intro h17
     try clear h
     rcases Bool.eq_false_or_eq_true ((((decide (K2 < 1)) || (decide (N1 < K2))) || (decide (255 < N1))) || (decide (D3 < 0))) with h16 | h16
     ·replace H := H.ch (t := 23) (b := true) rfl h16
      iterate 3 refine s_skip H (wantN H rfl rfl rfl) rfl (lt_ rfl) fun a H => ?_
      refine s_pickT H rfl rfl rfl (lt_ rfl) fun a H => ?_
      exact h17 _ (H.weaken ⟨by rw [h16]; rfl, trivial⟩)
     ·replace H := H.ch (t := 23) (b := false) rfl h16
      refine s_fld H (wantG H rfl rfl) rfl fld_34_2 (lt_ rfl) fun a H => s_load (v := (.i D3)) H (wantG H rfl rfl) rfl one_3 (n7.cell (i := 2) rfl) (lt_ rfl) fun a H => s_bin H (wantG H rfl rfl) rfl rfl r_gtr (lt_ rfl) fun a H => s_pickF H rfl rfl rfl (lt_ rfl) fun a H => ?_
      exact h17 _ (H.weaken ⟨by rw [h16]; rfl, trivial⟩)
    ·clear H a
     intro a H
     refine c_nil <| hK9 _ _ <| c_cond H rfl (fun h18 => ?_) (fun h18 => ?_)
     ·replace h := h.1 h18
      refine c_seq fun K19 hK19 => c_reg <| s_assign H rfl rfl (lt_ rfl) fun a H => c_nil <| hK19 _ _ <| c_ret ?_
      exact e_ret1 H rfl rfl h
     ·replace h := h.2 h18
      refine c_skip <| hK8 _ _ <| c_seq fun K20 hK20 => c_reg <| s_assign H rfl rfl (lt_ rfl) fun a H => c_nil <| hK20 _ _ <| c_ret ?_
      exact e_ret1 H rfl rfl h

theorem sim_pack_NewWriter (w : World) (Q : Ending → World → Prop) (h : vc_pack_NewWriter w Q) : Calls PP F_pack_NewWriter #[] w Q := by
 unfold vc_pack_NewWriter at h
 refine enter (n := 3) Tryz.func21 rfl rfl (Nat.le_of_ble_eq_true rfl) fun a H => c_seq fun K1 hK1 => c_reg <| s_assign H rfl rfl (lt_ rfl) fun a H => c_nil <| hK1 _ _ <| c_seq fun K2 hK2 => c_reg <| s_build H rfl (by rw [H.parts (vs := []) rfl]; exact bd_86 w) (lt_ rfl) fun a H => ?_
 replace h := h.get
 obtain ⟨b3, w4, n5, h⟩ := h
 refine s_box H rfl rfl (lt_ rfl) ?_
 rw [← n5.at_]
 clear H a
 intro a H
 refine n5.go <| s_assign H rfl rfl (lt_ rfl) fun a H => c_nil <| hK2 _ _ <| c_ret ?_
 exact e_ret1 H rfl rfl h

theorem sim_pack_Writer_Byte (w1 : Option Addr) (b2 : Int) (w : World) (Q : Ending → World → Prop) (h : vc_pack_Writer_Byte w1 b2 w Q) : Calls PP F_pack_Writer_Byte #[(.pointer w1), (.int .u8 b2)] w Q := by
 unfold vc_pack_Writer_Byte at h
 refine enter (n := 8) Tryz.func22 rfl rfl (Nat.le_of_ble_eq_true rfl) fun a H => c_reg <| s_move H rfl rfl (lt_ rfl) fun a H => s_move H rfl rfl (lt_ rfl) fun a H => ?_
 replace h := h.get
 obtain ⟨b3, w4, n5, h⟩ := h
 refine s_bslc H rfl (by rw [H.parts (vs := [(0, (.int .u8 b2))]) rfl]; exact bs_22_1_iu80 w b2) (lt_ rfl) ?_
 rw [← n5.at_]
 clear H a
 intro a H
 refine n5.go <| s_call H rfl body_35 (H.args (vs := [(.pointer w1), (Slc.v (Slc.mk (some (blk b3)) 1 1))]) rfl) (lt_ rfl) h ?_ (fun c w' h H => e_panic (P := PP) (fn := Tryz.f22) H h)
 clear H h a
 rintro _ w6 a ⟨rfl, h⟩ H
 refine c_nil ?_
 exact e_ret0 H rfl h

theorem sim_pack_Writer_Uint (w1 : Option Addr) (n2 : Int) (w : World) (Q : Ending → World → Prop) (h : vc_pack_Writer_Uint w1 n2 w Q) : Calls PP F_pack_Writer_Uint #[(.pointer w1), (.i n2)] w Q := by
 unfold vc_pack_Writer_Uint at h
 refine enter (n := 16) Tryz.func23 rfl rfl (Nat.le_of_ble_eq_true rfl) fun a H => c_seq fun K3 hK3 => c_seq fun K4 hK4 => c_reg <| s_move H rfl rfl (lt_ rfl) fun a H => s_bin H rfl rfl rfl r_lss (lt_ rfl) fun a H => c_nil <| hK4 _ _ <| c_cond H rfl (fun h5 => ?_) (fun h5 => ?_)
 ·replace h := h.1 h5
  refine c_seq fun K6 hK6 => ?_
  obtain ⟨R7, h, h19⟩ := h
  have h9 : ∀ (a : Act) (w8 : World), R7 w8 → Has 16 [] a [] → K6 a w8 := by
   clear h
   intro a w8 h H
   replace h := h19 w8 h
   refine hK6 _ _ <| c_ret ?_
   exact e_ret0 H rfl h
  clear h19
  refine c_seq fun K10 hK10 => c_reg <| s_move H rfl rfl (lt_ rfl) fun a H => s_bin H rfl rfl rfl (r_neP0 ptr_62) (lt_ rfl) fun a H => c_nil <| hK10 _ _ <| c_cond H rfl (fun h11 => ?_) (fun h11 => ?_)
  ·replace h := h.1 h11
   refine c_reg <| s_move H rfl rfl (lt_ rfl) fun a H => ?_
   obtain ⟨a12, h18, h⟩ := h
   subst h18
   refine s_nil H rfl rfl (lt_ rfl) fun a H => s_fld H rfl rfl fld_86_0 (lt_ rfl) fun a H => s_call H rfl body_36 (H.args (vs := [(.pointer (some (a12.add 0))), (.i 33)]) rfl) (lt_ rfl) h ?_ (fun c w' h H => e_panic (P := PP) (fn := Tryz.f23) H h)
   clear H h a
   rintro _ w13 a ⟨rfl, h⟩ H
   refine c_nil ?_
   exact h9 _ _ h (H.weaken trivial)
  ·replace h := h.2 h11
   refine c_skip ?_
   exact h9 _ _ h (H.weaken trivial)
 ·replace h := h.2 h5
  refine c_skip <| hK3 _ _ <| c_reg <| s_move H rfl rfl (lt_ rfl) fun a H => s_move H rfl rfl (lt_ rfl) fun a H => s_call H rfl body_37 (H.args (vs := [(.i n2)]) rfl) (lt_ rfl) h ?_ (fun c w' h H => e_panic (P := PP) (fn := Tryz.f23) H h)
  clear H h a
  rintro _ w20 a ⟨f21, rfl, h⟩ H
  refine s_call H rfl body_35 (H.args (vs := [(.pointer w1), f21.v]) rfl) (lt_ rfl) h ?_ (fun c w' h H => e_panic (P := PP) (fn := Tryz.f23) H h)
  clear H h a
  rintro _ w22 a ⟨rfl, h⟩ H
  refine c_nil ?_
  exact e_ret0 H rfl h

theorem sim_pack_Writer_Data (w1 : Option Addr) (w : World) (Q : Ending → World → Prop) (h : vc_pack_Writer_Data w1 w Q) : Calls PP F_pack_Writer_Data #[(.pointer w1)] w Q := by
 unfold vc_pack_Writer_Data at h
 refine enter (n := 18) Tryz.func24 rfl rfl (Nat.le_of_ble_eq_true rfl) fun a H => c_seq fun K2 hK2 => c_reg <| s_assign H rfl rfl (lt_ rfl) fun a H => c_nil <| hK2 _ _ <| c_seq fun K3 hK3 => c_seq fun K4 hK4 => c_reg <| s_move H rfl rfl (lt_ rfl) fun a H => s_bin H rfl rfl rfl (r_eqP0 ptr_62) (lt_ rfl) fun a H => s_move H rfl rfl (lt_ rfl) fun a H => ?_
 obtain ⟨x11, h12, h13, h⟩ := h
 refine g_join (n := 18) [(12, (.bool x11)), (0, (.pointer w1))] (.succ (.succ (.succ (.succ (.succ (.succ (.succ (.zero _)))))))) ?_ ?_
 ·intro h6
  try clear h
  rcases Bool.eq_false_or_eq_true w1.isNone with h5 | h5
  ·replace H := H.ch (t := 5) (b := true) rfl h5
   iterate 6 refine s_skip H (wantN H rfl rfl rfl) rfl (lt_ rfl) fun a H => ?_
   refine s_pickT H rfl rfl rfl (lt_ rfl) fun a H => ?_
   replace h := h13 h5
   subst h
   exact h6 _ (H.weaken ⟨rfl, rfl, trivial⟩)
  ·replace H := H.ch (t := 5) (b := false) rfl h5
   replace h := h12 h5
   refine s_move H (wantG H rfl rfl) rfl (lt_ rfl) fun a H => ?_
   obtain ⟨a7, h10, h⟩ := h
   subst h10
   refine s_nil H (wantG H rfl rfl) rfl (lt_ rfl) fun a H => s_fld H (wantG H rfl rfl) rfl fld_86_0 (lt_ rfl) fun a H => s_fld H (wantG H rfl rfl) rfl fld_84_0 (lt_ rfl) fun a H => ?_
   obtain ⟨l8, hc9, h⟩ := h
   refine s_load (v := (.i l8)) H (wantG H rfl rfl) rfl one_30 hc9 (lt_ rfl) fun a H => s_bin H (wantG H rfl rfl) rfl rfl r_neq (lt_ rfl) fun a H => s_pickF H rfl rfl rfl (lt_ rfl) fun a H => ?_
   subst h
   exact h6 _ (H.weaken ⟨rfl, rfl, trivial⟩)
 ·clear H a
  clear h12 h13
  intro a H
  refine c_nil <| hK4 _ _ <| c_cond H rfl (fun h14 => ?_) (fun h14 => ?_)
  ·replace h := h.1 h14
   refine c_seq fun K15 hK15 => c_reg <| s_assign H rfl rfl (lt_ rfl) fun a H => c_nil <| hK15 _ _ <| c_ret ?_
   exact e_ret1 H rfl rfl h
  ·replace h := h.2 h14
   refine c_skip <| hK3 _ _ <| c_seq fun K16 hK16 => c_reg <| s_move H rfl rfl (lt_ rfl) fun a H => ?_
   obtain ⟨a17, h26, h⟩ := h
   subst h26
   refine s_nil H rfl rfl (lt_ rfl) fun a H => s_fld H rfl rfl fld_86_1 (lt_ rfl) fun a H => ?_
   obtain ⟨l18, hc19, h⟩ := h
   refine s_load (v := l18.v) H rfl rfl one_22 hc19 (lt_ rfl) fun a H => s_call H rfl body_8 (H.args (vs := [l18.v]) rfl) (lt_ rfl) h ?_ (fun c w' h H => e_panic (P := PP) (fn := Tryz.f24) H h)
   clear H h a
   rintro _ w20 a ⟨C21, rfl, h⟩ H
   refine s_assign H rfl rfl (lt_ rfl) fun a H => c_nil <| hK16 _ _ <| c_ret ?_
   exact e_ret1 H rfl rfl h

theorem sim_slices_Concat (s1 : Slc) (w : World) (Q : Ending → World → Prop) (h : vc_slices_Concat s1 w Q) : Calls PP F_slices_Concat #[s1.v] w Q := by
 unfold vc_slices_Concat at h
 refine enter (n := 36) Tryz.func25 rfl rfl (Nat.le_of_ble_eq_true rfl) fun a H => c_seq fun K2 hK2 => c_reg <| s_assign H rfl rfl (lt_ rfl) fun a H => c_nil <| hK2 _ _ <| c_seq fun K3 hK3 => c_reg <| s_assign H rfl rfl (lt_ rfl) fun a H => c_nil <| hK3 _ _ <| c_seq fun K4 hK4 => c_seq fun K5 hK5 => c_reg <| s_move H rfl rfl (lt_ rfl) fun a H => s_blt H rfl (H.args (vs := [s1.v]) rfl) (lt_ rfl) (fun cs => b_lenS (z := s1) sl_55) fun a H => s_move H rfl rfl (lt_ rfl) fun a H => c_nil ?_
 refine hK5 _ _ <| c_block ?_
 obtain ⟨I9, m10, h61, h62⟩ := h
 refine c_loop (σ := Int × Int) (fun z w => I9 z.1 z.2 w) (fun z w => m10 z.1 z.2 w) (fun z => [(0, s1.v), (3, (.i z.1)), (9, s1.v), (10, (.i (s1.l : Int))), (11, (.i z.2))]) (0, 0) h61 (H.weaken ⟨rfl, rfl, rfl, rfl, rfl, trivial⟩) ?_
 clear H h61
 rintro ⟨s6, s7⟩ a w8 h H
 replace h := h62 s6 s7 w8 h
 clear h62
 replace H : Has 36 [] a [(0, s1.v), (3, (.i s6)), (9, s1.v), (10, (.i (s1.l : Int))), (11, (.i s7))] := H
 refine c_seq fun K11 hK11 => c_reg <| s_bin H rfl rfl rfl r_lss (lt_ rfl) fun a H => c_nil <| hK11 _ _ <| c_seq fun K12 hK12 => c_cond H rfl (fun h13 => ?_) (fun h13 => ?_)
 ·replace h := h.1 h13
  refine c_skip <| hK12 _ _ <| c_seq fun K14 hK14 => ?_
  obtain ⟨R16, h, h29⟩ := h
  have h18 : ∀ (a : Act) (s15 : Int) (w17 : World), R16 s15 w17 → Has 36 [] a [(0, s1.v), (3, (.i s15)), (9, s1.v), (10, (.i (s1.l : Int))), (11, (.i s7))] → K14 a w17 := by
   clear h
   intro a s15 w17 h H
   replace h := h29 s15 w17 h
   refine hK14 _ _ <| c_reg <| s_bin H rfl rfl rfl r_add (lt_ rfl) fun a H => s_move H rfl rfl (lt_ rfl) fun a H => c_nil <| Exists.intro (s15, wr .i64 (s7 + 1)) ⟨h.1, h.2, H.weaken ⟨rfl, rfl, rfl, rfl, rfl, trivial⟩⟩
  clear h29
  refine c_block <| c_seq fun K19 hK19 => c_reg ?_
  obtain ⟨a20, h21, h22, h23, h⟩ := h
  refine s_idxS (s := s1) H rfl rfl rfl slc_55 h21 h22 h23 (lt_ rfl) fun a H => ?_
  obtain ⟨l24, hc25, h⟩ := h
  refine s_load (v := l24.v) H rfl rfl one_22 hc25 (lt_ rfl) fun a H => s_assign H rfl rfl (lt_ rfl) fun a H => c_nil <| hK19 _ _ <| c_seq fun K26 hK26 => c_reg <| s_move H rfl rfl (lt_ rfl) fun a H => s_move H rfl rfl (lt_ rfl) fun a H => s_blt H rfl (H.args (vs := [l24.v]) rfl) (lt_ rfl) (fun cs => b_lenS (z := l24) sl_22) fun a H => s_bin H rfl rfl rfl r_add (lt_ rfl) fun a H => s_assign H rfl rfl (lt_ rfl) fun a H => c_nil <| hK26 _ _ <| c_seq fun K27 hK27 => c_reg ?_
  refine s_move H rfl rfl (lt_ rfl) fun a H => s_bin H rfl rfl rfl r_lss (lt_ rfl) fun a H => c_nil <| hK27 _ _ <| c_cond H rfl (fun h28 => ?_) (fun h28 => ?_)
  ·replace h := h.1 h28
   refine c_reg <| s_iface H rfl rfl ni_9 (lt_ rfl) fun a H => ?_
   exact s_panic H rfl rfl (fun H => e_panic (P := PP) (fn := Tryz.f25) H h)
  ·replace h := h.2 h28
   refine c_skip ?_
   exact h18 _ _ _ h (H.weaken ⟨rfl, rfl, rfl, rfl, rfl, trivial⟩)
 ·replace h := h.2 h13
  refine c_exit ?_
  first | (simp only [Exit.then, Exit.inBlock, ↓reduceIte]; fail_if_success simp only [Nat.reduceEqDiff]) | simp only [Exit.then, Exit.inBlock, ↓reduceIte, Nat.reduceEqDiff]
  refine hK4 _ _ <| c_seq fun K30 hK30 => c_reg <| s_move H rfl rfl (lt_ rfl) fun a H => s_call H rfl body_38 (H.args (vs := [Slc.nil.v, (.i s6)]) rfl) (lt_ rfl) h ?_ (fun c w' h H => e_panic (P := PP) (fn := Tryz.f25) H h)
  clear H h a
  rintro _ w31 a ⟨G32, rfl, h⟩ H
  refine s_assign H rfl rfl (lt_ rfl) fun a H => c_nil <| hK30 _ _ <| c_seq fun K33 hK33 => c_seq fun K34 hK34 => c_reg <| s_move H rfl rfl (lt_ rfl) fun a H => s_blt H rfl (H.args (vs := [s1.v]) rfl) (lt_ rfl) (fun cs => b_lenS (z := s1) sl_55) fun a H => s_move H rfl rfl (lt_ rfl) fun a H => c_nil <| hK34 _ _ <| c_block ?_
  obtain ⟨I38, m39, h55, h56⟩ := h
  refine c_loop (σ := Slc × Int) (fun z w => I38 z.1 z.2 w) (fun z w => m39 z.1 z.2 w) (fun z => [(6, z.1.v), (25, s1.v), (26, (.i (s1.l : Int))), (27, (.i z.2))]) (G32, 0) h55 (H.weaken ⟨rfl, rfl, rfl, rfl, trivial⟩) ?_
  clear H h55
  rintro ⟨n35, s36⟩ a w37 h H
  replace h := h56 n35 s36 w37 h
  clear h56
  replace H : Has 36 [] a [(6, n35.v), (25, s1.v), (26, (.i (s1.l : Int))), (27, (.i s36))] := H
  refine c_seq fun K40 hK40 => c_reg <| s_bin H rfl rfl rfl r_lss (lt_ rfl) fun a H => c_nil <| hK40 _ _ <| c_seq fun K41 hK41 => c_cond H rfl (fun h42 => ?_) (fun h42 => ?_)
  ·replace h := h.1 h42
   refine c_skip <| hK41 _ _ <| c_seq fun K43 hK43 => c_block <| c_seq fun K44 hK44 => c_reg ?_
   obtain ⟨a45, h46, h47, h48, h⟩ := h
   refine s_idxS (s := s1) H rfl rfl rfl slc_55 h46 h47 h48 (lt_ rfl) fun a H => ?_
   obtain ⟨l49, hc50, h⟩ := h
   refine s_load (v := l49.v) H rfl rfl one_22 hc50 (lt_ rfl) fun a H => s_assign H rfl rfl (lt_ rfl) fun a H => c_nil <| hK44 _ _ <| c_reg <| s_move H rfl rfl (lt_ rfl) fun a H => s_move H rfl rfl (lt_ rfl) fun a H => ?_
   obtain ⟨s51, w52, h53, h⟩ := h
   refine s_blt H rfl (H.args (vs := [n35.v, l49.v]) rfl) (lt_ rfl) (fun cs => b_app (z := s51) h53) ?_
   clear H a h53
   intro a H
   refine s_assign H rfl rfl (lt_ rfl) fun a H => c_nil <| hK43 _ _ <| c_reg <| s_bin H rfl rfl rfl r_add (lt_ rfl) fun a H => s_move H rfl rfl (lt_ rfl) fun a H => c_nil <| Exists.intro (s51, wr .i64 (s36 + 1)) ⟨h.1, h.2, H.weaken ⟨rfl, rfl, rfl, rfl, trivial⟩⟩
  ·replace h := h.2 h42
   refine c_exit ?_
   first | (simp only [Exit.then, Exit.inBlock, ↓reduceIte]; fail_if_success simp only [Nat.reduceEqDiff]) | simp only [Exit.then, Exit.inBlock, ↓reduceIte, Nat.reduceEqDiff]
   refine hK33 _ _ <| c_seq fun K54 hK54 => c_reg <| s_move H rfl rfl (lt_ rfl) fun a H => s_assign H rfl rfl (lt_ rfl) fun a H => c_nil <| hK54 _ _ <| c_ret ?_
   exact e_ret1 H rfl rfl h

theorem sim_record_four (n1 : Int) (w : World) (Q : Ending → World → Prop) (h : vc_record_four n1 w Q) : Calls PP F_record_four #[(.int .u32 n1)] w Q := by
 unfold vc_record_four at h
 refine enter (n := 15) Tryz.func26 rfl rfl (Nat.le_of_ble_eq_true rfl) fun a H => c_seq fun K2 hK2 => c_reg <| s_assign H rfl rfl (lt_ rfl) fun a H => c_nil <| hK2 _ _ <| c_seq fun K3 hK3 => c_reg <| s_move H rfl rfl (lt_ rfl) fun a H => s_cv H rfl rfl (r_cvI some_69 int_5) (lt_ rfl) fun a H => s_move H rfl rfl (lt_ rfl) fun a H => s_bin H rfl rfl rfl (r_shr (by decide)) (lt_ rfl) fun a H => s_cv H rfl rfl (r_cvI some_69 int_5) (lt_ rfl) fun a H => ?_
 refine s_move H rfl rfl (lt_ rfl) fun a H => s_bin H rfl rfl rfl (r_shr (by decide)) (lt_ rfl) fun a H => s_cv H rfl rfl (r_cvI some_69 int_5) (lt_ rfl) fun a H => s_move H rfl rfl (lt_ rfl) fun a H => s_bin H rfl rfl rfl (r_shr (by decide)) (lt_ rfl) fun a H => s_cv H rfl rfl (r_cvI some_69 int_5) (lt_ rfl) fun a H => ?_
 replace h := h.get
 obtain ⟨b4, w5, n6, h⟩ := h
 refine s_bslc H rfl (by rw [H.parts (vs := [(0, (.int .u8 (wr .u8 n1))), (1, (.int .u8 (wr .u8 (shrI .u32 n1 8)))), (2, (.int .u8 (wr .u8 (shrI .u32 n1 16)))), (3, (.int .u8 (wr .u8 (shrI .u32 n1 24))))]) rfl]; exact bs_22_4_iu80_iu81_iu82_iu83 w (wr .u8 n1) (wr .u8 (shrI .u32 n1 8)) (wr .u8 (shrI .u32 n1 16)) (wr .u8 (shrI .u32 n1 24))) (lt_ rfl) ?_
 rw [← n6.at_]
 clear H a
 intro a H
 refine n6.go <| s_assign H rfl rfl (lt_ rfl) fun a H => c_nil <| hK3 _ _ <| c_ret ?_
 exact e_ret1 H rfl rfl h

theorem sim_sum_Of (p1 : Slc) (w : World) (Q : Ending → World → Prop) (h : vc_sum_Of p1 w Q) : Calls PP F_sum_Of #[p1.v] w Q := by
 unfold vc_sum_Of at h
 refine enter (n := 27) Tryz.func27 rfl rfl (Nat.le_of_ble_eq_true rfl) fun a H => c_seq fun K2 hK2 => c_reg <| s_assign H rfl rfl (lt_ rfl) fun a H => c_nil <| hK2 _ _ <| c_seq fun K3 hK3 => c_reg <| s_assign H rfl rfl (lt_ rfl) fun a H => c_nil <| hK3 _ _ <| c_seq fun K4 hK4 => c_seq fun K5 hK5 => c_reg <| s_move H rfl rfl (lt_ rfl) fun a H => s_blt H rfl (H.args (vs := [p1.v]) rfl) (lt_ rfl) (fun cs => b_lenS (z := p1) sl_55) fun a H => s_move H rfl rfl (lt_ rfl) fun a H => c_nil ?_
 refine hK5 _ _ <| c_block ?_
 obtain ⟨I9, m10, h53, h54⟩ := h
 refine c_loop (σ := Int × Int) (fun z w => I9 z.1 z.2 w) (fun z w => m10 z.1 z.2 w) (fun z => [(3, (.int .u32 z.1)), (8, p1.v), (9, (.i (p1.l : Int))), (10, (.i z.2))]) (4294967295, 0) h53 (H.weaken ⟨rfl, rfl, rfl, rfl, trivial⟩) ?_
 clear H h53
 rintro ⟨x6, s7⟩ a w8 h H
 replace h := h54 x6 s7 w8 h
 clear h54
 replace H : Has 27 [] a [(3, (.int .u32 x6)), (8, p1.v), (9, (.i (p1.l : Int))), (10, (.i s7))] := H
 refine c_seq fun K11 hK11 => c_reg <| s_bin H rfl rfl rfl r_lss (lt_ rfl) fun a H => c_nil <| hK11 _ _ <| c_seq fun K12 hK12 => c_cond H rfl (fun h13 => ?_) (fun h13 => ?_)
 ·replace h := h.1 h13
  refine c_skip <| hK12 _ _ <| c_seq fun K14 hK14 => ?_
  obtain ⟨R16, h, h51⟩ := h
  have h18 : ∀ (a : Act) (x15 : Int) (w17 : World), R16 x15 w17 → Has 27 [] a [(3, (.int .u32 x15)), (8, p1.v), (9, (.i (p1.l : Int))), (10, (.i s7))] → K14 a w17 := by
   clear h
   intro a x15 w17 h H
   replace h := h51 x15 w17 h
   refine hK14 _ _ <| c_reg <| s_bin H rfl rfl rfl r_add (lt_ rfl) fun a H => s_move H rfl rfl (lt_ rfl) fun a H => c_nil <| Exists.intro (x15, wr .i64 (s7 + 1)) ⟨h.1, h.2, H.weaken ⟨rfl, rfl, rfl, rfl, trivial⟩⟩
  clear h51
  refine c_block <| c_seq fun K19 hK19 => c_reg ?_
  obtain ⟨a20, h21, h22, h23, h⟩ := h
  refine s_idxS (s := p1) H rfl rfl rfl slc_55 h21 h22 h23 (lt_ rfl) fun a H => ?_
  obtain ⟨l24, hc25, h⟩ := h
  refine s_load (v := l24.v) H rfl rfl one_22 hc25 (lt_ rfl) fun a H => s_assign H rfl rfl (lt_ rfl) fun a H => c_nil <| hK19 _ _ <| c_seq fun K26 hK26 => c_reg <| s_move H rfl rfl (lt_ rfl) fun a H => s_blt H rfl (H.args (vs := [l24.v]) rfl) (lt_ rfl) (fun cs => b_lenS (z := l24) sl_22) fun a H => s_move H rfl rfl (lt_ rfl) fun a H => c_nil <| hK26 _ _ <| c_block ?_
  obtain ⟨I30, m31, h49, h50⟩ := h
  refine c_loop (σ := Int × Int) (fun z w => I30 z.1 z.2 w) (fun z w => m31 z.1 z.2 w) (fun z => [(3, (.int .u32 z.1)), (8, p1.v), (9, (.i (p1.l : Int))), (10, (.i s7)), (14, l24.v), (15, (.i (l24.l : Int))), (16, (.i z.2))]) (x6, 0) h49 (H.weaken ⟨rfl, rfl, rfl, rfl, rfl, rfl, rfl, trivial⟩) ?_
  clear H h49
  rintro ⟨x27, s28⟩ a w29 h H
  replace h := h50 x27 s28 w29 h
  clear h50
  replace H : Has 27 [] a [(3, (.int .u32 x27)), (8, p1.v), (9, (.i (p1.l : Int))), (10, (.i s7)), (14, l24.v), (15, (.i (l24.l : Int))), (16, (.i s28))] := H
  refine c_seq fun K32 hK32 => c_reg <| s_bin H rfl rfl rfl r_lss (lt_ rfl) fun a H => c_nil <| hK32 _ _ <| c_seq fun K33 hK33 => c_cond H rfl (fun h34 => ?_) (fun h34 => ?_)
  ·replace h := h.1 h34
   refine c_skip <| hK33 _ _ <| c_seq fun K35 hK35 => c_block <| c_seq fun K36 hK36 => c_reg ?_
   obtain ⟨a37, h38, h39, h40, h⟩ := h
   refine s_idxS (s := l24) H rfl rfl rfl slc_22 h38 h39 h40 (lt_ rfl) fun a H => ?_
   obtain ⟨l41, hc42, h⟩ := h
   refine s_load (v := (.int .u8 l41)) H rfl rfl one_5 hc42 (lt_ rfl) fun a H => s_assign H rfl rfl (lt_ rfl) fun a H => c_nil <| hK36 _ _ <| c_reg <| s_move H rfl rfl (lt_ rfl) fun a H => s_move H rfl rfl (lt_ rfl) fun a H => s_call H rfl body_39 (H.args (vs := [(.int .u32 x27), (.int .u8 l41)]) rfl) (lt_ rfl) h ?_ (fun c w' h H => e_panic (P := PP) (fn := Tryz.f27) H h)
   clear H h a
   rintro _ w43 a ⟨s44, rfl, h⟩ H
   refine s_assign H rfl rfl (lt_ rfl) fun a H => c_nil <| hK35 _ _ <| c_reg <| s_bin H rfl rfl rfl r_add (lt_ rfl) fun a H => s_move H rfl rfl (lt_ rfl) fun a H => c_nil <| Exists.intro (s44, wr .i64 (s28 + 1)) ⟨h.1, h.2, H.weaken ⟨rfl, rfl, rfl, rfl, rfl, rfl, rfl, trivial⟩⟩
  ·replace h := h.2 h34
   refine c_exit ?_
   first | (simp only [Exit.then, Exit.inBlock, ↓reduceIte]; fail_if_success simp only [Nat.reduceEqDiff]) | simp only [Exit.then, Exit.inBlock, ↓reduceIte, Nat.reduceEqDiff]
   exact h18 _ _ _ h (H.weaken ⟨rfl, rfl, rfl, rfl, trivial⟩)
 ·replace h := h.2 h13
  refine c_exit ?_
  first | (simp only [Exit.then, Exit.inBlock, ↓reduceIte]; fail_if_success simp only [Nat.reduceEqDiff]) | simp only [Exit.then, Exit.inBlock, ↓reduceIte, Nat.reduceEqDiff]
  refine hK4 _ _ <| c_seq fun K52 hK52 => c_reg <| s_move H rfl rfl (lt_ rfl) fun a H => s_un H rfl rfl r_com (lt_ rfl) fun a H => s_assign H rfl rfl (lt_ rfl) fun a H => c_nil <| hK52 _ _ <| c_ret ?_
  exact e_ret1 H rfl rfl h

theorem sim_sherdref11_head (d1 : Slc) (w : World) (Q : Ending → World → Prop) (h : vc_sherdref11_head d1 w Q) : Calls PP F_sherdref11_head #[d1.v] w Q := by
 unfold vc_sherdref11_head at h
 refine enter (n := 61) Tryz.func28 rfl rfl (Nat.le_of_ble_eq_true rfl) fun a H => c_seq fun K2 hK2 => c_reg ?_
 replace h := h.get
 obtain ⟨b3, w4, n5, h⟩ := h
 refine s_alloc H rfl zero_36 (lt_ rfl) ?_
 rw [← n5.at_]
 clear H a
 intro a H
 refine n5.go <| s_assign H rfl rfl (lt_ rfl) fun a H => s_assign H rfl rfl (lt_ rfl) fun a H => c_nil <| hK2 _ _ <| c_seq fun K6 hK6 => c_reg <| s_move H rfl rfl (lt_ rfl) fun a H => s_call H rfl body_40 (H.args (vs := [d1.v]) rfl) (lt_ rfl) h ?_ (fun c w' h H => e_panic (P := PP) (fn := Tryz.f28) H h)
 clear H h a
 rintro _ w7 a ⟨N8, rfl, h⟩ H
 refine s_assign H rfl rfl (lt_ rfl) fun a H => c_nil <| hK6 _ _ <| c_seq fun K9 hK9 => c_reg <| s_move H rfl rfl (lt_ rfl) fun a H => s_call H rfl body_41 (H.args (vs := [(.pointer N8)]) rfl) (lt_ rfl) h ?_ (fun c w' h H => e_panic (P := PP) (fn := Tryz.f28) H h)
 clear H h a
 rintro _ w10 a ⟨B11, rfl, h⟩ H
 refine s_assign H rfl rfl (lt_ rfl) fun a H => c_nil <| hK9 _ _ <| c_seq fun K12 hK12 => c_reg ?_
 replace h := h.get
 obtain ⟨b13, w14, n15, h⟩ := h
 refine s_alloc H rfl zero_36 (lt_ rfl) ?_
 rw [← n15.at_]
 clear H a
 intro a H
 refine n15.go <| c_nil <| hK12 _ _ <| c_seq fun K16 hK16 => c_reg <| s_move H rfl rfl (lt_ rfl) fun a H => s_call H rfl body_42 (H.args (vs := [(.pointer N8), (.i 255)]) rfl) (lt_ rfl) h ?_ (fun c w' h H => e_panic (P := PP) (fn := Tryz.f28) H h)
 clear H h a
 rintro _ w17 a ⟨U18, rfl, h⟩ H
 refine s_fld H rfl rfl fld_36_0 (lt_ rfl) fun a H => s_fld H rfl rfl fld_34_0 (lt_ rfl) fun a H => ?_
 obtain ⟨h20, h21, h⟩ := h
 refine s_sto (p := ((blk b13).add 0).add 0) (v := (.i U18)) H rfl rfl rfl rfl one_3 rfl h20 h21 ?_
 clear H
 intro H
 generalize hww19 : World.setCell w17 (((blk b13).add 0).add 0) (.i U18) = w19 at h ⊢
 have w19S : SetAt w17 (((blk b13).add 0).add 0) (.i U18) w19 := ⟨hww19.symm⟩
 clear hww19 h20 h21
 refine c_nil <| hK16 _ _ <| c_seq fun K22 hK22 => c_reg <| s_move H rfl rfl (lt_ rfl) fun a H => s_call H rfl body_42 (H.args (vs := [(.pointer N8), (.i 255)]) rfl) (lt_ rfl) h ?_ (fun c w' h H => e_panic (P := PP) (fn := Tryz.f28) H h)
 clear H h a
 rintro _ w23 a ⟨U24, rfl, h⟩ H
 refine s_fld H rfl rfl fld_36_0 (lt_ rfl) fun a H => s_fld H rfl rfl fld_34_1 (lt_ rfl) fun a H => ?_
 obtain ⟨h26, h27, h⟩ := h
 refine s_sto (p := ((blk b13).add 0).add 1) (v := (.i U24)) H rfl rfl rfl rfl one_3 rfl h26 h27 ?_
 clear H
 intro H
 generalize hww25 : World.setCell w23 (((blk b13).add 0).add 1) (.i U24) = w25 at h ⊢
 have w25S : SetAt w23 (((blk b13).add 0).add 1) (.i U24) w25 := ⟨hww25.symm⟩
 clear hww25 h26 h27
 refine c_nil <| hK22 _ _ <| c_seq fun K28 hK28 => c_reg <| s_move H rfl rfl (lt_ rfl) fun a H => s_call H rfl body_42 (H.args (vs := [(.pointer N8), (.i 4611686018427387903)]) rfl) (lt_ rfl) h ?_ (fun c w' h H => e_panic (P := PP) (fn := Tryz.f28) H h)
 clear H h a
 rintro _ w29 a ⟨U30, rfl, h⟩ H
 refine s_fld H rfl rfl fld_36_0 (lt_ rfl) fun a H => s_fld H rfl rfl fld_34_2 (lt_ rfl) fun a H => ?_
 obtain ⟨h32, h33, h⟩ := h
 refine s_sto (p := ((blk b13).add 0).add 2) (v := (.i U30)) H rfl rfl rfl rfl one_3 rfl h32 h33 ?_
 clear H
 intro H
 generalize hww31 : World.setCell w29 (((blk b13).add 0).add 2) (.i U30) = w31 at h ⊢
 have w31S : SetAt w29 (((blk b13).add 0).add 2) (.i U30) w31 := ⟨hww31.symm⟩
 clear hww31 h32 h33
 refine c_nil <| hK28 _ _ <| c_seq fun K34 hK34 => c_reg <| s_move H rfl rfl (lt_ rfl) fun a H => s_call H rfl body_42 (H.args (vs := [(.pointer N8), (.i 255)]) rfl) (lt_ rfl) h ?_ (fun c w' h H => e_panic (P := PP) (fn := Tryz.f28) H h)
 clear H h a
 rintro _ w35 a ⟨U36, rfl, h⟩ H
 refine s_fld H rfl rfl fld_36_1 (lt_ rfl) fun a H => ?_
 obtain ⟨h38, h39, h⟩ := h
 refine s_sto (p := (blk b13).add 3) (v := (.i U36)) H rfl rfl rfl rfl one_3 rfl h38 h39 ?_
 clear H
 intro H
 generalize hww37 : World.setCell w35 ((blk b13).add 3) (.i U36) = w37 at h ⊢
 have w37S : SetAt w35 ((blk b13).add 3) (.i U36) w37 := ⟨hww37.symm⟩
 clear hww37 h38 h39
 refine c_nil <| hK34 _ _ <| c_seq fun K40 hK40 => c_seq fun K41 hK41 => c_reg <| s_move H rfl rfl (lt_ rfl) fun a H => s_call H rfl body_43 (H.args (vs := [(.pointer N8)]) rfl) (lt_ rfl) h ?_ (fun c w' h H => e_panic (P := PP) (fn := Tryz.f28) H h)
 clear H h a
 rintro _ w42 a ⟨E43, rfl, h⟩ H
 refine s_bin H rfl rfl rfl r_neq (lt_ rfl) fun a H => s_move H rfl rfl (lt_ rfl) fun a H => g_join (n := 61) [(34, (.bool ((decide (E43 ≠ 0)) || (decide (B11 ≠ 72))))), (0, d1.v), (2, (.pointer (some (blk b3)))), (7, (.pointer (some (blk b13))))] (.succ (.succ (.succ (.zero _)))) ?_ ?_
 ·intro h45
  try clear h
  rcases Bool.eq_false_or_eq_true (decide (E43 ≠ 0)) with h44 | h44
  ·replace H := H.ch (t := 31) (b := true) rfl h44
   refine s_skip H (wantN H rfl rfl rfl) rfl (lt_ rfl) fun a H => s_skip H (wantN H rfl rfl rfl) rfl (lt_ rfl) fun a H => s_pickT H rfl rfl rfl (lt_ rfl) fun a H => ?_
   exact h45 _ (H.weaken ⟨by rw [h44]; rfl, rfl, rfl, rfl, trivial⟩)
  ·replace H := H.ch (t := 31) (b := false) rfl h44
   refine s_move H (wantG H rfl rfl) rfl (lt_ rfl) fun a H => s_bin H (wantG H rfl rfl) rfl rfl r_neq (lt_ rfl) fun a H => s_pickF H rfl rfl rfl (lt_ rfl) fun a H => ?_
   exact h45 _ (H.weaken ⟨by rw [h44]; rfl, rfl, rfl, rfl, trivial⟩)
 ·clear H a
  intro a H
  refine s_move H rfl rfl (lt_ rfl) fun a H => ?_
  obtain ⟨R48, h, h137⟩ := h
  refine g_joinW (n := 61) R48 (fun x49 => [(39, (.bool x49)), (0, d1.v), (2, (.pointer (some (blk b3)))), (7, (.pointer (some (blk b13))))]) (.succ (.succ (.succ (.succ (.zero _))))) ?_ ?_
  ·intro h47
   clear h137
   rcases Bool.eq_false_or_eq_true ((decide (E43 ≠ 0)) || (decide (B11 ≠ 72))) with h46 | h46
   ·replace H := H.ch (t := 35) (b := true) rfl h46
    replace h := h.2 h46
    iterate 3 refine s_skip H (wantN H rfl rfl rfl) rfl (lt_ rfl) fun a H => ?_
    refine s_pickT H rfl rfl rfl (lt_ rfl) fun a H => ?_
    exact h47 _ _ _ h (H.weaken ⟨rfl, rfl, rfl, rfl, trivial⟩)
   ·replace H := H.ch (t := 35) (b := false) rfl h46
    replace h := h.1 h46
    obtain ⟨N51, hc52, K53, hc54, D55, hc56, S57, hc58, h⟩ := h
    refine s_loadN (l := [(.i N51), (.i K53), (.i D55), (.i S57)]) H (wantG H rfl rfl) rfl agg_36 rfl ⟨hc52, hc54, hc56, hc58, trivial⟩ (lt_ rfl) fun a H => s_call H (wantG H rfl rfl) body_44 (H.args (vs := [(.agg #[(.i N51), (.i K53), (.i D55), (.i S57)])]) rfl) (lt_ rfl) h ?_ (fun c w' h H => e_panic (P := PP) (fn := Tryz.f28) H h)
    clear H h a
    rintro _ w59 a ⟨C60, rfl, h⟩ H
    refine s_bin H (wantG H rfl rfl) rfl rfl r_neq (lt_ rfl) fun a H => s_pickF H rfl rfl rfl (lt_ rfl) fun a H => ?_
    exact h47 _ _ _ h (H.weaken ⟨rfl, rfl, rfl, rfl, trivial⟩)
  ·clear H a h
   intro a x49 w50 h H
   replace h := h137 x49 w50 h
   clear h137
   refine c_nil <| hK41 _ _ <| c_cond H rfl (fun h65 => ?_) (fun h65 => ?_)
   ·replace h := h.1 h65
    refine c_seq fun K66 hK66 => c_reg <| s_build H rfl (by rw [H.parts (vs := []) rfl]; exact bd_36 w50) (lt_ rfl) fun a H => s_stoN (l := [(.i 0), (.i 0), (.i 0), (.i 0)]) H rfl rfl rfl rfl agg_36 rfl rfl h ?_
    clear h H
    intro w67 h H
    refine s_assign H rfl rfl (lt_ rfl) fun a H => s_assign H rfl rfl (lt_ rfl) fun a H => c_nil <| hK66 _ _ <| c_ret ?_
    obtain ⟨N68, hc69, K70, hc71, D72, hc73, S74, hc75, h⟩ := h
    exact e_ret3 H rfl ⟨_, rfl, run_loadN (l := [(.i N68), (.i K70), (.i D72), (.i S74)]) agg_36 rfl ⟨hc69, hc71, hc73, hc75, trivial⟩⟩ rfl rfl h
   ·replace h := h.2 h65
    refine c_skip <| hK40 _ _ <| c_seq fun K76 hK76 => c_reg ?_
    obtain ⟨N77, hc78, K79, hc80, D81, hc82, S83, hc84, h⟩ := h
    refine s_loadN (l := [(.i N77), (.i K79), (.i D81), (.i S83)]) H rfl rfl agg_36 rfl ⟨hc78, hc80, hc82, hc84, trivial⟩ (lt_ rfl) fun a H => s_call H rfl body_45 (H.args (vs := [(.agg #[(.i N77), (.i K79), (.i D81), (.i S83)])]) rfl) (lt_ rfl) h ?_ (fun c w' h H => e_panic (P := PP) (fn := Tryz.f28) H h)
    clear H h a
    rintro _ w85 a ⟨h86, rfl, h⟩ H
    refine s_assign H rfl rfl (lt_ rfl) fun a H => c_nil <| hK76 _ _ <| c_seq fun K87 hK87 => c_seq fun K88 hK88 => c_reg <| s_move H rfl rfl (lt_ rfl) fun a H => s_blt H rfl (H.args (vs := [d1.v]) rfl) (lt_ rfl) (fun cs => b_lenS (z := d1) sl_22) fun a H => s_move H rfl rfl (lt_ rfl) fun a H => s_blt H rfl (H.args (vs := [h86.v]) rfl) (lt_ rfl) (fun cs => b_lenS (z := h86) sl_22) fun a H => s_bin H rfl rfl rfl r_lss (lt_ rfl) fun a H => s_move H rfl rfl (lt_ rfl) fun a H => ?_
    obtain ⟨R91, h, h132⟩ := h
    refine g_joinW (n := 61) R91 (fun x92 => [(56, (.bool x92)), (2, (.pointer (some (blk b3)))), (7, (.pointer (some (blk b13)))), (8, h86.v)]) (.succ (.succ (.succ (.succ (.succ (.succ (.succ (.succ (.zero _))))))))) ?_ ?_
    ·intro h90
     clear h132
     rcases Bool.eq_false_or_eq_true (decide ((d1.l : Int) < (h86.l : Int))) with h89 | h89
     ·replace H := H.ch (t := 48) (b := true) rfl h89
      replace h := h.2 h89
      iterate 7 refine s_skip H (wantN H rfl rfl rfl) rfl (lt_ rfl) fun a H => ?_
      refine s_pickT H rfl rfl rfl (lt_ rfl) fun a H => ?_
      exact h90 _ _ _ h (H.weaken ⟨rfl, rfl, rfl, rfl, trivial⟩)
     ·replace H := H.ch (t := 48) (b := false) rfl h89
      replace h := h.1 h89
      refine s_move H (wantG H rfl rfl) rfl (lt_ rfl) fun a H => s_move H (wantG H rfl rfl) rfl (lt_ rfl) fun a H => s_blt H (wantG H rfl rfl) (H.args (vs := [h86.v]) rfl) (lt_ rfl) (fun cs => b_lenS (z := h86) sl_22) fun a H => ?_
      obtain ⟨h94, h95, h96, h⟩ := h
      refine s_slice (v := (Slc.v (d1.cut 1 (Int.toNat (0)) (Int.toNat ((h86.l : Int)))))) H (wantG H rfl rfl) rfl ⟨rfl, rfl⟩ ⟨rfl, rfl⟩ ⟨rfl, rfl⟩ (r_sliceSlc (lo := none) (hi := (some (.i64, (h86.l : Int)))) slc_22 rfl rfl h94 h95 h96) (lt_ rfl) fun a H => s_move H (wantG H rfl rfl) rfl (lt_ rfl) fun a H => ?_
      refine s_call H (wantG H rfl rfl) body_46 (H.args (vs := [(Slc.v (d1.cut 1 (Int.toNat (0)) (Int.toNat ((h86.l : Int))))), h86.v]) rfl) (lt_ rfl) h ?_ (fun c w' h H => e_panic (P := PP) (fn := Tryz.f28) H h)
      clear H h a
      rintro _ w97 a ⟨e98, rfl, h⟩ H
      refine s_un H (wantG H rfl rfl) rfl r_not (lt_ rfl) fun a H => s_pickF H rfl rfl rfl (lt_ rfl) fun a H => ?_
      exact h90 _ _ _ h (H.weaken ⟨rfl, rfl, rfl, rfl, trivial⟩)
    ·clear H a h
     intro a x92 w93 h H
     replace h := h132 x92 w93 h
     clear h132
     refine c_nil <| hK88 _ _ <| c_cond H rfl (fun h103 => ?_) (fun h103 => ?_)
     ·replace h := h.1 h103
      refine c_seq fun K104 hK104 => c_reg <| s_build H rfl (by rw [H.parts (vs := []) rfl]; exact bd_36 w93) (lt_ rfl) fun a H => s_stoN (l := [(.i 0), (.i 0), (.i 0), (.i 0)]) H rfl rfl rfl rfl agg_36 rfl rfl h ?_
      clear h H
      intro w105 h H
      refine s_assign H rfl rfl (lt_ rfl) fun a H => s_assign H rfl rfl (lt_ rfl) fun a H => c_nil <| hK104 _ _ <| c_ret ?_
      obtain ⟨N106, hc107, K108, hc109, D110, hc111, S112, hc113, h⟩ := h
      exact e_ret3 H rfl ⟨_, rfl, run_loadN (l := [(.i N106), (.i K108), (.i D110), (.i S112)]) agg_36 rfl ⟨hc107, hc109, hc111, hc113, trivial⟩⟩ rfl rfl h
     ·replace h := h.2 h103
      refine c_skip <| hK87 _ _ <| c_seq fun K114 hK114 => c_reg ?_
      obtain ⟨N115, hc116, K117, hc118, D119, hc120, S121, hc122, h⟩ := h
      refine s_loadN (l := [(.i N115), (.i K117), (.i D119), (.i S121)]) H rfl rfl agg_36 rfl ⟨hc116, hc118, hc120, hc122, trivial⟩ (lt_ rfl) fun a H => s_move H rfl rfl (lt_ rfl) fun a H => s_blt H rfl (H.args (vs := [h86.v]) rfl) (lt_ rfl) (fun cs => b_lenS (z := h86) sl_22) fun a H => s_stoN (l := [(.i N115), (.i K117), (.i D119), (.i S121)]) H rfl rfl rfl rfl agg_36 rfl rfl h ?_
      clear h H
      intro w123 h H
      refine s_assign H rfl rfl (lt_ rfl) fun a H => s_assign H rfl rfl (lt_ rfl) fun a H => c_nil <| hK114 _ _ <| c_ret ?_
      obtain ⟨N124, hc125, K126, hc127, D128, hc129, S130, hc131, h⟩ := h
      exact e_ret3 H rfl ⟨_, rfl, run_loadN (l := [(.i N124), (.i K126), (.i D128), (.i S130)]) agg_36 rfl ⟨hc125, hc127, hc129, hc131, trivial⟩⟩ rfl rfl h

theorem sim_sherdref11_next (c1 l2 : Slc) (w : World) (Q : Ending → World → Prop) (h : vc_sherdref11_next c1 l2 w Q) : Calls PP F_sherdref11_next #[c1.v, l2.v] w Q := by
 unfold vc_sherdref11_next at h
 refine enter (n := 82) Tryz.func29 rfl rfl (Nat.le_of_ble_eq_true rfl) fun a H => c_seq fun K3 hK3 => c_reg ?_
 replace h := h.get
 obtain ⟨b4, w5, n6, h⟩ := h
 refine s_alloc H rfl zero_28 (lt_ rfl) ?_
 rw [← n6.at_]
 clear H a
 intro a H
 refine n6.go <| s_assign H rfl rfl (lt_ rfl) fun a H => s_assign H rfl rfl (lt_ rfl) fun a H => c_nil <| hK3 _ _ <| c_seq fun K7 hK7 => c_seq fun K8 hK8 => c_reg <| s_move H rfl rfl (lt_ rfl) fun a H => ?_
 obtain ⟨a9, h10, h11, h12, h⟩ := h
 refine s_idxS (s := l2) H rfl rfl rfl slc_22 h10 h11 h12 (lt_ rfl) fun a H => ?_
 obtain ⟨l13, hc14, h⟩ := h
 refine s_load (v := (.int .u8 l13)) H rfl rfl one_5 hc14 (lt_ rfl) fun a H => s_bin H rfl rfl rfl r_neq (lt_ rfl) fun a H => c_nil <| hK8 _ _ <| c_cond H rfl (fun h15 => ?_) (fun h15 => ?_)
 ·replace h := h.1 h15
  refine c_seq fun K16 hK16 => c_reg <| s_build H rfl (by rw [H.parts (vs := []) rfl]; exact bd_28 w5) (lt_ rfl) fun a H => s_stoN (l := [(.i 0), (.string ⟨#[]⟩), (.i 0), (.i 0), (.bool false), (.bool false), Slc.nil.v]) H rfl rfl rfl rfl agg_28 rfl rfl h ?_
  clear h H
  intro w17 h H
  refine s_assign H rfl rfl (lt_ rfl) fun a H => s_assign H rfl rfl (lt_ rfl) fun a H => c_nil <| hK16 _ _ <| c_ret ?_
  obtain ⟨K18, hc19, K20, hc21, C22, hc23, C24, hc25, F26, hc27, H28, hc29, D30, hc31, h⟩ := h
  exact e_ret3 H rfl ⟨_, rfl, run_loadN (l := [(.i K18), (.string K20), (.i C22), (.i C24), (.bool F26), (.bool H28), D30.v]) agg_28 rfl ⟨hc19, hc21, hc23, hc25, hc27, hc29, hc31, trivial⟩⟩ rfl rfl h
 ·replace h := h.2 h15
  refine c_skip <| hK7 _ _ <| c_seq fun K32 hK32 => c_reg <| s_move H rfl rfl (lt_ rfl) fun a H => ?_
  obtain ⟨h33, h34, h35, h⟩ := h
  refine s_slice (v := (Slc.v (l2.cut 1 (Int.toNat (1)) (Int.toNat ((l2.l : Int)))))) H rfl rfl ⟨rfl, rfl⟩ ⟨rfl, rfl⟩ ⟨rfl, rfl⟩ (r_sliceSlc (lo := (some (.i64, 1))) (hi := none) slc_22 rfl rfl h33 h34 h35) (lt_ rfl) fun a H => s_call H rfl body_40 (H.args (vs := [(Slc.v (l2.cut 1 (Int.toNat (1)) (Int.toNat ((l2.l : Int)))))]) rfl) (lt_ rfl) h ?_ (fun c w' h H => e_panic (P := PP) (fn := Tryz.f29) H h)
  clear H h a
  rintro _ w36 a ⟨N37, rfl, h⟩ H
  refine s_assign H rfl rfl (lt_ rfl) fun a H => c_nil <| hK32 _ _ <| c_seq fun K38 hK38 => c_reg <| s_move H rfl rfl (lt_ rfl) fun a H => s_call H rfl body_42 (H.args (vs := [(.pointer N37), (.i 9223372036854775807)]) rfl) (lt_ rfl) h ?_ (fun c w' h H => e_panic (P := PP) (fn := Tryz.f29) H h)
  clear H h a
  rintro _ w39 a ⟨U40, rfl, h⟩ H
  refine s_assign H rfl rfl (lt_ rfl) fun a H => c_nil <| hK38 _ _ <| c_seq fun K41 hK41 => c_seq fun K42 hK42 => c_reg <| s_move H rfl rfl (lt_ rfl) fun a H => s_call H rfl body_43 (H.args (vs := [(.pointer N37)]) rfl) (lt_ rfl) h ?_ (fun c w' h H => e_panic (P := PP) (fn := Tryz.f29) H h)
  clear H h a
  rintro _ w43 a ⟨E44, rfl, h⟩ H
  refine s_bin H rfl rfl rfl r_eql (lt_ rfl) fun a H => s_move H rfl rfl (lt_ rfl) fun a H => ?_
  obtain ⟨R47, h, h217⟩ := h
  refine g_joinW (n := 82) R47 (fun x48 => [(34, (.bool x48)), (0, c1.v), (1, l2.v), (4, (.pointer (some (blk b4)))), (7, (.pointer N37)), (8, (.i U40))]) (.succ (.succ (.succ (.succ (.succ (.succ (.succ (.succ (.zero _))))))))) ?_ ?_
  ·intro h46
   clear h217
   rcases Bool.eq_false_or_eq_true (decide (E44 = 31)) with h45 | h45
   ·replace H := H.ch (t := 26) (b := true) rfl h45
    replace h := h.2 h45
    iterate 4 refine s_skip H (wantN H rfl rfl rfl) rfl (lt_ rfl) fun a H => ?_
    refine s_skip H (wantU H rfl rfl) rfl (lt_ rfl) fun a H => s_skip H (wantU H rfl rfl) rfl (lt_ rfl) fun a H => s_skip H (wantN H rfl rfl rfl) rfl (lt_ rfl) fun a H => s_pickT H rfl rfl rfl (lt_ rfl) fun a H => ?_
    exact h46 _ _ _ h (H.weaken ⟨rfl, rfl, rfl, rfl, rfl, rfl, trivial⟩)
   ·replace H := H.ch (t := 26) (b := false) rfl h45
    replace h := h.1 h45
    refine s_move H (wantG H rfl rfl) rfl (lt_ rfl) fun a H => s_call H (wantG H rfl rfl) body_43 (H.args (vs := [(.pointer N37)]) rfl) (lt_ rfl) h ?_ (fun c w' h H => e_panic (P := PP) (fn := Tryz.f29) H h)
    clear H h a
    rintro _ w50 a ⟨E51, rfl, h⟩ H
    refine s_bin H (wantG H rfl rfl) rfl rfl r_eql (lt_ rfl) fun a H => s_move H (wantG H rfl rfl) rfl (lt_ rfl) fun a H => g_join (n := 82) [(33, (.bool ((decide (E51 = 0)) && (decide (66000 < U40))))), (0, c1.v), (1, l2.v), (4, (.pointer (some (blk b4)))), (7, (.pointer N37)), (8, (.i U40)), (26, (.bool false))] (.succ (.succ (.succ (.zero _)))) ?_ ?_
    ·intro h53
     try clear h
     rcases Bool.eq_false_or_eq_true (decide (E51 = 0)) with h52 | h52
     ·replace H := H.ch (t := 30) (b := true) rfl h52
      refine s_move H (wantG H rfl rfl) rfl (lt_ rfl) fun a H => s_bin H (wantG H rfl rfl) rfl rfl r_gtr (lt_ rfl) fun a H => s_pickT H (wantG H rfl rfl) rfl rfl (lt_ rfl) fun a H => ?_
      exact h53 _ (H.weaken ⟨by rw [h52]; rfl, rfl, rfl, rfl, rfl, rfl, rfl, trivial⟩)
     ·replace H := H.ch (t := 30) (b := false) rfl h52
      refine s_skip H (wantN H rfl rfl rfl) rfl (lt_ rfl) fun a H => s_skip H (wantN H rfl rfl rfl) rfl (lt_ rfl) fun a H => s_pickF H (wantG H rfl rfl) rfl rfl (lt_ rfl) fun a H => ?_
      exact h53 _ (H.weaken ⟨by rw [h52]; rfl, rfl, rfl, rfl, rfl, rfl, rfl, trivial⟩)
    ·clear H a
     intro a H
     refine s_pickF H rfl rfl rfl (lt_ rfl) fun a H => ?_
     exact h46 _ _ _ h (H.weaken ⟨rfl, rfl, rfl, rfl, rfl, rfl, trivial⟩)
  ·clear H a h
   intro a x48 w49 h H
   replace h := h217 x48 w49 h
   clear h217
   refine c_nil <| hK42 _ _ <| c_cond H rfl (fun h58 => ?_) (fun h58 => ?_)
   ·replace h := h.1 h58
    refine c_seq fun K59 hK59 => c_reg <| s_build H rfl (by rw [H.parts (vs := []) rfl]; exact bd_28 w49) (lt_ rfl) fun a H => s_stoN (l := [(.i 0), (.string ⟨#[]⟩), (.i 0), (.i 0), (.bool false), (.bool false), Slc.nil.v]) H rfl rfl rfl rfl agg_28 rfl rfl h ?_
    clear h H
    intro w60 h H
    refine s_assign H rfl rfl (lt_ rfl) fun a H => s_assign H rfl rfl (lt_ rfl) fun a H => c_nil <| hK59 _ _ <| c_ret ?_
    obtain ⟨K61, hc62, K63, hc64, C65, hc66, C67, hc68, F69, hc70, H71, hc72, D73, hc74, h⟩ := h
    exact e_ret3 H rfl ⟨_, rfl, run_loadN (l := [(.i K61), (.string K63), (.i C65), (.i C67), (.bool F69), (.bool H71), D73.v]) agg_28 rfl ⟨hc62, hc64, hc66, hc68, hc70, hc72, hc74, trivial⟩⟩ rfl rfl h
   ·replace h := h.2 h58
    refine c_skip <| hK41 _ _ <| c_seq fun K75 hK75 => c_reg <| s_move H rfl rfl (lt_ rfl) fun a H => s_call H rfl body_47 (H.args (vs := [(.pointer N37)]) rfl) (lt_ rfl) h ?_ (fun c w' h H => e_panic (P := PP) (fn := Tryz.f29) H h)
    clear H h a
    rintro _ w76 a ⟨A77, rfl, h⟩ H
    refine s_bin H rfl rfl rfl r_add (lt_ rfl) fun a H => s_assign H rfl rfl (lt_ rfl) fun a H => c_nil <| hK75 _ _ <| c_seq fun K78 hK78 => c_seq fun K79 hK79 => c_reg <| s_move H rfl rfl (lt_ rfl) fun a H => s_call H rfl body_43 (H.args (vs := [(.pointer N37)]) rfl) (lt_ rfl) h ?_ (fun c w' h H => e_panic (P := PP) (fn := Tryz.f29) H h)
    clear H h a
    rintro _ w80 a ⟨E81, rfl, h⟩ H
    refine s_bin H rfl rfl rfl r_neq (lt_ rfl) fun a H => s_move H rfl rfl (lt_ rfl) fun a H => g_join (n := 82) [(50, (.bool ((decide (E81 ≠ 0)) || (decide ((l2.l : Int) < (wr .i64 ((wr .i64 ((wr .i64 (1 + A77)) + U40)) + 4))))))), (0, c1.v), (1, l2.v), (4, (.pointer (some (blk b4)))), (8, (.i U40)), (9, (.i (wr .i64 (1 + A77))))] (.succ (.succ (.succ (.succ (.succ (.succ (.succ (.succ (.zero _))))))))) ?_ ?_
    ·intro h83
     try clear h
     rcases Bool.eq_false_or_eq_true (decide (E81 ≠ 0)) with h82 | h82
     ·replace H := H.ch (t := 42) (b := true) rfl h82
      iterate 7 refine s_skip H (wantN H rfl rfl rfl) rfl (lt_ rfl) fun a H => ?_
      refine s_pickT H rfl rfl rfl (lt_ rfl) fun a H => ?_
      exact h83 _ (H.weaken ⟨by rw [h82]; rfl, rfl, rfl, rfl, rfl, rfl, trivial⟩)
     ·replace H := H.ch (t := 42) (b := false) rfl h82
      refine s_move H (wantG H rfl rfl) rfl (lt_ rfl) fun a H => s_blt H (wantG H rfl rfl) (H.args (vs := [l2.v]) rfl) (lt_ rfl) (fun cs => b_lenS (z := l2) sl_22) fun a H => s_move H (wantG H rfl rfl) rfl (lt_ rfl) fun a H => s_move H (wantG H rfl rfl) rfl (lt_ rfl) fun a H => s_bin H (wantG H rfl rfl) rfl rfl r_add (lt_ rfl) fun a H => s_bin H (wantG H rfl rfl) rfl rfl r_add (lt_ rfl) fun a H => s_bin H (wantG H rfl rfl) rfl rfl r_lss (lt_ rfl) fun a H => ?_
      refine s_pickF H rfl rfl rfl (lt_ rfl) fun a H => ?_
      exact h83 _ (H.weaken ⟨by rw [h82]; rfl, rfl, rfl, rfl, rfl, rfl, trivial⟩)
    ·clear H a
     intro a H
     refine c_nil <| hK79 _ _ <| c_cond H rfl (fun h84 => ?_) (fun h84 => ?_)
     ·replace h := h.1 h84
      refine c_seq fun K85 hK85 => c_reg <| s_build H rfl (by rw [H.parts (vs := []) rfl]; exact bd_28 w80) (lt_ rfl) fun a H => s_stoN (l := [(.i 0), (.string ⟨#[]⟩), (.i 0), (.i 0), (.bool false), (.bool false), Slc.nil.v]) H rfl rfl rfl rfl agg_28 rfl rfl h ?_
      clear h H
      intro w86 h H
      refine s_assign H rfl rfl (lt_ rfl) fun a H => s_assign H rfl rfl (lt_ rfl) fun a H => c_nil <| hK85 _ _ <| c_ret ?_
      obtain ⟨K87, hc88, K89, hc90, C91, hc92, C93, hc94, F95, hc96, H97, hc98, D99, hc100, h⟩ := h
      exact e_ret3 H rfl ⟨_, rfl, run_loadN (l := [(.i K87), (.string K89), (.i C91), (.i C93), (.bool F95), (.bool H97), D99.v]) agg_28 rfl ⟨hc88, hc90, hc92, hc94, hc96, hc98, hc100, trivial⟩⟩ rfl rfl h
     ·replace h := h.2 h84
      refine c_skip <| hK78 _ _ <| c_seq fun K101 hK101 => c_reg <| s_move H rfl rfl (lt_ rfl) fun a H => s_move H rfl rfl (lt_ rfl) fun a H => s_bin H rfl rfl rfl r_add (lt_ rfl) fun a H => s_assign H rfl rfl (lt_ rfl) fun a H => c_nil <| hK101 _ _ <| c_seq fun K102 hK102 => c_seq fun K103 hK103 => ?_
      replace H := H.weaken (L' := [(0, c1.v), (1, l2.v), (4, (.pointer (some (blk b4)))), (9, (.i (wr .i64 (1 + A77)))), (10, (.i (wr .i64 ((wr .i64 (1 + A77)) + U40))))]) ⟨rfl, rfl, rfl, rfl, rfl, trivial⟩
      obtain ⟨h104, h105, h106, h107, h108, h109, h⟩ := h
      refine c_any (V := [(0, c1.v), (1, l2.v), (2, (.i (wr .i64 ((wr .i64 (1 + A77)) + U40)))), (3, (Slc.v (l2.cut 1 (Int.toNat (0)) (Int.toNat (wr .i64 ((wr .i64 (1 + A77)) + U40)))))), (5, l2.v), (6, (.i (wr .i64 ((wr .i64 (1 + A77)) + U40)))), (7, (.i (wr .i64 ((wr .i64 (1 + A77)) + U40)))), (8, (.i (wr .i64 ((wr .i64 ((wr .i64 (1 + A77)) + U40)) + 4)))), (9, (Slc.v (l2.cut 1 (Int.toNat (wr .i64 ((wr .i64 (1 + A77)) + U40))) (Int.toNat (wr .i64 ((wr .i64 ((wr .i64 (1 + A77)) + U40)) + 4))))))]) (⟨[[], [], [], [1, 2], [0, 3], [], [], [], [7], [5, 6, 8], [4, 9], [10]], [some 55, some 56, some 57, some 58, some 59, some 60, some 61, some 62, some 63, some 64, some 65, some 66], [4, 10], [0, 0, 0, 0, 0, 0, 0, 0, 0, 0, 1, 2], [0, 0, 0, 0, 1, 1, 1, 1, 1, 1, 2, 2]⟩ : Rg) [(0, c1.v), (1, l2.v), (4, (.pointer (some (blk b4)))), (9, (.i (wr .i64 (1 + A77)))), (10, (.i (wr .i64 ((wr .i64 (1 + A77)) + U40))))] mixed (by kernel_rfl) H ?_
      refine Stg.eff [0, 1, 2, 3, 5, 6, 7, 8, 9] (by kernel_rfl) rfl (.cons ?_ (.cons ?_ (.cons ?_ (.cons ?_ (.cons ?_ (.cons ?_ (.cons ?_ (.cons ?_ (.cons ?_ .nil))))))))) ?_
      ·refine Ans.mk rfl rfl fun a H => ?_
       replace H := H.weaken (L' := [(0, c1.v)]) ⟨rfl, trivial⟩
       refine s_move H rfl rfl (lt_ rfl) fun a H => c_nil ⟨rfl, rfl, H.weaken (L' := [(55, c1.v)]) ⟨rfl, trivial⟩⟩
      ·refine Ans.mk rfl rfl fun a H => ?_
       replace H := H.weaken (L' := [(1, l2.v)]) ⟨rfl, trivial⟩
       refine s_move H rfl rfl (lt_ rfl) fun a H => c_nil ⟨rfl, rfl, H.weaken (L' := [(56, l2.v)]) ⟨rfl, trivial⟩⟩
      ·refine Ans.mk rfl rfl fun a H => ?_
       replace H := H.weaken (L' := [(10, (.i (wr .i64 ((wr .i64 (1 + A77)) + U40))))]) ⟨rfl, trivial⟩
       refine s_move H rfl rfl (lt_ rfl) fun a H => c_nil ⟨rfl, rfl, H.weaken (L' := [(57, (.i (wr .i64 ((wr .i64 (1 + A77)) + U40))))]) ⟨rfl, trivial⟩⟩
      ·refine Ans.mk rfl rfl fun a H => ?_
       replace H := H.weaken (L' := [(56, l2.v), (57, (.i (wr .i64 ((wr .i64 (1 + A77)) + U40))))]) ⟨rfl, rfl, trivial⟩
       refine s_slice (v := (Slc.v (l2.cut 1 (Int.toNat (0)) (Int.toNat (wr .i64 ((wr .i64 (1 + A77)) + U40)))))) H rfl rfl ⟨rfl, rfl⟩ ⟨rfl, rfl⟩ ⟨rfl, rfl⟩ (r_sliceSlc (lo := none) (hi := (some (.i64, wr .i64 ((wr .i64 (1 + A77)) + U40)))) slc_22 rfl rfl h104 h105 h106) (lt_ rfl) fun a H => c_nil ⟨rfl, rfl, H.weaken (L' := [(58, (Slc.v (l2.cut 1 (Int.toNat (0)) (Int.toNat (wr .i64 ((wr .i64 (1 + A77)) + U40))))))]) ⟨rfl, trivial⟩⟩
      ·refine Ans.mk rfl rfl fun a H => ?_
       replace H := H.weaken (L' := [(1, l2.v)]) ⟨rfl, trivial⟩
       refine s_move H rfl rfl (lt_ rfl) fun a H => c_nil ⟨rfl, rfl, H.weaken (L' := [(60, l2.v)]) ⟨rfl, trivial⟩⟩
      ·refine Ans.mk rfl rfl fun a H => ?_
       replace H := H.weaken (L' := [(10, (.i (wr .i64 ((wr .i64 (1 + A77)) + U40))))]) ⟨rfl, trivial⟩
       refine s_move H rfl rfl (lt_ rfl) fun a H => c_nil ⟨rfl, rfl, H.weaken (L' := [(61, (.i (wr .i64 ((wr .i64 (1 + A77)) + U40))))]) ⟨rfl, trivial⟩⟩
      ·refine Ans.mk rfl rfl fun a H => ?_
       replace H := H.weaken (L' := [(10, (.i (wr .i64 ((wr .i64 (1 + A77)) + U40))))]) ⟨rfl, trivial⟩
       refine s_move H rfl rfl (lt_ rfl) fun a H => c_nil ⟨rfl, rfl, H.weaken (L' := [(62, (.i (wr .i64 ((wr .i64 (1 + A77)) + U40))))]) ⟨rfl, trivial⟩⟩
      ·refine Ans.mk rfl rfl fun a H => ?_
       replace H := H.weaken (L' := [(62, (.i (wr .i64 ((wr .i64 (1 + A77)) + U40))))]) ⟨rfl, trivial⟩
       refine s_bin H rfl rfl rfl r_add (lt_ rfl) fun a H => c_nil ⟨rfl, rfl, H.weaken (L' := [(63, (.i (wr .i64 ((wr .i64 ((wr .i64 (1 + A77)) + U40)) + 4))))]) ⟨rfl, trivial⟩⟩
      ·refine Ans.mk rfl rfl fun a H => ?_
       replace H := H.weaken (L' := [(60, l2.v), (61, (.i (wr .i64 ((wr .i64 (1 + A77)) + U40)))), (63, (.i (wr .i64 ((wr .i64 ((wr .i64 (1 + A77)) + U40)) + 4))))]) ⟨rfl, rfl, rfl, trivial⟩
       refine s_slice (v := (Slc.v (l2.cut 1 (Int.toNat (wr .i64 ((wr .i64 (1 + A77)) + U40))) (Int.toNat (wr .i64 ((wr .i64 ((wr .i64 (1 + A77)) + U40)) + 4)))))) H rfl rfl ⟨rfl, rfl⟩ ⟨rfl, rfl⟩ ⟨rfl, rfl⟩ (r_sliceSlc (lo := (some (.i64, wr .i64 ((wr .i64 (1 + A77)) + U40)))) (hi := (some (.i64, wr .i64 ((wr .i64 ((wr .i64 (1 + A77)) + U40)) + 4)))) slc_22 rfl rfl h107 h108 h109) (lt_ rfl) fun a H => ?_
       refine c_nil ⟨rfl, rfl, H.weaken (L' := [(64, (Slc.v (l2.cut 1 (Int.toNat (wr .i64 ((wr .i64 (1 + A77)) + U40))) (Int.toNat (wr .i64 ((wr .i64 ((wr .i64 (1 + A77)) + U40)) + 4))))))]) ⟨rfl, trivial⟩⟩
      ·intro a H
       replace H := H.weaken (L' := [(55, c1.v), (58, (Slc.v (l2.cut 1 (Int.toNat (0)) (Int.toNat (wr .i64 ((wr .i64 (1 + A77)) + U40))))))]) ⟨rfl, rfl, trivial⟩
       refine s_call H rfl body_48 (H.args (vs := [c1.v, (Slc.v (l2.cut 1 (Int.toNat (0)) (Int.toNat (wr .i64 ((wr .i64 (1 + A77)) + U40)))))]) rfl) (lt_ rfl) h ?_ (fun c w' h H => e_panic (P := PP) (fn := Tryz.f29) H h)
       clear H h a
       rintro _ w110 a ⟨S111, rfl, h⟩ H
       refine c_nil ?_
       refine effQ.ok (v := S111.v) (H.weaken (L' := [(59, S111.v)]) ⟨rfl, trivial⟩) ⟨[(0, c1.v), (1, l2.v), (2, (.i (wr .i64 ((wr .i64 (1 + A77)) + U40)))), (3, (Slc.v (l2.cut 1 (Int.toNat (0)) (Int.toNat (wr .i64 ((wr .i64 (1 + A77)) + U40)))))), (5, l2.v), (6, (.i (wr .i64 ((wr .i64 (1 + A77)) + U40)))), (7, (.i (wr .i64 ((wr .i64 (1 + A77)) + U40)))), (8, (.i (wr .i64 ((wr .i64 ((wr .i64 (1 + A77)) + U40)) + 4)))), (9, (Slc.v (l2.cut 1 (Int.toNat (wr .i64 ((wr .i64 (1 + A77)) + U40))) (Int.toNat (wr .i64 ((wr .i64 ((wr .i64 (1 + A77)) + U40)) + 4)))))), (4, S111.v)], ⟨rfl, rfl, rfl, rfl, rfl, rfl, rfl, rfl, rfl, rfl, trivial⟩, ?_⟩
       refine Stg.eff [5, 6, 7, 8, 9] (by kernel_rfl) rfl (.cons ?_ (.cons ?_ (.cons ?_ (.cons ?_ (.cons ?_ .nil))))) ?_
       ·refine Ans.mk rfl rfl fun a H => ?_
        replace H := H.weaken (L' := [(1, l2.v)]) ⟨rfl, trivial⟩
        refine s_move H rfl rfl (lt_ rfl) fun a H => c_nil ⟨rfl, rfl, H.weaken (L' := [(60, l2.v)]) ⟨rfl, trivial⟩⟩
       ·refine Ans.mk rfl rfl fun a H => ?_
        replace H := H.weaken (L' := [(10, (.i (wr .i64 ((wr .i64 (1 + A77)) + U40))))]) ⟨rfl, trivial⟩
        refine s_move H rfl rfl (lt_ rfl) fun a H => c_nil ⟨rfl, rfl, H.weaken (L' := [(61, (.i (wr .i64 ((wr .i64 (1 + A77)) + U40))))]) ⟨rfl, trivial⟩⟩
       ·refine Ans.mk rfl rfl fun a H => ?_
        replace H := H.weaken (L' := [(10, (.i (wr .i64 ((wr .i64 (1 + A77)) + U40))))]) ⟨rfl, trivial⟩
        refine s_move H rfl rfl (lt_ rfl) fun a H => c_nil ⟨rfl, rfl, H.weaken (L' := [(62, (.i (wr .i64 ((wr .i64 (1 + A77)) + U40))))]) ⟨rfl, trivial⟩⟩
       ·refine Ans.mk rfl rfl fun a H => ?_
        replace H := H.weaken (L' := [(62, (.i (wr .i64 ((wr .i64 (1 + A77)) + U40))))]) ⟨rfl, trivial⟩
        refine s_bin H rfl rfl rfl r_add (lt_ rfl) fun a H => c_nil ⟨rfl, rfl, H.weaken (L' := [(63, (.i (wr .i64 ((wr .i64 ((wr .i64 (1 + A77)) + U40)) + 4))))]) ⟨rfl, trivial⟩⟩
       ·refine Ans.mk rfl rfl fun a H => ?_
        replace H := H.weaken (L' := [(60, l2.v), (61, (.i (wr .i64 ((wr .i64 (1 + A77)) + U40)))), (63, (.i (wr .i64 ((wr .i64 ((wr .i64 (1 + A77)) + U40)) + 4))))]) ⟨rfl, rfl, rfl, trivial⟩
        refine s_slice (v := (Slc.v (l2.cut 1 (Int.toNat (wr .i64 ((wr .i64 (1 + A77)) + U40))) (Int.toNat (wr .i64 ((wr .i64 ((wr .i64 (1 + A77)) + U40)) + 4)))))) H rfl rfl ⟨rfl, rfl⟩ ⟨rfl, rfl⟩ ⟨rfl, rfl⟩ (r_sliceSlc (lo := (some (.i64, wr .i64 ((wr .i64 (1 + A77)) + U40)))) (hi := (some (.i64, wr .i64 ((wr .i64 ((wr .i64 (1 + A77)) + U40)) + 4)))) slc_22 rfl rfl h107 h108 h109) (lt_ rfl) fun a H => ?_
        refine c_nil ⟨rfl, rfl, H.weaken (L' := [(64, (Slc.v (l2.cut 1 (Int.toNat (wr .i64 ((wr .i64 (1 + A77)) + U40))) (Int.toNat (wr .i64 ((wr .i64 ((wr .i64 (1 + A77)) + U40)) + 4))))))]) ⟨rfl, trivial⟩⟩
       ·intro a H
        replace H := H.weaken (L' := [(59, S111.v), (64, (Slc.v (l2.cut 1 (Int.toNat (wr .i64 ((wr .i64 (1 + A77)) + U40))) (Int.toNat (wr .i64 ((wr .i64 ((wr .i64 (1 + A77)) + U40)) + 4))))))]) ⟨rfl, rfl, trivial⟩
        refine s_call H rfl body_46 (H.args (vs := [S111.v, (Slc.v (l2.cut 1 (Int.toNat (wr .i64 ((wr .i64 (1 + A77)) + U40))) (Int.toNat (wr .i64 ((wr .i64 ((wr .i64 (1 + A77)) + U40)) + 4)))))]) rfl) (lt_ rfl) h ?_ (fun c w' h H => e_panic (P := PP) (fn := Tryz.f29) H h)
        clear H h a
        rintro _ w112 a ⟨e113, rfl, h⟩ H
        refine c_nil ?_
        refine effQ.ok (v := (.bool e113)) (H.weaken (L' := [(65, (.bool e113))]) ⟨rfl, trivial⟩) ⟨[(0, c1.v), (1, l2.v), (2, (.i (wr .i64 ((wr .i64 (1 + A77)) + U40)))), (3, (Slc.v (l2.cut 1 (Int.toNat (0)) (Int.toNat (wr .i64 ((wr .i64 (1 + A77)) + U40)))))), (5, l2.v), (6, (.i (wr .i64 ((wr .i64 (1 + A77)) + U40)))), (7, (.i (wr .i64 ((wr .i64 (1 + A77)) + U40)))), (8, (.i (wr .i64 ((wr .i64 ((wr .i64 (1 + A77)) + U40)) + 4)))), (9, (Slc.v (l2.cut 1 (Int.toNat (wr .i64 ((wr .i64 (1 + A77)) + U40))) (Int.toNat (wr .i64 ((wr .i64 ((wr .i64 (1 + A77)) + U40)) + 4)))))), (4, S111.v), (10, (.bool e113)), (11, (.bool (!e113)))], ⟨rfl, rfl, rfl, rfl, rfl, rfl, rfl, rfl, rfl, rfl, rfl, trivial⟩, ?_⟩
        refine Stg.fin [11] (by kernel_rfl) (.cons ?_ .nil) ?_
        ·refine Ans.mk rfl rfl fun a H => ?_
         replace H := H.weaken (L' := [(65, (.bool e113))]) ⟨rfl, trivial⟩
         refine s_un H rfl rfl r_not (lt_ rfl) fun a H => c_nil ⟨rfl, rfl, H.weaken (L' := [(66, (.bool (!e113)))]) ⟨rfl, trivial⟩⟩
        ·intro a H
         replace H := H.weaken (L' := [(1, l2.v), (4, (.pointer (some (blk b4)))), (9, (.i (wr .i64 (1 + A77)))), (10, (.i (wr .i64 ((wr .i64 (1 + A77)) + U40)))), (66, (.bool (!e113)))]) ⟨rfl, rfl, rfl, rfl, rfl, trivial⟩
         refine hK103 _ _ <| c_cond H rfl (fun h114 => ?_) (fun h114 => ?_)
         ·replace h := h.1 h114
          refine c_seq fun K115 hK115 => c_reg <| s_build H rfl (by rw [H.parts (vs := []) rfl]; exact bd_28 w112) (lt_ rfl) fun a H => s_stoN (l := [(.i 0), (.string ⟨#[]⟩), (.i 0), (.i 0), (.bool false), (.bool false), Slc.nil.v]) H rfl rfl rfl rfl agg_28 rfl rfl h ?_
          clear h H
          intro w116 h H
          refine s_assign H rfl rfl (lt_ rfl) fun a H => s_assign H rfl rfl (lt_ rfl) fun a H => c_nil <| hK115 _ _ <| c_ret ?_
          obtain ⟨K117, hc118, K119, hc120, C121, hc122, C123, hc124, F125, hc126, H127, hc128, D129, hc130, h⟩ := h
          exact e_ret3 H rfl ⟨_, rfl, run_loadN (l := [(.i K117), (.string K119), (.i C121), (.i C123), (.bool F125), (.bool H127), D129.v]) agg_28 rfl ⟨hc118, hc120, hc122, hc124, hc126, hc128, hc130, trivial⟩⟩ rfl rfl h
         ·replace h := h.2 h114
          refine c_skip <| hK102 _ _ <| c_seq fun K131 hK131 => c_reg ?_
          iterate 3 refine s_move H rfl rfl (lt_ rfl) fun a H => ?_
          obtain ⟨h132, h133, h134, h⟩ := h
          refine s_slice (v := (Slc.v (l2.cut 1 (Int.toNat (wr .i64 (1 + A77))) (Int.toNat (wr .i64 ((wr .i64 (1 + A77)) + U40)))))) H rfl rfl ⟨rfl, rfl⟩ ⟨rfl, rfl⟩ ⟨rfl, rfl⟩ (r_sliceSlc (lo := (some (.i64, wr .i64 (1 + A77)))) (hi := (some (.i64, wr .i64 ((wr .i64 (1 + A77)) + U40)))) slc_22 rfl rfl h132 h133 h134) (lt_ rfl) fun a H => ?_
          refine s_call H rfl body_49 (H.args (vs := [(Slc.v (l2.cut 1 (Int.toNat (wr .i64 (1 + A77))) (Int.toNat (wr .i64 ((wr .i64 (1 + A77)) + U40)))))]) rfl) (lt_ rfl) h ?_ (fun c w' h H => e_panic (P := PP) (fn := Tryz.f29) H h)
          clear H h a
          rintro _ w135 a ⟨K136, K137, C138, C139, F140, H141, D142, u143, rfl, h⟩ H
          refine s_move H rfl rfl (lt_ rfl) fun a H => s_ext H rfl rfl rfl (lt_ rfl) fun a H => s_ext H rfl rfl rfl (lt_ rfl) fun a H => ?_
          replace h := h.get
          obtain ⟨b144, w145, n146, h⟩ := h
          refine s_alloc H rfl zero_28 (lt_ rfl) ?_
          rw [← n146.at_]
          clear H a
          intro a H
          refine n146.go <| s_stoN (l := [(.i K136), (.string K137), (.i C138), (.i C139), (.bool F140), (.bool H141), D142.v]) H rfl rfl rfl rfl agg_28 rfl rfl h ?_
          clear h H
          intro w147 h H
          refine s_assign H rfl rfl (lt_ rfl) fun a H => c_nil <| hK131 _ _ <| c_seq fun K148 hK148 => c_seq fun K149 hK149 => c_reg <| s_move H rfl rfl (lt_ rfl) fun a H => s_un H rfl rfl r_not (lt_ rfl) fun a H => c_nil <| hK149 _ _ <| c_cond H rfl (fun h150 => ?_) (fun h150 => ?_)
          ·replace h := h.1 h150
           refine c_seq fun K151 hK151 => c_reg <| s_build H rfl (by rw [H.parts (vs := []) rfl]; exact bd_28 w147) (lt_ rfl) fun a H => s_stoN (l := [(.i 0), (.string ⟨#[]⟩), (.i 0), (.i 0), (.bool false), (.bool false), Slc.nil.v]) H rfl rfl rfl rfl agg_28 rfl rfl h ?_
           clear h H
           intro w152 h H
           refine s_assign H rfl rfl (lt_ rfl) fun a H => s_assign H rfl rfl (lt_ rfl) fun a H => c_nil <| hK151 _ _ <| c_ret ?_
           obtain ⟨K153, hc154, K155, hc156, C157, hc158, C159, hc160, F161, hc162, H163, hc164, D165, hc166, h⟩ := h
           exact e_ret3 H rfl ⟨_, rfl, run_loadN (l := [(.i K153), (.string K155), (.i C157), (.i C159), (.bool F161), (.bool H163), D165.v]) agg_28 rfl ⟨hc154, hc156, hc158, hc160, hc162, hc164, hc166, trivial⟩⟩ rfl rfl h
          ·replace h := h.2 h150
           refine c_skip <| hK148 _ _ <| c_seq fun K167 hK167 => c_reg ?_
           obtain ⟨K168, hc169, K170, hc171, C172, hc173, C174, hc175, F176, hc177, H178, hc179, D180, hc181, h⟩ := h
           refine s_loadN (l := [(.i K168), (.string K170), (.i C172), (.i C174), (.bool F176), (.bool H178), D180.v]) H rfl rfl agg_28 rfl ⟨hc169, hc171, hc173, hc175, hc177, hc179, hc181, trivial⟩ (lt_ rfl) fun a H => s_move H rfl rfl (lt_ rfl) fun a H => s_bin H rfl rfl rfl r_add (lt_ rfl) fun a H => s_stoN (l := [(.i K168), (.string K170), (.i C172), (.i C174), (.bool F176), (.bool H178), D180.v]) H rfl rfl rfl rfl agg_28 rfl rfl h ?_
           clear h H
           intro w182 h H
           refine s_assign H rfl rfl (lt_ rfl) fun a H => s_assign H rfl rfl (lt_ rfl) fun a H => c_nil <| hK167 _ _ <| c_ret ?_
           obtain ⟨K183, hc184, K185, hc186, C187, hc188, C189, hc190, F191, hc192, H193, hc194, D195, hc196, h⟩ := h
           exact e_ret3 H rfl ⟨_, rfl, run_loadN (l := [(.i K183), (.string K185), (.i C187), (.i C189), (.bool F191), (.bool H193), D195.v]) agg_28 rfl ⟨hc184, hc186, hc188, hc190, hc192, hc194, hc196, trivial⟩⟩ rfl rfl h
end Go.Proofs.YtnhgnfflihoaiaaGreatDoor
