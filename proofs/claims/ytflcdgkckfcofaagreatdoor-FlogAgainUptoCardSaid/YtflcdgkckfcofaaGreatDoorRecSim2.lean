/-
  The conditions give the machine's calls; printed by vcgen.py.
-/
import Derived.Test.YtflcdgkckfcofaaGreatDoorRecVc
namespace Go.Proofs.YtflcdgkckfcofaaGreatDoor
open Go Go.Vc
set_option maxRecDepth 100000
set_option maxHeartbeats 4000000
theorem sim_sherdlaw14_same (a1 b2 : Slc) (w : World) (Q : Ending → World → Prop) (h : vc_sherdlaw14_same a1 b2 w Q) : Calls PP F_sherdlaw14_same #[a1.v, b2.v] w Q := by
 unfold vc_sherdlaw14_same at h
 refine enter (n := 10) Tryz.func23 rfl rfl (Nat.le_of_ble_eq_true rfl) fun a H => c_seq fun K3 hK3 => c_reg <| s_assign H rfl rfl (lt_ rfl) fun a H => c_nil <| hK3 _ _ <| c_seq fun K4 hK4 => c_reg <| s_move H rfl rfl (lt_ rfl) fun a H => ?_
 obtain ⟨s5, h6, h⟩ := h
 refine s_cv H rfl rfl h6 (lt_ rfl) ?_
 clear H a h6
 intro a H
 refine s_move H rfl rfl (lt_ rfl) fun a H => ?_
 obtain ⟨s7, h8, h⟩ := h
 refine s_cv H rfl rfl h8 (lt_ rfl) ?_
 clear H a h8
 intro a H
 refine s_bin H rfl rfl rfl r_eqlS (lt_ rfl) fun a H => s_assign H rfl rfl (lt_ rfl) fun a H => c_nil <| hK4 _ _ <| c_ret ?_
 exact e_ret1 H rfl rfl h

theorem sim_disk_Disk_Stop (d1 : Option Addr) (n2 : Int) (d3 : Bool) (w : World) (Q : Ending → World → Prop) (h : vc_disk_Disk_Stop d1 n2 d3 w Q) : Calls PP F_disk_Disk_Stop #[(.pointer d1), (.i n2), (.bool d3)] w Q := by
 unfold vc_disk_Disk_Stop at h
 refine enter (n := 22) Tryz.func24 rfl rfl (Nat.le_of_ble_eq_true rfl) fun a H => c_seq fun K4 hK4 => c_reg <| s_assign H rfl rfl (lt_ rfl) fun a H => c_nil <| hK4 _ _ <| c_seq fun K5 hK5 => c_seq fun K6 hK6 => c_reg <| s_move H rfl rfl (lt_ rfl) fun a H => s_bin H rfl rfl rfl (r_eqP0 ptr_33) (lt_ rfl) fun a H => c_nil <| hK6 _ _ <| c_cond H rfl (fun h7 => ?_) (fun h7 => ?_)
 ·replace h := h.1 h7
  refine c_seq fun K8 hK8 => c_reg <| s_assign H rfl rfl (lt_ rfl) fun a H => c_nil <| hK8 _ _ <| c_ret ?_
  exact e_ret1 H rfl rfl h
 ·replace h := h.2 h7
  refine c_skip <| hK5 _ _ <| c_seq fun K9 hK9 => c_seq fun K10 hK10 => c_reg <| s_move H rfl rfl (lt_ rfl) fun a H => ?_
  obtain ⟨a11, h24, h⟩ := h
  revert H
  subst h24
  intro H
  refine s_nil H rfl rfl (lt_ rfl) fun a H => s_fld H rfl rfl fld_81_5 (lt_ rfl) fun a H => ?_
  obtain ⟨l12, hc13, h⟩ := h
  refine s_load (v := (.bool l12)) H rfl rfl one_4 hc13 (lt_ rfl) fun a H => c_nil <| hK10 _ _ <| c_cond H rfl (fun h14 => ?_) (fun h14 => ?_)
  ·replace h := h.1 h14
   refine c_seq fun K15 hK15 => c_reg <| s_assign H rfl rfl (lt_ rfl) fun a H => c_nil <| hK15 _ _ <| c_ret ?_
   exact e_ret1 H rfl rfl h
  ·replace h := h.2 h14
   refine c_skip <| hK9 _ _ <| c_seq fun K16 hK16 => c_reg ?_
   iterate 3 refine s_move H rfl rfl (lt_ rfl) fun a H => ?_
   refine s_blt H rfl (H.args (vs := [(.i 0), (.i n2)]) rfl) (lt_ rfl) (fun cs => b_max) fun a H => s_move H rfl rfl (lt_ rfl) fun a H => s_nil H rfl rfl (lt_ rfl) fun a H => s_fld H rfl rfl fld_81_3 (lt_ rfl) fun a H => ?_
   obtain ⟨h18, h19, h⟩ := h
   refine s_sto (p := a11.add 8) (v := (.i (maxI 0 n2))) H rfl rfl rfl rfl one_3 rfl h18 h19 ?_
   clear H
   intro H
   generalize hww17 : World.setCell w (a11.add 8) (.i (maxI 0 n2)) = w17 at h ⊢
   have w17S : SetAt w (a11.add 8) (.i (maxI 0 n2)) w17 := ⟨hww17.symm⟩
   clear hww17 h18 h19
   refine s_nil H rfl rfl (lt_ rfl) fun a H => s_fld H rfl rfl fld_81_4 (lt_ rfl) fun a H => ?_
   obtain ⟨h21, h22, h⟩ := h
   refine s_sto (p := a11.add 9) (v := (.bool d3)) H rfl rfl rfl rfl one_4 rfl h21 h22 ?_
   clear H
   intro H
   generalize hww20 : World.setCell w17 (a11.add 9) (.bool d3) = w20 at h ⊢
   have w20S : SetAt w17 (a11.add 9) (.bool d3) w20 := ⟨hww20.symm⟩
   clear hww20 h21 h22
   refine c_nil <| hK16 _ _ <| c_seq fun K23 hK23 => c_reg <| s_assign H rfl rfl (lt_ rfl) fun a H => c_nil <| hK23 _ _ <| c_ret ?_
   exact e_ret1 H rfl rfl h

theorem sim_disk_Disk_Crash (d1 : Option Addr) (c2 : Slc) (w : World) (Q : Ending → World → Prop) (h : vc_disk_Disk_Crash d1 c2 w Q) : Calls PP F_disk_Disk_Crash #[(.pointer d1), c2.v] w Q := by
 unfold vc_disk_Disk_Crash at h
 refine enter (n := 111) Tryz.func25 rfl rfl (Nat.le_of_ble_eq_true rfl) fun a H => c_seq fun K3 hK3 => c_reg <| s_assign H rfl rfl (lt_ rfl) fun a H => c_nil <| hK3 _ _ <| c_seq fun K4 hK4 => c_seq fun K5 hK5 => c_reg <| s_move H rfl rfl (lt_ rfl) fun a H => s_bin H rfl rfl rfl (r_eqP0 ptr_33) (lt_ rfl) fun a H => c_nil <| hK5 _ _ <| c_cond H rfl (fun h6 => ?_) (fun h6 => ?_)
 ·replace h := h.1 h6
  refine c_seq fun K7 hK7 => c_reg <| s_assign H rfl rfl (lt_ rfl) fun a H => c_nil <| hK7 _ _ <| c_ret ?_
  exact e_ret1 H rfl rfl h
 ·replace h := h.2 h6
  refine c_skip <| hK4 _ _ <| c_seq fun K8 hK8 => c_reg <| s_move H rfl rfl (lt_ rfl) fun a H => ?_
  obtain ⟨a9, h169, h⟩ := h
  revert H
  subst h169
  intro H
  refine s_nil H rfl rfl (lt_ rfl) fun a H => s_fld H rfl rfl fld_81_5 (lt_ rfl) fun a H => ?_
  obtain ⟨h11, h12, h⟩ := h
  refine s_sto (p := a9.add 10) (v := (.bool true)) H rfl rfl rfl rfl one_4 rfl h11 h12 ?_
  clear H
  intro H
  generalize hww10 : World.setCell w (a9.add 10) (.bool true) = w10 at h ⊢
  have w10S : SetAt w (a9.add 10) (.bool true) w10 := ⟨hww10.symm⟩
  clear hww10 h11 h12
  refine c_nil <| hK8 _ _ <| c_seq fun K13 hK13 => c_reg <| s_move H rfl rfl (lt_ rfl) fun a H => ?_
  replace h := h.get
  obtain ⟨b14, w15, n16, h⟩ := h
  refine s_alloc H rfl zero_24 (lt_ rfl) ?_
  rw [← n16.at_]
  clear H a
  intro a H
  refine n16.go ?_
  obtain ⟨h18, h19, h⟩ := h
  refine s_sto (p := blk b14) (v := c2.v) H rfl rfl rfl rfl one_24 rfl h18 h19 ?_
  clear H
  intro H
  generalize hww17 : World.setCell w15 (blk b14) c2.v = w17 at h ⊢
  have w17S : SetAt w15 (blk b14) c2.v w17 := ⟨hww17.symm⟩
  clear hww17 h18 h19
  refine c_nil <| hK13 _ _ <| c_seq fun K20 hK20 => c_reg <| s_mkf H rfl (H.args (vs := [(.pointer (some (blk b14)))]) rfl) (lt_ rfl) fun a H => s_assign H rfl rfl (lt_ rfl) fun a H => c_nil <| hK20 _ _ <| c_seq fun K21 hK21 => c_reg <| s_move H rfl rfl (lt_ rfl) fun a H => s_nil H rfl rfl (lt_ rfl) fun a H => s_fld H rfl rfl fld_81_1 (lt_ rfl) fun a H => ?_
  obtain ⟨l22, hc23, h⟩ := h
  refine s_load (v := (.i l22)) H rfl rfl one_3 hc23 (lt_ rfl) fun a H => s_build H rfl (by rw [H.parts (vs := [(1, (.i l22))]) rfl]; exact bd_81_ii641 w17 l22) (lt_ rfl) fun a H => ?_
  replace h := h.get
  obtain ⟨b24, w25, n26, h⟩ := h
  refine s_box H rfl rfl (lt_ rfl) ?_
  rw [← n26.at_]
  clear H a
  intro a H
  refine n26.go <| s_assign H rfl rfl (lt_ rfl) fun a H => c_nil <| hK21 _ _ <| c_seq fun K27 hK27 => c_seq fun K28 hK28 => c_reg <| s_move H rfl rfl (lt_ rfl) fun a H => c_nil <| hK28 _ _ <| c_block ?_
  obtain ⟨I31, m32, h167, h168⟩ := h
  refine c_loop (σ := Int) (fun z w => I31 z w) (fun z w => m32 z w) (fun z => [(0, (.pointer (some a9))), (6, (.func (.func F_disk_Disk_Crash_c1) #[] #[(.pointer (some (blk b14)))])), (7, (.pointer (some (blk b24)))), (28, (.i z))]) 0 h167 (H.weaken ⟨rfl, rfl, rfl, rfl, trivial⟩) ?_
  clear H h167
  rintro s29 a w30 h H
  replace h := h168 s29 w30 h
  clear h168
  replace H : Has 111 [] a [(0, (.pointer (some a9))), (6, (.func (.func F_disk_Disk_Crash_c1) #[] #[(.pointer (some (blk b14)))])), (7, (.pointer (some (blk b24)))), (28, (.i s29))] := H
  refine c_seq fun K33 hK33 => c_reg <| s_bin H rfl rfl rfl r_lss (lt_ rfl) fun a H => c_nil <| hK33 _ _ <| c_seq fun K34 hK34 => c_cond H rfl (fun h35 => ?_) (fun h35 => ?_)
  ·replace h := h.1 h35
   refine c_skip <| hK34 _ _ <| c_seq fun K36 hK36 => ?_
   obtain ⟨R37, h, h165⟩ := h
   have h39 : ∀ (a : Act) (w38 : World), R37 w38 → Has 111 [] a [(0, (.pointer (some a9))), (6, (.func (.func F_disk_Disk_Crash_c1) #[] #[(.pointer (some (blk b14)))])), (7, (.pointer (some (blk b24)))), (28, (.i s29))] → K36 a w38 := by
    clear h
    intro a w38 h H
    replace h := h165 w38 h
    refine hK36 _ _ <| c_reg <| s_bin H rfl rfl rfl r_add (lt_ rfl) fun a H => s_move H rfl rfl (lt_ rfl) fun a H => c_nil <| Exists.intro (wr .i64 (s29 + 1)) ⟨h.1, h.2, H.weaken ⟨rfl, rfl, rfl, rfl, trivial⟩⟩
   clear h165
   refine c_block <| c_seq fun K40 hK40 => c_reg <| s_move H rfl rfl (lt_ rfl) fun a H => s_assign H rfl rfl (lt_ rfl) fun a H => c_nil <| hK40 _ _ <| c_seq fun K41 hK41 => c_reg <| s_move H rfl rfl (lt_ rfl) fun a H => s_move H rfl rfl (lt_ rfl) fun a H => s_nil H rfl rfl (lt_ rfl) fun a H => s_fld H rfl rfl fld_81_0 (lt_ rfl) fun a H => ?_
   obtain ⟨h42, h43, h⟩ := h
   refine s_idxA H rfl rfl rfl arr_79 h42 h43 (lt_ rfl) fun a H => s_assign H rfl rfl (lt_ rfl) fun a H => c_nil <| hK41 _ _ <| c_seq fun K44 hK44 => c_reg <| s_move H rfl rfl (lt_ rfl) fun a H => s_nil H rfl rfl (lt_ rfl) fun a H => s_fld H rfl rfl fld_78_0 (lt_ rfl) fun a H => ?_
   obtain ⟨l45, hc46, h⟩ := h
   refine s_load (v := l45.v) H rfl rfl one_51 hc46 (lt_ rfl) fun a H => s_call H rfl body_47 (H.args (vs := [l45.v]) rfl) (lt_ rfl) h ?_ (fun c w' h H => e_panic (P := PP) (fn := Tryz.f25) H h)
   clear H h a
   rintro _ w47 a ⟨C48, rfl, h⟩ H
   refine s_assign H rfl rfl (lt_ rfl) fun a H => c_nil <| hK44 _ _ <| c_seq fun K49 hK49 => c_reg <| s_move H rfl rfl (lt_ rfl) fun a H => s_move H rfl rfl (lt_ rfl) fun a H => s_nil H rfl rfl (lt_ rfl) fun a H => s_fld H rfl rfl fld_78_2 (lt_ rfl) fun a H => ?_
   obtain ⟨l50, hc51, h⟩ := h
   refine s_load (v := l50.v) H rfl rfl one_76 hc51 (lt_ rfl) fun a H => s_blt H rfl (H.args (vs := [l50.v]) rfl) (lt_ rfl) (fun cs => b_lenS (z := l50) sl_76) fun a H => s_bin H rfl rfl rfl r_add (lt_ rfl) fun a H => s_callV H rfl rfl (H.args (vs := [(.i (wr .i64 ((l50.l : Int) + 1)))]) rfl) (lt_ rfl) ⟨_, _, rfl, body_48, h⟩ ?_ (fun c w' h H => e_panic (P := PP) (fn := Tryz.f25) H h)
   clear H h a
   rintro _ w52 a ⟨r53, rfl, h⟩ H
   refine s_assign H rfl rfl (lt_ rfl) fun a H => c_nil <| hK49 _ _ <| c_seq fun K54 hK54 => c_seq fun K55 hK55 => c_reg <| s_move H rfl rfl (lt_ rfl) fun a H => s_nil H rfl rfl (lt_ rfl) fun a H => s_fld H rfl rfl fld_78_2 (lt_ rfl) fun a H => ?_
   obtain ⟨l56, hc57, h⟩ := h
   refine s_load (v := l56.v) H rfl rfl one_76 hc57 (lt_ rfl) fun a H => s_move H rfl rfl (lt_ rfl) fun a H => ?_
   obtain ⟨h58, h59, h60, h⟩ := h
   refine s_slice (v := (Slc.v (l56.cut 2 (Int.toNat (0)) (Int.toNat (r53))))) H rfl rfl ⟨rfl, rfl⟩ ⟨rfl, rfl⟩ ⟨rfl, rfl⟩ (r_sliceSlc (lo := none) (hi := (some (.i64, r53))) slc_76 rfl rfl h58 h59 h60) (lt_ rfl) fun a H => s_blt H rfl (H.args (vs := [(Slc.v (l56.cut 2 (Int.toNat (0)) (Int.toNat (r53))))]) rfl) (lt_ rfl) (fun cs => b_lenS (z := l56.cut 2 (Int.toNat (0)) (Int.toNat (r53))) sl_76) fun a H => s_move H rfl rfl (lt_ rfl) fun a H => c_nil <| hK55 _ _ <| c_block ?_
   obtain ⟨I64, m65, h156, h157⟩ := h
   refine c_loop (σ := Slc × Int) (fun z w => I64 z.1 z.2 w) (fun z w => m65 z.1 z.2 w) (fun z => [(0, (.pointer (some a9))), (6, (.func (.func F_disk_Disk_Crash_c1) #[] #[(.pointer (some (blk b14)))])), (7, (.pointer (some (blk b24)))), (8, (.i s29)), (9, (.pointer (some ((a9.add 0).add (Int.toNat (s29) * 3))))), (10, z.1.v), (11, (.i r53)), (28, (.i s29)), (54, (Slc.v (l56.cut 2 (Int.toNat (0)) (Int.toNat (r53))))), (55, (.i ((l56.cut 2 (Int.toNat (0)) (Int.toNat (r53))).l : Int))), (56, (.i z.2))]) (C48, 0) h156 (H.weaken ⟨rfl, rfl, rfl, rfl, rfl, rfl, rfl, rfl, rfl, rfl, rfl, trivial⟩) ?_
   clear H h156
   rintro ⟨b61, s62⟩ a w63 h H
   replace h := h157 b61 s62 w63 h
   clear h157
   replace H : Has 111 [] a [(0, (.pointer (some a9))), (6, (.func (.func F_disk_Disk_Crash_c1) #[] #[(.pointer (some (blk b14)))])), (7, (.pointer (some (blk b24)))), (8, (.i s29)), (9, (.pointer (some ((a9.add 0).add (Int.toNat (s29) * 3))))), (10, b61.v), (11, (.i r53)), (28, (.i s29)), (54, (Slc.v (l56.cut 2 (Int.toNat (0)) (Int.toNat (r53))))), (55, (.i ((l56.cut 2 (Int.toNat (0)) (Int.toNat (r53))).l : Int))), (56, (.i s62))] := H
   refine c_seq fun K66 hK66 => c_reg <| s_bin H rfl rfl rfl r_lss (lt_ rfl) fun a H => c_nil <| hK66 _ _ <| c_seq fun K67 hK67 => c_cond H rfl (fun h68 => ?_) (fun h68 => ?_)
   ·replace h := h.1 h68
    refine c_skip <| hK67 _ _ <| c_seq fun K69 hK69 => c_block <| c_seq fun K70 hK70 => c_reg ?_
    obtain ⟨a71, h72, h73, h74, h⟩ := h
    refine s_idxS (s := l56.cut 2 (Int.toNat (0)) (Int.toNat (r53))) H rfl rfl rfl slc_76 h72 h73 h74 (lt_ rfl) fun a H => ?_
    obtain ⟨a75, hc76, s77, hc78, h⟩ := h
    refine s_loadN (l := [a75, (.i s77)]) H rfl rfl agg_112 rfl ⟨hc76, hc78, trivial⟩ (lt_ rfl) fun a H => ?_
    replace h := h.get
    obtain ⟨b79, w80, n81, h⟩ := h
    refine s_alloc H rfl zero_112 (lt_ rfl) ?_
    rw [← n81.at_]
    clear H a
    intro a H
    refine n81.go ?_
    obtain ⟨h92, h⟩ := h
    refine s_stoN (l := [a75, (.i s77)]) H rfl rfl rfl rfl agg_112 rfl (by simp only [List.all_cons, List.all_nil, Bool.and_true, Bool.true_and, h92] <;> rfl) h ?_
    clear h H
    intro w82 h H
    refine c_nil <| hK70 _ _ <| c_reg <| s_fld H rfl rfl fld_112_0 (lt_ rfl) fun a H => ?_
    obtain ⟨l83, hc84, h⟩ := h
    refine s_load (v := l83) H rfl rfl one_110 hc84 (lt_ rfl) fun a H => s_move H rfl rfl (lt_ rfl) fun a H => s_fld H rfl rfl fld_112_1 (lt_ rfl) fun a H => ?_
    obtain ⟨l85, hc86, h⟩ := h
    refine s_load (v := (.i l85)) H rfl rfl one_3 hc86 (lt_ rfl) fun a H => s_callV H rfl rfl (H.args (vs := [b61.v, (.i l85)]) rfl) (lt_ rfl) h ?_ (fun c w' h H => e_panic (P := PP) (fn := Tryz.f25) H h)
    clear H h a
    rintro _ w87 a ⟨r88, rfl, h⟩ H
    refine s_assign H rfl rfl (lt_ rfl) fun a H => c_nil <| hK69 _ _ <| c_reg <| s_bin H rfl rfl rfl r_add (lt_ rfl) fun a H => s_move H rfl rfl (lt_ rfl) fun a H => c_nil <| Exists.intro (r88, wr .i64 (s62 + 1)) ⟨h.1, h.2, H.weaken ⟨rfl, rfl, rfl, rfl, rfl, rfl, rfl, rfl, rfl, rfl, rfl, trivial⟩⟩
   ·replace h := h.2 h68
    refine c_exit ?_
    first | (simp only [Exit.then, Exit.inBlock, ↓reduceIte]; fail_if_success simp only [Nat.reduceEqDiff]) | simp only [Exit.then, Exit.inBlock, ↓reduceIte, Nat.reduceEqDiff]
    refine hK54 _ _ <| c_seq fun K93 hK93 => ?_
    obtain ⟨R95, h, h155⟩ := h
    have h106 : ∀ (a : Act) (b94 : Slc) (w96 : World), R95 b94 w96 → Has 111 [] a [(0, (.pointer (some a9))), (6, (.func (.func F_disk_Disk_Crash_c1) #[] #[(.pointer (some (blk b14)))])), (7, (.pointer (some (blk b24)))), (8, (.i s29)), (10, b94.v), (28, (.i s29))] → K93 a w96 := by
     clear h
     intro a b94 w96 h H
     replace h := h155 b94 w96 h
     refine hK93 _ _ ?_
     replace H := H.weaken (L' := [(0, (.pointer (some a9))), (6, (.func (.func F_disk_Disk_Crash_c1) #[] #[(.pointer (some (blk b14)))])), (7, (.pointer (some (blk b24)))), (8, (.i s29)), (10, b94.v), (28, (.i s29))]) ⟨rfl, rfl, rfl, rfl, rfl, rfl, trivial⟩
     refine c_any (V := [(0, (.pointer (some (blk b24)))), (1, (.i s29)), (2, b94.v), (3, b94.v), (6, (.pointer (some (blk b24)))), (7, (.pointer (some ((blk b24).add 0))))]) (⟨[[], [], [], [], [3], [2, 4], [0], [6], [0, 1, 2, 3, 4, 5, 7], [0, 1, 2, 3, 4, 5, 8]], [some 100, some 101, some 102, some 103, some 104, some 105, some 106, some 107, some 108, none], [4, 9], [0, 0, 0, 0, 0, 1, 0, 0, 1, 1], [1, 1, 1, 0, 1, 1, 1, 1, 1, 2]⟩ : Rg) [(0, (.pointer (some a9))), (6, (.func (.func F_disk_Disk_Crash_c1) #[] #[(.pointer (some (blk b14)))])), (7, (.pointer (some (blk b24)))), (8, (.i s29)), (10, b94.v), (28, (.i s29))] mixed (by kernel_rfl) H ?_
     refine Stg.eff [0, 1, 2, 3, 6, 7] (by kernel_rfl) rfl (.cons ?_ (.cons ?_ (.cons ?_ (.cons ?_ (.cons ?_ (.cons ?_ .nil)))))) ?_
     ·refine Ans.mk rfl rfl fun a H => s_move H rfl rfl (lt_ rfl) fun a H => ?_
      exact Ans.fin H rfl
     ·refine Ans.mk rfl rfl fun a H => s_move H rfl rfl (lt_ rfl) fun a H => ?_
      exact Ans.fin H rfl
     ·refine Ans.mk rfl rfl fun a H => s_move H rfl rfl (lt_ rfl) fun a H => ?_
      exact Ans.fin H rfl
     ·refine Ans.mk rfl rfl fun a H => s_move H rfl rfl (lt_ rfl) fun a H => ?_
      exact Ans.fin H rfl
     ·refine Ans.mk rfl rfl fun a H => s_nil H rfl rfl (lt_ rfl) fun a H => ?_
      exact Ans.fin H rfl
     ·refine Ans.mk rfl rfl fun a H => s_fld H rfl rfl fld_81_0 (lt_ rfl) fun a H => ?_
      exact Ans.fin H rfl
     ·intro a H
      replace H := H.weaken (L' := [(103, b94.v)]) ⟨rfl, trivial⟩
      refine s_call H rfl body_47 (H.args (vs := [b94.v]) rfl) (lt_ rfl) h ?_ (fun c w' h H => e_panic (P := PP) (fn := Tryz.f25) H h)
      clear H h a
      rintro _ w97 a ⟨C98, rfl, h⟩ H
      refine c_nil ?_
      obtain ⟨h99, h100, h⟩ := h
      refine effQ.go [(5, (.agg #[b94.v, C98.v, Slc.nil.v])), (8, (.pointer (some (((blk b24).add 0).add (Int.toNat (s29) * 3)))))] H rfl rfl <| Stg.eff [0, 1, 2, 5, 6, 7, 8] (by kernel_rfl) rfl (.cons ?_ (.cons ?_ (.cons ?_ (.cons ?_ (.cons ?_ (.cons ?_ (.cons ?_ .nil))))))) ?_
      ·refine Ans.mk rfl rfl fun a H => s_move H rfl rfl (lt_ rfl) fun a H => ?_
       exact Ans.fin H rfl
      ·refine Ans.mk rfl rfl fun a H => s_move H rfl rfl (lt_ rfl) fun a H => ?_
       exact Ans.fin H rfl
      ·refine Ans.mk rfl rfl fun a H => s_move H rfl rfl (lt_ rfl) fun a H => ?_
       exact Ans.fin H rfl
      ·refine Ans.mk rfl rfl fun a H => s_build H rfl (by rw [H.parts (vs := [(0, b94.v), (1, C98.v)]) rfl]; exact bd_78_s0_s1 w97 b94 C98) (lt_ rfl) fun a H => ?_
       exact Ans.fin H rfl
      ·refine Ans.mk rfl rfl fun a H => s_nil H rfl rfl (lt_ rfl) fun a H => ?_
       exact Ans.fin H rfl
      ·refine Ans.mk rfl rfl fun a H => s_fld H rfl rfl fld_81_0 (lt_ rfl) fun a H => ?_
       exact Ans.fin H rfl
      ·refine Ans.mk rfl rfl fun a H => s_idxA H rfl rfl rfl arr_79 h99 h100 (lt_ rfl) fun a H => ?_
       exact Ans.fin H rfl
      ·intro a H
       replace H := H.weaken (L' := [(105, (.agg #[b94.v, C98.v, Slc.nil.v])), (108, (.pointer (some (((blk b24).add 0).add (Int.toNat (s29) * 3)))))]) ⟨rfl, rfl, trivial⟩
       refine s_stoN (l := [b94.v, C98.v, Slc.nil.v]) H rfl rfl rfl rfl agg_78 rfl rfl h ?_
       clear h H
       intro w101 h H
       refine c_nil <| effQ.go0 [] H rfl rfl <| Stg.fin [] (by kernel_rfl) .nil ?_
       ·intro a H
        replace H := H.weaken (L' := [(0, (.pointer (some a9))), (6, (.func (.func F_disk_Disk_Crash_c1) #[] #[(.pointer (some (blk b14)))])), (7, (.pointer (some (blk b24)))), (28, (.i s29))]) ⟨rfl, rfl, rfl, rfl, trivial⟩
        exact h39 _ _ h (H.weaken ⟨rfl, rfl, rfl, rfl, trivial⟩)
    clear h155
    refine c_seq fun K107 hK107 => c_reg <| s_move H rfl rfl (lt_ rfl) fun a H => s_move H rfl rfl (lt_ rfl) fun a H => s_nil H rfl rfl (lt_ rfl) fun a H => s_fld H rfl rfl fld_78_2 (lt_ rfl) fun a H => ?_
    obtain ⟨l108, hc109, h⟩ := h
    refine s_load (v := l108.v) H rfl rfl one_76 hc109 (lt_ rfl) fun a H => s_blt H rfl (H.args (vs := [l108.v]) rfl) (lt_ rfl) (fun cs => b_lenS (z := l108) sl_76) fun a H => s_bin H rfl rfl rfl r_lss (lt_ rfl) fun a H => s_move H rfl rfl (lt_ rfl) fun a H => ?_
    obtain ⟨x120, h121, h122, h⟩ := h
    refine g_join (n := 111) [(84, (.bool x120)), (0, (.pointer (some a9))), (6, (.func (.func F_disk_Disk_Crash_c1) #[] #[(.pointer (some (blk b14)))])), (7, (.pointer (some (blk b24)))), (8, (.i s29)), (9, (.pointer (some ((a9.add 0).add (Int.toNat (s29) * 3))))), (10, b61.v), (11, (.i r53)), (28, (.i s29))] (.succ (.succ (.succ (.succ (.succ (.succ (.succ (.succ (.succ (.succ (.zero _))))))))))) ?_ ?_
    ·intro h111
     try clear h
     rcases Bool.eq_false_or_eq_true (decide (r53 < (l108.l : Int))) with h110 | h110
     ·replace H := H.ch (t := 74) (b := true) rfl h110
      replace h := h121 h110
      refine s_move H (wantG H rfl rfl) rfl (lt_ rfl) fun a H => s_nil H (wantG H rfl rfl) rfl (lt_ rfl) fun a H => s_fld H (wantG H rfl rfl) rfl fld_78_2 (lt_ rfl) fun a H => ?_
      obtain ⟨l112, hc113, h⟩ := h
      refine s_load (v := l112.v) H (wantG H rfl rfl) rfl one_76 hc113 (lt_ rfl) fun a H => s_move H (wantG H rfl rfl) rfl (lt_ rfl) fun a H => ?_
      obtain ⟨a114, h115, h116, h117, h⟩ := h
      refine s_idxS (s := l112) H (wantG H rfl rfl) rfl rfl slc_76 h115 h116 h117 (lt_ rfl) fun a H => s_fld H (wantG H rfl rfl) rfl fld_112_1 (lt_ rfl) fun a H => ?_
      obtain ⟨l118, hc119, h⟩ := h
      refine s_load (v := (.i l118)) H (wantG H rfl rfl) rfl one_3 hc119 (lt_ rfl) fun a H => s_bin H (wantG H rfl rfl) rfl rfl r_gtr (lt_ rfl) fun a H => s_pickT H rfl rfl rfl (lt_ rfl) fun a H => ?_
      subst h
      exact h111 _ (H.weaken ⟨rfl, rfl, rfl, rfl, rfl, rfl, rfl, rfl, rfl, trivial⟩)
     ·replace H := H.ch (t := 74) (b := false) rfl h110
      iterate 9 refine s_skip H (wantN H rfl rfl rfl) rfl (lt_ rfl) fun a H => ?_
      refine s_pickF H rfl rfl rfl (lt_ rfl) fun a H => ?_
      replace h := h122 h110
      subst h
      exact h111 _ (H.weaken ⟨rfl, rfl, rfl, rfl, rfl, rfl, rfl, rfl, rfl, trivial⟩)
    ·clear H a
     clear h121 h122
     intro a H
     refine c_nil <| hK107 _ _ <| c_cond H rfl (fun h123 => ?_) (fun h123 => ?_)
     ·replace h := h.1 h123
      refine c_seq fun K124 hK124 => c_reg <| s_move H rfl rfl (lt_ rfl) fun a H => s_nil H rfl rfl (lt_ rfl) fun a H => s_fld H rfl rfl fld_78_2 (lt_ rfl) fun a H => ?_
      obtain ⟨l125, hc126, h⟩ := h
      refine s_load (v := l125.v) H rfl rfl one_76 hc126 (lt_ rfl) fun a H => s_move H rfl rfl (lt_ rfl) fun a H => ?_
      obtain ⟨a127, h128, h129, h130, h⟩ := h
      refine s_idxS (s := l125) H rfl rfl rfl slc_76 h128 h129 h130 (lt_ rfl) fun a H => ?_
      obtain ⟨a131, hc132, s133, hc134, h⟩ := h
      refine s_loadN (l := [a131, (.i s133)]) H rfl rfl agg_112 rfl ⟨hc132, hc134, trivial⟩ (lt_ rfl) fun a H => ?_
      replace h := h.get
      obtain ⟨b135, w136, n137, h⟩ := h
      refine s_alloc H rfl zero_112 (lt_ rfl) ?_
      rw [← n137.at_]
      clear H a
      intro a H
      refine n137.go ?_
      obtain ⟨h154, h⟩ := h
      refine s_stoN (l := [a131, (.i s133)]) H rfl rfl rfl rfl agg_112 rfl (by simp only [List.all_cons, List.all_nil, Bool.and_true, Bool.true_and, h154] <;> rfl) h ?_
      clear h H
      intro w138 h H
      refine c_nil <| hK124 _ _ ?_
      replace H := H.weaken (L' := [(0, (.pointer (some a9))), (6, (.func (.func F_disk_Disk_Crash_c1) #[] #[(.pointer (some (blk b14)))])), (7, (.pointer (some (blk b24)))), (8, (.i s29)), (10, b61.v), (14, (.pointer (some (blk b135)))), (28, (.i s29))]) ⟨rfl, rfl, rfl, rfl, rfl, rfl, rfl, trivial⟩
      obtain ⟨l139, hc140, l141, hc142, h⟩ := h
      refine c_any (V := [(0, (.pointer (some ((blk b135).add 0)))), (1, l139), (2, b61.v), (3, (.func (.func F_disk_Disk_Crash_c1) #[] #[(.pointer (some (blk b14)))])), (4, (.pointer (some ((blk b135).add 1)))), (5, (.i l141))]) (⟨[[], [0], [], [], [], [4], [3, 5], [1, 2, 6], [0, 1, 2, 3, 4, 5, 6, 7]], [some 92, some 93, some 94, some 95, some 96, some 97, some 98, some 99, some 10], [6, 7], [0, 0, 0, 0, 0, 0, 0, 1, 2], [1, 1, 1, 0, 0, 0, 1, 2, 2]⟩ : Rg) [(0, (.pointer (some a9))), (6, (.func (.func F_disk_Disk_Crash_c1) #[] #[(.pointer (some (blk b14)))])), (7, (.pointer (some (blk b24)))), (8, (.i s29)), (10, b61.v), (14, (.pointer (some (blk b135)))), (28, (.i s29))] mixed (by kernel_rfl) H ?_
      refine Stg.eff [0, 1, 2, 3, 4, 5] (by kernel_rfl) rfl (.cons ?_ (.cons ?_ (.cons ?_ (.cons ?_ (.cons ?_ (.cons ?_ .nil)))))) ?_
      ·refine Ans.mk rfl rfl fun a H => s_fld H rfl rfl fld_112_0 (lt_ rfl) fun a H => ?_
       exact Ans.fin H rfl
      ·refine Ans.mk rfl rfl fun a H => s_load (v := l139) H rfl rfl one_110 hc140 (lt_ rfl) fun a H => ?_
       exact Ans.fin H rfl
      ·refine Ans.mk rfl rfl fun a H => s_move H rfl rfl (lt_ rfl) fun a H => ?_
       exact Ans.fin H rfl
      ·refine Ans.mk rfl rfl fun a H => s_move H rfl rfl (lt_ rfl) fun a H => ?_
       exact Ans.fin H rfl
      ·refine Ans.mk rfl rfl fun a H => s_fld H rfl rfl fld_112_1 (lt_ rfl) fun a H => ?_
       exact Ans.fin H rfl
      ·refine Ans.mk rfl rfl fun a H => s_load (v := (.i l141)) H rfl rfl one_3 hc142 (lt_ rfl) fun a H => ?_
       exact Ans.fin H rfl
      ·intro a H
       replace H := H.weaken (L' := [(95, (.func (.func F_disk_Disk_Crash_c1) #[] #[(.pointer (some (blk b14)))])), (97, (.i l141))]) ⟨rfl, rfl, trivial⟩
       refine s_callV H rfl rfl (H.args (vs := [(.i l141)]) rfl) (lt_ rfl) ⟨_, _, rfl, body_48, h⟩ ?_ (fun c w' h H => e_panic (P := PP) (fn := Tryz.f25) H h)
       clear H h a
       rintro _ w143 a ⟨r144, rfl, h⟩ H
       refine c_nil ?_
       obtain ⟨hc145, h⟩ := h
       refine effQ.go [] H rfl rfl <| Stg.eff [0, 1, 2] (by kernel_rfl) rfl (.cons ?_ (.cons ?_ (.cons ?_ .nil))) ?_
       ·refine Ans.mk rfl rfl fun a H => s_fld H rfl rfl fld_112_0 (lt_ rfl) fun a H => ?_
        exact Ans.fin H rfl
       ·refine Ans.mk rfl rfl fun a H => s_load (v := l139) H rfl rfl one_110 hc145 (lt_ rfl) fun a H => ?_
        exact Ans.fin H rfl
       ·refine Ans.mk rfl rfl fun a H => s_move H rfl rfl (lt_ rfl) fun a H => ?_
        exact Ans.fin H rfl
       ·intro a H
        replace H := H.weaken (L' := [(93, l139), (94, b61.v), (98, (.i r144))]) ⟨rfl, rfl, rfl, trivial⟩
        refine s_callV H rfl rfl (H.args (vs := [b61.v, (.i r144)]) rfl) (lt_ rfl) h ?_ (fun c w' h H => e_panic (P := PP) (fn := Tryz.f25) H h)
        clear H h a
        rintro _ w146 a ⟨r147, rfl, h⟩ H
        refine c_nil <| effQ.go [(8, r147.v)] H rfl rfl <| Stg.fin [8] (by kernel_rfl) (.cons ?_ .nil) ?_
        ·refine Ans.mk rfl rfl fun a H => s_assign H rfl rfl (lt_ rfl) fun a H => ?_
         exact Ans.fin H rfl
        ·intro a H
         replace H := H.weaken (L' := [(0, (.pointer (some a9))), (6, (.func (.func F_disk_Disk_Crash_c1) #[] #[(.pointer (some (blk b14)))])), (7, (.pointer (some (blk b24)))), (8, (.i s29)), (10, r147.v), (28, (.i s29))]) ⟨rfl, rfl, rfl, rfl, rfl, rfl, trivial⟩
         exact h106 _ _ _ h (H.weaken ⟨rfl, rfl, rfl, rfl, rfl, rfl, trivial⟩)
     ·replace h := h.2 h123
      refine c_skip ?_
      exact h106 _ _ _ h (H.weaken ⟨rfl, rfl, rfl, rfl, rfl, rfl, trivial⟩)
  ·replace h := h.2 h35
   refine c_exit ?_
   first | (simp only [Exit.then, Exit.inBlock, ↓reduceIte]; fail_if_success simp only [Nat.reduceEqDiff]) | simp only [Exit.then, Exit.inBlock, ↓reduceIte, Nat.reduceEqDiff]
   refine hK27 _ _ <| c_seq fun K166 hK166 => c_reg <| s_move H rfl rfl (lt_ rfl) fun a H => s_assign H rfl rfl (lt_ rfl) fun a H => c_nil <| hK166 _ _ <| c_ret ?_
   exact e_ret1 H rfl rfl h

theorem sim_sherdlaw14_among (u1 h2 : Slc) (K3 : Int) (U4 : Slc) (N5 : Int) (Y6 : Bool) (L7 : Slc) (N8 K9 D10 S11 : Int) (g12 : Slc) (w : World) (Q : Ending → World → Prop) (h : vc_sherdlaw14_among u1 h2 K3 U4 N5 Y6 L7 N8 K9 D10 S11 g12 w Q) : Calls PP F_sherdlaw14_among #[u1.v, h2.v, (.agg #[(.i K3), U4.v, (.i N5), (.bool Y6), L7.v, (.i N8), (.i K9), (.i D10), (.i S11)]), g12.v] w Q := by
 unfold vc_sherdlaw14_among at h
 refine enter (n := 46) Tryz.func26 rfl rfl (Nat.le_of_ble_eq_true rfl) fun a H => c_seq fun K13 hK13 => c_reg ?_
 replace h := h.get
 obtain ⟨b14, w15, n16, h⟩ := h
 refine s_box H rfl rfl (lt_ rfl) ?_
 rw [← n16.at_]
 clear H a
 intro a H
 refine n16.go <| s_assign H rfl rfl (lt_ rfl) fun a H => c_nil <| hK13 _ _ <| c_seq fun K17 hK17 => c_seq fun K18 hK18 => c_reg <| s_move H rfl rfl (lt_ rfl) fun a H => s_move H rfl rfl (lt_ rfl) fun a H => s_call H rfl body_14 (H.args (vs := [u1.v, h2.v]) rfl) (lt_ rfl) h ?_ (fun c w' h H => e_panic (P := PP) (fn := Tryz.f26) H h)
 clear H h a
 rintro _ w19 a ⟨u20, rfl, h⟩ H
 refine c_nil <| hK18 _ _ <| c_cond H rfl (fun h21 => ?_) (fun h21 => ?_)
 ·replace h := h.1 h21
  refine c_seq fun K22 hK22 => c_reg <| s_assign H rfl rfl (lt_ rfl) fun a H => c_nil <| hK22 _ _ <| c_ret ?_
  exact e_ret1 H rfl rfl h
 ·replace h := h.2 h21
  refine c_skip <| hK17 _ _ <| c_seq fun K23 hK23 => c_seq fun K24 hK24 => c_reg <| s_fld H rfl rfl fld_30_0 (lt_ rfl) fun a H => ?_
  obtain ⟨l25, hc26, h⟩ := h
  refine s_load (v := (.i l25)) H rfl rfl one_3 hc26 (lt_ rfl) fun a H => s_bin H rfl rfl rfl r_eql (lt_ rfl) fun a H => c_nil <| hK24 _ _ <| c_cond H rfl (fun h27 => ?_) (fun h27 => ?_)
  ·replace h := h.1 h27
   refine c_seq fun K28 hK28 => c_reg <| s_move H rfl rfl (lt_ rfl) fun a H => s_move H rfl rfl (lt_ rfl) fun a H => s_call H rfl body_14 (H.args (vs := [u1.v, g12.v]) rfl) (lt_ rfl) h ?_ (fun c w' h H => e_panic (P := PP) (fn := Tryz.f26) H h)
   clear H h a
   rintro _ w29 a ⟨u30, rfl, h⟩ H
   refine s_assign H rfl rfl (lt_ rfl) fun a H => c_nil <| hK28 _ _ <| c_ret ?_
   exact e_ret1 H rfl rfl h
  ·replace h := h.2 h27
   refine c_skip <| hK23 _ _ <| c_seq fun K35 hK35 => c_reg <| s_move H rfl rfl (lt_ rfl) fun a H => s_blt H rfl (H.args (vs := [u1.v]) rfl) (lt_ rfl) (fun cs => b_lenS (z := u1) sl_23) fun a H => s_move H rfl rfl (lt_ rfl) fun a H => s_blt H rfl (H.args (vs := [h2.v]) rfl) (lt_ rfl) (fun cs => b_lenS (z := h2) sl_23) fun a H => s_bin H rfl rfl rfl r_sub (lt_ rfl) fun a H => s_assign H rfl rfl (lt_ rfl) fun a H => c_nil <| hK35 _ _ <| c_seq fun K36 hK36 => c_seq fun K37 hK37 => c_reg ?_
   refine s_fld H rfl rfl fld_30_0 (lt_ rfl) fun a H => ?_
   obtain ⟨l38, hc39, h⟩ := h
   refine s_load (v := (.i l38)) H rfl rfl one_3 hc39 (lt_ rfl) fun a H => s_bin H rfl rfl rfl r_neq (lt_ rfl) fun a H => s_move H rfl rfl (lt_ rfl) fun a H => g_join (n := 46) [(30, (.bool ((decide (l38 ≠ 2)) || (decide ((wr .i64 ((u1.l : Int) - (h2.l : Int))) < 0))))), (0, u1.v), (1, h2.v), (3, g12.v), (9, (.i (wr .i64 ((u1.l : Int) - (h2.l : Int)))))] (.succ (.succ (.succ (.zero _)))) ?_ ?_
   ·intro h41
    try clear h
    rcases Bool.eq_false_or_eq_true (decide (l38 ≠ 2)) with h40 | h40
    ·replace H := H.ch (t := 27) (b := true) rfl h40
     refine s_skip H (wantN H rfl rfl rfl) rfl (lt_ rfl) fun a H => s_skip H (wantN H rfl rfl rfl) rfl (lt_ rfl) fun a H => s_pickT H rfl rfl rfl (lt_ rfl) fun a H => ?_
     exact h41 _ (H.weaken ⟨by rw [h40]; rfl, rfl, rfl, rfl, rfl, trivial⟩)
    ·replace H := H.ch (t := 27) (b := false) rfl h40
     refine s_move H (wantG H rfl rfl) rfl (lt_ rfl) fun a H => s_bin H (wantG H rfl rfl) rfl rfl r_lss (lt_ rfl) fun a H => s_pickF H rfl rfl rfl (lt_ rfl) fun a H => ?_
     exact h41 _ (H.weaken ⟨by rw [h40]; rfl, rfl, rfl, rfl, rfl, trivial⟩)
   ·clear H a
    intro a H
    refine s_move H rfl rfl (lt_ rfl) fun a H => g_join (n := 46) [(36, (.bool (((decide (l38 ≠ 2)) || (decide ((wr .i64 ((u1.l : Int) - (h2.l : Int))) < 0))) || (decide ((g12.l : Int) < (wr .i64 ((u1.l : Int) - (h2.l : Int)))))))), (0, u1.v), (1, h2.v), (3, g12.v), (9, (.i (wr .i64 ((u1.l : Int) - (h2.l : Int)))))] (.succ (.succ (.succ (.succ (.succ (.zero _)))))) ?_ ?_
    ·intro h43
     try clear h
     rcases Bool.eq_false_or_eq_true ((decide (l38 ≠ 2)) || (decide ((wr .i64 ((u1.l : Int) - (h2.l : Int))) < 0))) with h42 | h42
     ·replace H := H.ch (t := 31) (b := true) rfl h42
      iterate 4 refine s_skip H (wantN H rfl rfl rfl) rfl (lt_ rfl) fun a H => ?_
      refine s_pickT H rfl rfl rfl (lt_ rfl) fun a H => ?_
      exact h43 _ (H.weaken ⟨by rw [h42]; rfl, rfl, rfl, rfl, rfl, trivial⟩)
     ·replace H := H.ch (t := 31) (b := false) rfl h42
      refine s_move H (wantG H rfl rfl) rfl (lt_ rfl) fun a H => s_move H (wantG H rfl rfl) rfl (lt_ rfl) fun a H => s_blt H (wantG H rfl rfl) (H.args (vs := [g12.v]) rfl) (lt_ rfl) (fun cs => b_lenS (z := g12) sl_23) fun a H => s_bin H (wantG H rfl rfl) rfl rfl r_gtr (lt_ rfl) fun a H => s_pickF H rfl rfl rfl (lt_ rfl) fun a H => ?_
      exact h43 _ (H.weaken ⟨by rw [h42]; rfl, rfl, rfl, rfl, rfl, trivial⟩)
    ·clear H a
     intro a H
     refine c_nil <| hK37 _ _ <| c_cond H rfl (fun h44 => ?_) (fun h44 => ?_)
     ·replace h := h.1 h44
      refine c_seq fun K45 hK45 => c_reg <| s_assign H rfl rfl (lt_ rfl) fun a H => c_nil <| hK45 _ _ <| c_ret ?_
      exact e_ret1 H rfl rfl h
     ·replace h := h.2 h44
      refine c_skip <| hK36 _ _ <| c_seq fun K46 hK46 => ?_
      replace H := H.weaken (L' := [(0, u1.v), (1, h2.v), (3, g12.v), (9, (.i (wr .i64 ((u1.l : Int) - (h2.l : Int)))))]) ⟨rfl, rfl, rfl, rfl, trivial⟩
      obtain ⟨h47, h48, h49, h⟩ := h
      refine c_any (V := [(0, u1.v), (2, h2.v), (4, g12.v), (5, (.i (wr .i64 ((u1.l : Int) - (h2.l : Int))))), (6, (Slc.v (g12.cut 7 (Int.toNat (0)) (Int.toNat (wr .i64 ((u1.l : Int) - (h2.l : Int)))))))]) (⟨[[], [], [], [1, 2], [], [], [4, 5], [3, 6], [0, 7], [0, 1, 2, 3, 4, 5, 6, 7, 8]], [some 37, some 38, some 39, some 40, some 41, some 42, some 43, some 44, some 45, some 8], [1, 3, 7, 8], [0, 0, 0, 1, 0, 0, 0, 2, 3, 4], [3, 1, 1, 2, 2, 2, 2, 3, 4, 4]⟩ : Rg) [(0, u1.v), (1, h2.v), (3, g12.v), (9, (.i (wr .i64 ((u1.l : Int) - (h2.l : Int)))))] mixed (by kernel_rfl) H ?_
      refine Stg.eff [0, 2, 4, 5, 6] (by kernel_rfl) rfl (.cons ?_ (.cons ?_ (.cons ?_ (.cons ?_ (.cons ?_ .nil))))) ?_
      ·refine Ans.mk rfl rfl fun a H => s_move H rfl rfl (lt_ rfl) fun a H => ?_
       exact Ans.fin H rfl
      ·refine Ans.mk rfl rfl fun a H => s_move H rfl rfl (lt_ rfl) fun a H => ?_
       exact Ans.fin H rfl
      ·refine Ans.mk rfl rfl fun a H => s_move H rfl rfl (lt_ rfl) fun a H => ?_
       exact Ans.fin H rfl
      ·refine Ans.mk rfl rfl fun a H => s_move H rfl rfl (lt_ rfl) fun a H => ?_
       exact Ans.fin H rfl
      ·refine Ans.mk rfl rfl fun a H => s_slice (v := (Slc.v (g12.cut 7 (Int.toNat (0)) (Int.toNat (wr .i64 ((u1.l : Int) - (h2.l : Int))))))) H rfl rfl ⟨rfl, rfl⟩ ⟨rfl, rfl⟩ ⟨rfl, rfl⟩ (r_sliceSlc (lo := none) (hi := (some (.i64, wr .i64 ((u1.l : Int) - (h2.l : Int))))) slc_23 rfl rfl h47 h48 h49) (lt_ rfl) fun a H => ?_
       exact Ans.fin H rfl
      ·intro a H
       replace H := H.weaken (L' := []) trivial
       replace h := h.get
       obtain ⟨b50, w51, n52, h⟩ := h
       refine s_bslc H rfl (by rw [H.parts (vs := []) rfl]; exact bs_23_0 (w19.drewN 1)) (lt_ rfl) ?_
       rw [← n52.at_]
       clear H a
       intro a H
       refine n52.go <| c_nil <| effQ.go [] H rfl rfl <| Stg.eff [0, 2, 4, 5, 6] (by kernel_rfl) rfl (.cons ?_ (.cons ?_ (.cons ?_ (.cons ?_ (.cons ?_ .nil))))) ?_
       ·refine Ans.mk rfl rfl fun a H => s_move H rfl rfl (lt_ rfl) fun a H => ?_
        exact Ans.fin H rfl
       ·refine Ans.mk rfl rfl fun a H => s_move H rfl rfl (lt_ rfl) fun a H => ?_
        exact Ans.fin H rfl
       ·refine Ans.mk rfl rfl fun a H => s_move H rfl rfl (lt_ rfl) fun a H => ?_
        exact Ans.fin H rfl
       ·refine Ans.mk rfl rfl fun a H => s_move H rfl rfl (lt_ rfl) fun a H => ?_
        exact Ans.fin H rfl
       ·refine Ans.mk rfl rfl fun a H => s_slice (v := (Slc.v (g12.cut 7 (Int.toNat (0)) (Int.toNat (wr .i64 ((u1.l : Int) - (h2.l : Int))))))) H rfl rfl ⟨rfl, rfl⟩ ⟨rfl, rfl⟩ ⟨rfl, rfl⟩ (r_sliceSlc (lo := none) (hi := (some (.i64, wr .i64 ((u1.l : Int) - (h2.l : Int))))) slc_23 rfl rfl h47 h48 h49) (lt_ rfl) fun a H => ?_
        exact Ans.fin H rfl
       ·intro a H
        replace H := H.weaken (L' := [(38, (Slc.v (Slc.mk (some (blk b50)) 0 0))), (39, h2.v)]) ⟨rfl, rfl, trivial⟩
        obtain ⟨s53, w54, h55, h⟩ := h
        refine s_blt H rfl (H.args (vs := [(Slc.v (Slc.mk (some (blk b50)) 0 0)), h2.v]) rfl) (lt_ rfl) (fun cs => b_app (z := s53) h55) ?_
        clear H a h55
        intro a H
        refine c_nil <| effQ.go [] H rfl rfl <| Stg.eff [0, 4, 5, 6] (by kernel_rfl) rfl (.cons ?_ (.cons ?_ (.cons ?_ (.cons ?_ .nil)))) ?_
        ·refine Ans.mk rfl rfl fun a H => s_move H rfl rfl (lt_ rfl) fun a H => ?_
         exact Ans.fin H rfl
        ·refine Ans.mk rfl rfl fun a H => s_move H rfl rfl (lt_ rfl) fun a H => ?_
         exact Ans.fin H rfl
        ·refine Ans.mk rfl rfl fun a H => s_move H rfl rfl (lt_ rfl) fun a H => ?_
         exact Ans.fin H rfl
        ·refine Ans.mk rfl rfl fun a H => s_slice (v := (Slc.v (g12.cut 7 (Int.toNat (0)) (Int.toNat (wr .i64 ((u1.l : Int) - (h2.l : Int))))))) H rfl rfl ⟨rfl, rfl⟩ ⟨rfl, rfl⟩ ⟨rfl, rfl⟩ (r_sliceSlc (lo := none) (hi := (some (.i64, wr .i64 ((u1.l : Int) - (h2.l : Int))))) slc_23 rfl rfl h47 h48 h49) (lt_ rfl) fun a H => ?_
         exact Ans.fin H rfl
        ·intro a H
         replace H := H.weaken (L' := [(40, s53.v), (43, (Slc.v (g12.cut 7 (Int.toNat (0)) (Int.toNat (wr .i64 ((u1.l : Int) - (h2.l : Int)))))))]) ⟨rfl, rfl, trivial⟩
         obtain ⟨s56, w57, h58, h⟩ := h
         refine s_blt H rfl (H.args (vs := [s53.v, (Slc.v (g12.cut 7 (Int.toNat (0)) (Int.toNat (wr .i64 ((u1.l : Int) - (h2.l : Int))))))]) rfl) (lt_ rfl) (fun cs => b_app (z := s56) h58) ?_
         clear H a h58
         intro a H
         refine c_nil <| effQ.go [] H rfl rfl <| Stg.eff [0] (by kernel_rfl) rfl (.cons ?_ .nil) ?_
         ·refine Ans.mk rfl rfl fun a H => s_move H rfl rfl (lt_ rfl) fun a H => ?_
          exact Ans.fin H rfl
         ·intro a H
          replace H := H.weaken (L' := [(37, u1.v), (44, s56.v)]) ⟨rfl, rfl, trivial⟩
          refine s_call H rfl body_14 (H.args (vs := [u1.v, s56.v]) rfl) (lt_ rfl) h ?_ (fun c w' h H => e_panic (P := PP) (fn := Tryz.f26) H h)
          clear H h a
          rintro _ w59 a ⟨u60, rfl, h⟩ H
          refine c_nil <| effQ.go [(9, (.bool u60))] H rfl rfl <| Stg.fin [9] (by kernel_rfl) (.cons ?_ .nil) ?_
          ·refine Ans.mk rfl rfl fun a H => s_assign H rfl rfl (lt_ rfl) fun a H => ?_
           exact Ans.fin H rfl
          ·intro a H
           replace H := H.weaken (L' := [(8, (.bool u60))]) ⟨rfl, trivial⟩
           refine hK46 _ _ <| c_ret ?_
           exact e_ret1 H rfl rfl h

end Go.Proofs.YtflcdgkckfcofaaGreatDoor
