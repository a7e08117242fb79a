/-
  The conditions give the machine's calls; printed by vcgen.py.
-/
import Derived.Test.YtabifopphhpciaaGreatRecVc
namespace Go.Proofs.YtabifopphhpciaaGreat
open Go Go.Vc
set_option maxRecDepth 100000
set_option maxHeartbeats 4000000
theorem sim_matrix_Matrix_Invert (m1 : Option Addr) (w : World) (Q : Ending → World → Prop) (h : vc_matrix_Matrix_Invert m1 w Q) : Calls PP F_matrix_Matrix_Invert #[(.pointer m1)] w Q := by
 unfold vc_matrix_Matrix_Invert at h
 have eP {L : List (Nat × Value)} (c : List PanicEntry) (w' : World) (a : Act) (h : Q (.panicked c) w') (H : Has 109 [] a L) : bodyPost PP Tryz.f31 Q (.panic c) a w' := e_panic H h
 refine enter (n := 109) Tryz.func31 rfl rfl (le_ rfl) fun a H => sr fun K2 hK2 => ww H <| ag rfl rfl <| ag rfl rfl <| fun a H => nk hK2 <| c_seq fun K3 hK3 => sr fun K4 hK4 => ww H <| mv rfl rfl <| bn rfl rfl (r_eqP0 ptr_79) rfl <| fun a H => nk hK4 <| cd H rfl h (fun h5 h => ?_) (fun h5 h => ?_)
 ·exact sr fun K6 hK6 => ww H <| ag rfl rfl <| ag rfl rfl <| fun a H => nk hK6 <| c_ret <| e_ret2 H rfl rfl rfl h
 ·obtain ⟨a8, h145, h⟩ := h
  refine c_skip <| hK3 _ _ <| sr fun K7 hK7 => ww H <| mv rfl rfl <| fun a H => ?_
  revert H
  revert h
  subst h145
  intro h H
  obtain ⟨l9, hc10, l13, hc14, a15, h16, h17, h18, h⟩ := h
  refine ww H <| nl rfl rfl <| fd rfl fld_133_1 rfl <| ld rfl one_27 hc10 rfl <| bl (vs := [l9.v]) rfl rfl (fun cs => b_lenS (z := l9) sl_27) <| ag rfl rfl <| fun a H => nk hK7 <| c_seq fun K11 hK11 => sr fun K12 hK12 => ww H <| mv rfl rfl <| mv rfl rfl <| nl rfl rfl <| fd rfl fld_133_1 rfl <| ld rfl one_27 hc14 rfl <| fun a H => s_idxS (s := l13) H rfl rfl rfl slc_27 h16 h17 h18 (lt_ rfl) fun a H => ?_
  obtain ⟨l19, hc20, h⟩ := h
  refine ww H <| ld rfl one_22 hc20 rfl <| bl (vs := [l19.v]) rfl rfl (fun cs => b_lenS (z := l19) sl_22) <| bn rfl rfl r_neq rfl <| fun a H => nk hK12 <| cd H rfl h (fun h21 h => ?_) (fun h21 h => ?_)
  ·exact sr fun K22 hK22 => ww H <| ag rfl rfl <| ag rfl rfl <| fun a H => nk hK22 <| c_ret <| e_ret2 H rfl rfl rfl h
  ·obtain ⟨l24, hc25, h⟩ := h
   refine c_skip <| hK11 _ _ <| sr fun K23 hK23 => ww H <| mv rfl rfl <| nl rfl rfl <| fd rfl fld_133_0 rfl <| ld rfl one_44 hc25 rfl <| mv rfl rfl <| mv rfl rfl <| bn rfl rfl r_mul rfl <| cl1 h body_76 rfl rfl eP fun b27 w26 h => fun a H => ?_
   obtain ⟨l30, hc31, h⟩ := h
   refine ww H <| ag rfl rfl <| fun a H => nk hK23 <| c_seq fun K28 hK28 => sr fun K29 hK29 => ww H <| mv rfl rfl <| nl rfl rfl <| fd rfl fld_133_1 rfl <| ld rfl one_27 hc31 rfl <| bl (vs := [l30.v]) rfl rfl (fun cs => b_lenS (z := l30) sl_27) <| mv rfl rfl <| fun a H => nk hK29 <| c_block ?_
   obtain ⟨I34, m35, h139, h140⟩ := h
   refine c_loop (σ := Int) (fun z w => I34 z w) (fun z w => m35 z w) (fun z => [(0, (.pointer (some a8))), (4, (.i (l9.l : Int))), (5, (.pointer b27)), (38, l30.v), (39, (.i (l30.l : Int))), (40, (.i z))]) 0 h139 (H.weaken ⟨rfl, rfl, rfl, rfl, rfl, rfl, trivial⟩) ?_
   clear H h139
   rintro s32 a w33 h H
   replace h := h140 s32 w33 h
   clear h140
   replace H : Has 109 [] a [(0, (.pointer (some a8))), (4, (.i (l9.l : Int))), (5, (.pointer b27)), (38, l30.v), (39, (.i (l30.l : Int))), (40, (.i s32))] := H
   refine sr fun K36 hK36 => ww H <| bn rfl rfl r_lss rfl <| fun a H => nk hK36 <| c_seq fun K37 hK37 => cd H rfl h (fun h38 h => ?_) (fun h38 h => ?_)
   ·obtain ⟨a41, h42, h43, h44, h⟩ := h
    refine c_skip <| hK37 _ _ <| c_seq fun K39 hK39 => c_block <| sr fun K40 hK40 => ww H <| mv rfl rfl <| fun a H => s_idxS (s := l30) H rfl rfl rfl slc_27 h42 h43 h44 (lt_ rfl) fun a H => ?_
    obtain ⟨l45, hc46, a48, h75, h⟩ := h
    refine ww H <| ld rfl one_22 hc46 rfl <| ag rfl rfl <| ag rfl rfl <| fun a H => nk hK40 <| sr fun K47 hK47 => ww H <| mv rfl rfl <| fun a H => ?_
    revert H
    revert h
    subst h75
    intro h H
    obtain ⟨l49, hc50, a51, h52, h53, h54, h⟩ := h
    refine ww H <| nl rfl rfl <| fd rfl fld_133_1 rfl <| ld rfl one_27 hc50 rfl <| mv rfl rfl <| fun a H => s_idxS (s := l49) H rfl rfl rfl slc_27 h52 h53 h54 (lt_ rfl) fun a H => ?_
    obtain ⟨l55, hc56, n57, w58, h59, h⟩ := h
    refine ww H <| ld rfl one_22 hc56 rfl <| mv rfl rfl <| fun a H => s_blt H rfl (H.args (vs := [l55.v, l45.v]) rfl) (lt_ rfl) (fun cs => b_cpy (a := n57) h59) ?_
    clear H a h59
    intro a H
    obtain ⟨l60, hc61, a62, h63, h64, h65, h⟩ := h
    refine nk hK47 <| c_reg <| ww H <| mv rfl rfl <| nl rfl rfl <| fd rfl fld_133_1 rfl <| ld rfl one_27 hc61 rfl <| mv rfl rfl <| fun a H => s_idxS (s := l60) H rfl rfl rfl slc_27 h63 h64 h65 (lt_ rfl) fun a H => ?_
    obtain ⟨l66, hc67, a68, h69, h70, h71, h⟩ := h
    refine ww H <| ld rfl one_22 hc67 rfl <| mv rfl rfl <| mv rfl rfl <| bn rfl rfl r_add rfl <| fun a H => s_idxS (s := l66) H rfl rfl rfl slc_22 h69 h70 h71 (lt_ rfl) fun a H => ww H <| st h rfl rfl one_5 rfl fun w72 w72S h => fun a H => nk hK39 <| c_reg <| ww H <| bn rfl rfl r_add rfl <| mv rfl rfl <| fun a H => c_nil <| Exists.intro (wr .i64 (s32 + 1)) ⟨h.1, h.2, H.weaken ⟨rfl, rfl, rfl, rfl, rfl, rfl, trivial⟩⟩
   ·refine c_exit ?_
    first | (simp only [Exit.then, Exit.inBlock, ↓reduceIte]; fail_if_success simp only [Nat.reduceEqDiff]) | simp only [Exit.then, Exit.inBlock, ↓reduceIte, Nat.reduceEqDiff]
    refine hK28 _ _ <| c_seq fun K76 hK76 => c_seq fun K77 hK77 => ?_
    replace H := H.weaken (L' := [(0, (.pointer (some a8))), (4, (.i (l9.l : Int))), (5, (.pointer b27))]) ⟨rfl, rfl, rfl, trivial⟩
    obtain ⟨l78, hc79, a80, h81, h⟩ := h
    revert H
    revert h
    subst h81
    intro h H
    obtain ⟨l82, hc83, h⟩ := h
    refine c_any (V := [(0, (.pointer (some a8))), (1, (.pointer (some a8))), (2, (.pointer (some (a8.add 0)))), (3, (.pointer l78)), (4, (.pointer (some a80))), (5, (.pointer (some a80))), (6, (.pointer (some (a80.add 1)))), (7, l82.v), (8, (.i (l9.l : Int))), (11, (.i (l9.l : Int)))]) (⟨[[], [0], [1], [2], [], [4], [5], [6], [], [3, 7, 8], [9], [], [10, 11]], [some 66, some 67, some 68, some 69, some 70, some 71, some 72, some 73, some 74, some 75, some 76, some 77, some 78], [9], [0, 0, 0, 0, 0, 0, 0, 0, 0, 0, 1, 0, 1], [0, 0, 0, 0, 0, 0, 0, 0, 0, 1, 1, 1, 1]⟩ : Rg) [(0, (.pointer (some a8))), (4, (.i (l9.l : Int))), (5, (.pointer (some a80)))] mixed (by kernel_rfl) H <| Stg.eff [0, 1, 2, 3, 4, 5, 6, 7, 8, 11] (by kernel_rfl) rfl (.cons ?_ (.cons ?_ (.cons ?_ (.cons ?_ (.cons ?_ (.cons ?_ (.cons ?_ (.cons ?_ (.cons ?_ (.cons ?_ .nil)))))))))) ?_
    ·exact Aw rfl rfl <| mv rfl rfl <| An rfl
    ·exact Aw rfl rfl <| nl rfl rfl <| An rfl
    ·exact Aw rfl rfl <| fd rfl fld_133_0 rfl <| An rfl
    ·exact Aw rfl rfl <| ld rfl one_44 hc79 rfl <| An rfl
    ·exact Aw rfl rfl <| mv rfl rfl <| An rfl
    ·exact Aw rfl rfl <| nl rfl rfl <| An rfl
    ·exact Aw rfl rfl <| fd rfl fld_133_1 rfl <| An rfl
    ·exact Aw rfl rfl <| ld rfl one_27 hc83 rfl <| An rfl
    ·exact Aw rfl rfl <| mv rfl rfl <| An rfl
    ·exact Aw rfl rfl <| mv rfl rfl <| An rfl
    ·refine cl1 h body_77 rfl rfl eP fun e85 w84 h => fun a H => c_nil <| effQ.go [(10, (.i (e85.l : Int))), (12, (.bool (decide ((e85.l : Int) < (l9.l : Int)))))] H rfl rfl <| Stg.fin [10, 11, 12] (by kernel_rfl) (.cons ?_ (.cons ?_ (.cons ?_ .nil))) ?_
     ·exact Aw rfl rfl <| bl (vs := [e85.v]) rfl rfl (fun cs => b_lenS (z := e85) sl_23) <| An rfl
     ·exact Aw rfl rfl <| mv rfl rfl <| An rfl
     ·exact Aw rfl rfl <| bn rfl rfl r_lss rfl <| An rfl
     ·intro a H
      replace H := H.weaken (L' := [(0, (.pointer (some a8))), (4, (.i (l9.l : Int))), (5, (.pointer (some a80))), (78, (.bool (decide ((e85.l : Int) < (l9.l : Int)))))]) ⟨rfl, rfl, rfl, rfl, trivial⟩
      refine hK77 _ _ <| cd H rfl h (fun h86 h => ?_) (fun h86 h => ?_)
      ·exact sr fun K87 hK87 => ww H <| ag rfl rfl <| ag rfl rfl <| fun a H => nk hK87 <| c_ret <| e_ret2 H rfl rfl rfl h
      ·obtain ⟨l89, hc90, h⟩ := h
       refine c_skip <| hK76 _ _ <| sr fun K88 hK88 => ww H <| mv rfl rfl <| nl rfl rfl <| fd rfl fld_133_0 rfl <| ld rfl one_44 hc90 rfl <| mv rfl rfl <| mv rfl rfl <| cl1 h body_76 rfl rfl eP fun b92 w91 h => fun a H => ?_
       obtain ⟨l95, hc96, h⟩ := h
       refine ww H <| ag rfl rfl <| fun a H => nk hK88 <| c_seq fun K93 hK93 => sr fun K94 hK94 => ww H <| mv rfl rfl <| nl rfl rfl <| fd rfl fld_133_1 rfl <| ld rfl one_27 hc96 rfl <| bl (vs := [l95.v]) rfl rfl (fun cs => b_lenS (z := l95) sl_27) <| mv rfl rfl <| fun a H => nk hK94 <| c_block ?_
       obtain ⟨I99, m100, h129, h130⟩ := h
       refine c_loop (σ := Int) (fun z w => I99 z w) (fun z w => m100 z w) (fun z => [(4, (.i (l9.l : Int))), (8, (.pointer b92)), (89, l95.v), (90, (.i (l95.l : Int))), (91, (.i z))]) 0 h129 (H.weaken ⟨rfl, rfl, rfl, rfl, rfl, trivial⟩) ?_
       clear H h129
       rintro s97 a w98 h H
       replace h := h130 s97 w98 h
       clear h130
       replace H : Has 109 [] a [(4, (.i (l9.l : Int))), (8, (.pointer b92)), (89, l95.v), (90, (.i (l95.l : Int))), (91, (.i s97))] := H
       refine sr fun K101 hK101 => ww H <| bn rfl rfl r_lss rfl <| fun a H => nk hK101 <| c_seq fun K102 hK102 => cd H rfl h (fun h103 h => ?_) (fun h103 h => ?_)
       ·obtain ⟨a106, h107, h108, h109, h⟩ := h
        refine c_skip <| hK102 _ _ <| c_seq fun K104 hK104 => c_block <| sr fun K105 hK105 => ww H <| mv rfl rfl <| fun a H => s_idxS (s := l95) H rfl rfl rfl slc_27 h107 h108 h109 (lt_ rfl) fun a H => ?_
        obtain ⟨l110, hc111, h⟩ := h
        refine ww H <| ld rfl one_22 hc111 rfl <| ag rfl rfl <| ag rfl rfl <| fun a H => nk hK105 <| ?_
        replace H := H.weaken (L' := [(4, (.i (l9.l : Int))), (8, (.pointer b92)), (9, (.i s97)), (10, l110.v), (89, l95.v), (90, (.i (l95.l : Int))), (91, (.i s97))]) ⟨rfl, rfl, rfl, rfl, rfl, rfl, rfl, trivial⟩
        obtain ⟨a112, h113, h⟩ := h
        revert H
        revert h
        subst h113
        intro h H
        obtain ⟨l114, hc115, a116, h117, h118, h119, l120, hc121, h122, h123, h124, h⟩ := h
        refine c_any (V := [(0, (.pointer (some a112))), (1, (.pointer (some a112))), (2, (.pointer (some (a112.add 1)))), (3, l114.v), (4, (.i s97)), (5, (.pointer (some (a116.add (Int.toNat (s97) * 1))))), (6, l120.v), (7, l110.v), (8, (.i (l9.l : Int))), (9, (Slc.v (l110.cut 1 (Int.toNat ((l9.l : Int))) (Int.toNat ((l110.l : Int))))))]) (⟨[[], [0], [1], [2], [], [3, 4], [5], [], [], [7, 8], [6, 9]], [some 96, some 97, some 98, some 99, some 100, some 101, some 102, some 103, some 104, some 105, some 106], [10], [0, 0, 0, 0, 0, 0, 0, 0, 0, 0, 0], [0, 0, 0, 0, 0, 0, 0, 0, 0, 0, 1]⟩ : Rg) [(4, (.i (l9.l : Int))), (8, (.pointer (some a112))), (9, (.i s97)), (10, l110.v), (89, l95.v), (90, (.i (l95.l : Int))), (91, (.i s97))] mixed (by kernel_rfl) H <| Stg.eff [0, 1, 2, 3, 4, 5, 6, 7, 8, 9] (by kernel_rfl) rfl (.cons ?_ (.cons ?_ (.cons ?_ (.cons ?_ (.cons ?_ (.cons ?_ (.cons ?_ (.cons ?_ (.cons ?_ (.cons ?_ .nil)))))))))) ?_
        ·exact Aw rfl rfl <| mv rfl rfl <| An rfl
        ·exact Aw rfl rfl <| nl rfl rfl <| An rfl
        ·exact Aw rfl rfl <| fd rfl fld_133_1 rfl <| An rfl
        ·exact Aw rfl rfl <| ld rfl one_27 hc115 rfl <| An rfl
        ·exact Aw rfl rfl <| mv rfl rfl <| An rfl
        ·exact Ans.mk rfl rfl fun a H => s_idxS (s := l114) H rfl rfl rfl slc_27 h117 h118 h119 (lt_ rfl) fun a H => Ans.fin H rfl
        ·exact Aw rfl rfl <| ld rfl one_22 hc121 rfl <| An rfl
        ·exact Aw rfl rfl <| mv rfl rfl <| An rfl
        ·exact Aw rfl rfl <| mv rfl rfl <| An rfl
        ·exact Ans.mk rfl rfl fun a H => s_slice (v := (Slc.v (l110.cut 1 (Int.toNat ((l9.l : Int))) (Int.toNat ((l110.l : Int)))))) H rfl rfl ⟨rfl, rfl⟩ ⟨rfl, rfl⟩ ⟨rfl, rfl⟩ (r_sliceSlc (lo := (some (.i64, (l9.l : Int)))) (hi := none) slc_22 rfl rfl h122 h123 h124) (lt_ rfl) fun a H => Ans.fin H rfl
        ·intro a H
         replace H := H.weaken (L' := [(102, l120.v), (105, (Slc.v (l110.cut 1 (Int.toNat ((l9.l : Int))) (Int.toNat ((l110.l : Int))))))]) ⟨rfl, rfl, trivial⟩
         obtain ⟨n125, w126, h127, h⟩ := h
         refine s_blt H rfl (H.args (vs := [l120.v, (Slc.v (l110.cut 1 (Int.toNat ((l9.l : Int))) (Int.toNat ((l110.l : Int)))))]) rfl) (lt_ rfl) (fun cs => b_cpy (a := n125) h127) ?_
         clear H a h127
         intro a H
         refine c_nil <| effQ.go [] H rfl rfl <| Stg.fin [] (by kernel_rfl) .nil ?_
         ·intro a H
          replace H := H.weaken (L' := [(4, (.i (l9.l : Int))), (8, (.pointer (some a112))), (89, l95.v), (90, (.i (l95.l : Int))), (91, (.i s97))]) ⟨rfl, rfl, rfl, rfl, rfl, trivial⟩
          refine hK104 _ _ <| c_reg <| ww H <| bn rfl rfl r_add rfl <| mv rfl rfl <| fun a H => c_nil <| Exists.intro (wr .i64 (s97 + 1)) ⟨h.1, h.2, H.weaken ⟨rfl, rfl, rfl, rfl, rfl, trivial⟩⟩
       ·refine c_exit ?_
        first | (simp only [Exit.then, Exit.inBlock, ↓reduceIte]; fail_if_success simp only [Nat.reduceEqDiff]) | simp only [Exit.then, Exit.inBlock, ↓reduceIte, Nat.reduceEqDiff]
        exact hK93 _ _ <| sr fun K128 hK128 => ww H <| mv rfl rfl <| ag rfl rfl <| ag rfl rfl <| fun a H => nk hK128 <| c_ret <| e_ret2 H rfl rfl rfl h

theorem sim_matrix_Matrix_Mul (m1 o2 : Option Addr) (w : World) (Q : Ending → World → Prop) (h : vc_matrix_Matrix_Mul m1 o2 w Q) : Calls PP F_matrix_Matrix_Mul #[(.pointer m1), (.pointer o2)] w Q := by
 unfold vc_matrix_Matrix_Mul at h
 have eP {L : List (Nat × Value)} (c : List PanicEntry) (w' : World) (a : Act) (h : Q (.panicked c) w') (H : Has 98 [] a L) : bodyPost PP Tryz.f32 Q (.panic c) a w' := e_panic H h
 refine enter (n := 98) Tryz.func32 rfl rfl (le_ rfl) fun a H => sr fun K3 hK3 => ww H <| ag rfl rfl <| ag rfl rfl <| fun a H => nk hK3 <| c_seq fun K4 hK4 => sr fun K5 hK5 => ww H <| mv rfl rfl <| bn rfl rfl (r_eqP0 ptr_79) rfl <| fun a H => nk hK5 <| cd H rfl h (fun h6 h => ?_) (fun h6 h => ?_)
 ·exact sr fun K7 hK7 => ww H <| ag rfl rfl <| ag rfl rfl <| fun a H => nk hK7 <| c_ret <| e_ret2 H rfl rfl rfl h
 ·refine c_skip <| hK4 _ _ <| c_seq fun K8 hK8 => c_seq fun K9 hK9 => ?_
  obtain ⟨R11, h, h146⟩ := h
  have h123 : ∀ (a : Act) (s10 : Bool) (w12 : World), R11 s10 w12 → Has 98 [] a [(0, (.pointer m1)), (1, (.pointer o2)), (27, (.bool s10))] → K9 a w12 := by
   clear h
   intro a s10 w12 h H
   replace h := h146 s10 w12 h
   refine hK9 _ _ <| cd H rfl h (fun h13 h => ?_) (fun h13 h => ?_)
   ·exact sr fun K14 hK14 => ww H <| ag rfl rfl <| ag rfl rfl <| fun a H => nk hK14 <| c_ret <| e_ret2 H rfl rfl rfl h
   ·refine c_skip <| hK8 _ _ <| c_seq fun K15 hK15 => c_seq fun K16 hK16 => c_regD mixed (by kernel_rfl) <| z_move H rfl rfl (lt_ rfl) fun a H => ?_
    obtain ⟨a18, h122, h⟩ := h
    revert H
    revert h
    subst h122
    intro h H
    refine z_nil H rfl rfl (lt_ rfl) fun a H => z_fld H rfl rfl fld_133_1 (lt_ rfl) fun a H => ?_
    obtain ⟨l19, hc20, h⟩ := h
    refine z_load (v := l19.v) H rfl rfl one_27 hc20 (lt_ rfl) fun a H => ?_
    obtain ⟨a21, h22, h23, h24, h⟩ := h
    refine z_idxS (s := l19) H rfl rfl rfl slc_27 h22 h23 h24 (lt_ rfl) fun a H => ?_
    obtain ⟨l25, hc26, h⟩ := h
    refine z_load (v := l25.v) H rfl rfl one_22 hc26 (lt_ rfl) fun a H => z_blt H rfl (H.args (vs := [l25.v]) rfl) (lt_ rfl) (fun cs w => b_lenS (z := l25) sl_22) fun a H => z_move H rfl rfl (lt_ rfl) fun a H => ?_
    obtain ⟨a27, h121, h⟩ := h
    revert H
    revert h
    subst h121
    intro h H
    refine z_nil H rfl rfl (lt_ rfl) fun a H => z_fld H rfl rfl fld_133_1 (lt_ rfl) fun a H => ?_
    obtain ⟨l28, hc29, h⟩ := h
    refine z_load (v := l28.v) H rfl rfl one_27 hc29 (lt_ rfl) fun a H => z_blt H rfl (H.args (vs := [l28.v]) rfl) (lt_ rfl) (fun cs w => b_lenS (z := l28) sl_27) fun a H => z_bin H rfl rfl rfl r_neq (lt_ rfl) fun a H => wpQuiet_nil ?_
    rintro _ ⟨k17, rfl⟩
    replace h := h k17
    refine hK16 _ _ <| cd H rfl h (fun h30 h => ?_) (fun h30 h => ?_)
    ·exact sr fun K31 hK31 => ww H <| ag rfl rfl <| ag rfl rfl <| fun a H => nk hK31 <| c_ret <| e_ret2 H rfl rfl rfl h
    ·refine c_skip <| hK15 _ _ <| c_seq fun K32 hK32 => ?_
     replace H := H.weaken (L' := [(0, (.pointer (some a18))), (1, (.pointer (some a27)))]) ⟨rfl, rfl, trivial⟩
     obtain ⟨l33, hc34, l35, hc36, l37, hc38, a39, h40, h41, h42, l43, hc44, h⟩ := h
     refine c_any (V := [(0, (.pointer (some a18))), (1, (.pointer (some a18))), (2, (.pointer (some (a18.add 0)))), (3, (.pointer l33)), (4, (.pointer (some a18))), (5, (.pointer (some a18))), (6, (.pointer (some (a18.add 1)))), (7, l35.v), (8, (.i (l35.l : Int))), (9, (.pointer (some a27))), (10, (.pointer (some a27))), (11, (.pointer (some (a27.add 1)))), (12, l37.v), (13, (.pointer (some (a39.add (Int.toNat (0) * 1))))), (14, l43.v), (15, (.i (l43.l : Int)))]) (⟨[[], [0], [1], [2], [], [4], [5], [6], [7], [], [9], [10], [11], [12], [13], [14], [3, 8, 15], [0, 1, 2, 3, 4, 5, 6, 7, 8, 9, 10, 11, 12, 13, 14, 15, 16]], [some 41, some 42, some 43, some 44, some 45, some 46, some 47, some 48, some 49, some 50, some 51, some 52, some 53, some 54, some 55, some 56, some 57, some 6], [16], [0, 0, 0, 0, 0, 0, 0, 0, 0, 0, 0, 0, 0, 0, 0, 0, 0, 1], [0, 0, 0, 0, 0, 0, 0, 0, 0, 0, 0, 0, 0, 0, 0, 0, 1, 1]⟩ : Rg) [(0, (.pointer (some a18))), (1, (.pointer (some a27)))] mixed (by kernel_rfl) H ?_
     refine Stg.eff [0, 1, 2, 3, 4, 5, 6, 7, 8, 9, 10, 11, 12, 13, 14, 15] (by kernel_rfl) rfl (.cons ?_ (.cons ?_ (.cons ?_ (.cons ?_ (.cons ?_ (.cons ?_ (.cons ?_ (.cons ?_ (.cons ?_ (.cons ?_ (.cons ?_ (.cons ?_ (.cons ?_ (.cons ?_ (.cons ?_ (.cons ?_ .nil)))))))))))))))) ?_
     ·exact Aw rfl rfl <| mv rfl rfl <| An rfl
     ·exact Aw rfl rfl <| nl rfl rfl <| An rfl
     ·exact Aw rfl rfl <| fd rfl fld_133_0 rfl <| An rfl
     ·exact Aw rfl rfl <| ld rfl one_44 hc34 rfl <| An rfl
     ·exact Aw rfl rfl <| mv rfl rfl <| An rfl
     ·exact Aw rfl rfl <| nl rfl rfl <| An rfl
     ·exact Aw rfl rfl <| fd rfl fld_133_1 rfl <| An rfl
     ·exact Aw rfl rfl <| ld rfl one_27 hc36 rfl <| An rfl
     ·exact Aw rfl rfl <| bl (vs := [l35.v]) rfl rfl (fun cs => b_lenS (z := l35) sl_27) <| An rfl
     ·exact Aw rfl rfl <| mv rfl rfl <| An rfl
     ·exact Aw rfl rfl <| nl rfl rfl <| An rfl
     ·exact Aw rfl rfl <| fd rfl fld_133_1 rfl <| An rfl
     ·exact Aw rfl rfl <| ld rfl one_27 hc38 rfl <| An rfl
     ·exact Ans.mk rfl rfl fun a H => s_idxS (s := l37) H rfl rfl rfl slc_27 h40 h41 h42 (lt_ rfl) fun a H => Ans.fin H rfl
     ·exact Aw rfl rfl <| ld rfl one_22 hc44 rfl <| An rfl
     ·exact Aw rfl rfl <| bl (vs := [l43.v]) rfl rfl (fun cs => b_lenS (z := l43) sl_22) <| An rfl
     ·refine cl1 h body_76 rfl rfl eP fun b46 w45 h => fun a H => c_nil <| effQ.go [(17, (.pointer b46))] H rfl rfl <| Stg.fin [17] (by kernel_rfl) (.cons ?_ .nil) ?_
      ·exact Aw rfl rfl <| ag rfl rfl <| An rfl
      ·intro a H
       replace H := H.weaken (L' := [(0, (.pointer (some a18))), (1, (.pointer (some a27))), (6, (.pointer b46))]) ⟨rfl, rfl, rfl, trivial⟩
       obtain ⟨l49, hc50, h⟩ := h
       refine hK32 _ _ <| c_seq fun K47 hK47 => sr fun K48 hK48 => ww H <| mv rfl rfl <| nl rfl rfl <| fd rfl fld_133_1 rfl <| ld rfl one_27 hc50 rfl <| bl (vs := [l49.v]) rfl rfl (fun cs => b_lenS (z := l49) sl_27) <| mv rfl rfl <| fun a H => nk hK48 <| c_block ?_
       obtain ⟨I53, m54, h115, h116⟩ := h
       refine c_loop (σ := Int) (fun z w => I53 z w) (fun z w => m54 z w) (fun z => [(0, (.pointer (some a18))), (1, (.pointer (some a27))), (6, (.pointer b46)), (61, l49.v), (62, (.i (l49.l : Int))), (63, (.i z))]) 0 h115 (H.weaken ⟨rfl, rfl, rfl, rfl, rfl, rfl, trivial⟩) ?_
       clear H h115
       rintro s51 a w52 h H
       replace h := h116 s51 w52 h
       clear h116
       replace H : Has 98 [] a [(0, (.pointer (some a18))), (1, (.pointer (some a27))), (6, (.pointer b46)), (61, l49.v), (62, (.i (l49.l : Int))), (63, (.i s51))] := H
       refine sr fun K55 hK55 => ww H <| bn rfl rfl r_lss rfl <| fun a H => nk hK55 <| c_seq fun K56 hK56 => cd H rfl h (fun h57 h => ?_) (fun h57 h => ?_)
       ·refine c_skip <| hK56 _ _ <| c_seq fun K58 hK58 => ?_
        obtain ⟨R59, h, h113⟩ := h
        have h61 : ∀ (a : Act) (w60 : World), R59 w60 → Has 98 [] a [(0, (.pointer (some a18))), (1, (.pointer (some a27))), (6, (.pointer b46)), (61, l49.v), (62, (.i (l49.l : Int))), (63, (.i s51))] → K58 a w60 := by
         clear h
         intro a w60 h H
         replace h := h113 w60 h
         refine hK58 _ _ <| c_reg <| ww H <| bn rfl rfl r_add rfl <| mv rfl rfl <| fun a H => c_nil <| Exists.intro (wr .i64 (s51 + 1)) ⟨h.1, h.2, H.weaken ⟨rfl, rfl, rfl, rfl, rfl, rfl, trivial⟩⟩
        clear h113
        obtain ⟨a63, h64, h65, h66, h⟩ := h
        refine c_block <| sr fun K62 hK62 => ww H <| mv rfl rfl <| fun a H => s_idxS (s := l49) H rfl rfl rfl slc_27 h64 h65 h66 (lt_ rfl) fun a H => ?_
        obtain ⟨l67, hc68, h⟩ := h
        refine ww H <| ld rfl one_22 hc68 rfl <| ag rfl rfl <| ag rfl rfl <| fun a H => nk hK62 <| sr fun K69 hK69 => ww H <| mv rfl rfl <| bl (vs := [l67.v]) rfl rfl (fun cs => b_lenS (z := l67) sl_22) <| mv rfl rfl <| fun a H => nk hK69 <| c_block ?_
        obtain ⟨I72, m73, h111, h112⟩ := h
        refine c_loop (σ := Int) (fun z w => I72 z w) (fun z w => m73 z w) (fun z => [(0, (.pointer (some a18))), (1, (.pointer (some a27))), (6, (.pointer b46)), (7, (.i s51)), (61, l49.v), (62, (.i (l49.l : Int))), (63, (.i s51)), (68, l67.v), (69, (.i (l67.l : Int))), (70, (.i z))]) 0 h111 (H.weaken ⟨rfl, rfl, rfl, rfl, rfl, rfl, rfl, rfl, rfl, rfl, trivial⟩) ?_
        clear H h111
        rintro s70 a w71 h H
        replace h := h112 s70 w71 h
        clear h112
        replace H : Has 98 [] a [(0, (.pointer (some a18))), (1, (.pointer (some a27))), (6, (.pointer b46)), (7, (.i s51)), (61, l49.v), (62, (.i (l49.l : Int))), (63, (.i s51)), (68, l67.v), (69, (.i (l67.l : Int))), (70, (.i s70))] := H
        refine sr fun K74 hK74 => ww H <| bn rfl rfl r_lss rfl <| fun a H => nk hK74 <| c_seq fun K75 hK75 => cd H rfl h (fun h76 h => ?_) (fun h76 h => ?_)
        ·obtain ⟨a79, h80, h81, h82, h⟩ := h
         refine c_skip <| hK75 _ _ <| c_seq fun K77 hK77 => c_block <| sr fun K78 hK78 => ww H <| mv rfl rfl <| fun a H => s_idxS (s := l67) H rfl rfl rfl slc_22 h80 h81 h82 (lt_ rfl) fun a H => ?_
         obtain ⟨l83, hc84, h⟩ := h
         refine ww H <| ld rfl one_5 hc84 rfl <| ag rfl rfl <| ag rfl rfl <| fun a H => nk hK78 <| ?_
         replace H := H.weaken (L' := [(0, (.pointer (some a18))), (1, (.pointer (some a27))), (6, (.pointer b46)), (7, (.i s51)), (9, (.i s70)), (10, (.int .u8 l83)), (61, l49.v), (62, (.i (l49.l : Int))), (63, (.i s51)), (68, l67.v), (69, (.i (l67.l : Int))), (70, (.i s70))]) ⟨rfl, rfl, rfl, rfl, rfl, rfl, rfl, rfl, rfl, rfl, rfl, rfl, trivial⟩
         obtain ⟨l85, hc86, a87, h88, h⟩ := h
         revert H
         revert h
         subst h88
         intro h H
         obtain ⟨l89, hc90, a91, h92, h93, h94, l95, hc96, l97, hc98, a99, h100, h101, h102, l103, hc104, h⟩ := h
         refine c_any (V := [(0, (.pointer (some a18))), (1, (.pointer (some a18))), (2, (.pointer (some (a18.add 0)))), (3, (.pointer l85)), (4, (.pointer (some a87))), (5, (.pointer (some a87))), (6, (.pointer (some (a87.add 1)))), (7, l89.v), (8, (.i s51)), (9, (.pointer (some (a91.add (Int.toNat (s51) * 1))))), (10, l95.v), (11, (.int .u8 l83)), (12, (.pointer (some a27))), (13, (.pointer (some a27))), (14, (.pointer (some (a27.add 1)))), (15, l97.v), (16, (.i s70)), (17, (.pointer (some (a99.add (Int.toNat (s70) * 1))))), (18, l103.v)]) (⟨[[], [0], [1], [2], [], [4], [5], [6], [], [7, 8], [9], [], [], [12], [13], [14], [], [15, 16], [17], [3, 10, 11, 18]], [some 75, some 76, some 77, some 78, some 79, some 80, some 81, some 82, some 83, some 84, some 85, some 86, some 87, some 88, some 89, some 90, some 91, some 92, some 93, some 94], [19], [0, 0, 0, 0, 0, 0, 0, 0, 0, 0, 0, 0, 0, 0, 0, 0, 0, 0, 0, 0], [0, 0, 0, 0, 0, 0, 0, 0, 0, 0, 0, 0, 0, 0, 0, 0, 0, 0, 0, 1]⟩ : Rg) [(0, (.pointer (some a18))), (1, (.pointer (some a27))), (6, (.pointer (some a87))), (7, (.i s51)), (9, (.i s70)), (10, (.int .u8 l83)), (61, l49.v), (62, (.i (l49.l : Int))), (63, (.i s51)), (68, l67.v), (69, (.i (l67.l : Int))), (70, (.i s70))] mixed (by kernel_rfl) H ?_
         refine Stg.eff [0, 1, 2, 3, 4, 5, 6, 7, 8, 9, 10, 11, 12, 13, 14, 15, 16, 17, 18] (by kernel_rfl) rfl (.cons ?_ (.cons ?_ (.cons ?_ (.cons ?_ (.cons ?_ (.cons ?_ (.cons ?_ (.cons ?_ (.cons ?_ (.cons ?_ (.cons ?_ (.cons ?_ (.cons ?_ (.cons ?_ (.cons ?_ (.cons ?_ (.cons ?_ (.cons ?_ (.cons ?_ .nil))))))))))))))))))) ?_
         ·exact Aw rfl rfl <| mv rfl rfl <| An rfl
         ·exact Aw rfl rfl <| nl rfl rfl <| An rfl
         ·exact Aw rfl rfl <| fd rfl fld_133_0 rfl <| An rfl
         ·exact Aw rfl rfl <| ld rfl one_44 hc86 rfl <| An rfl
         ·exact Aw rfl rfl <| mv rfl rfl <| An rfl
         ·exact Aw rfl rfl <| nl rfl rfl <| An rfl
         ·exact Aw rfl rfl <| fd rfl fld_133_1 rfl <| An rfl
         ·exact Aw rfl rfl <| ld rfl one_27 hc90 rfl <| An rfl
         ·exact Aw rfl rfl <| mv rfl rfl <| An rfl
         ·exact Ans.mk rfl rfl fun a H => s_idxS (s := l89) H rfl rfl rfl slc_27 h92 h93 h94 (lt_ rfl) fun a H => Ans.fin H rfl
         ·exact Aw rfl rfl <| ld rfl one_22 hc96 rfl <| An rfl
         ·exact Aw rfl rfl <| mv rfl rfl <| An rfl
         ·exact Aw rfl rfl <| mv rfl rfl <| An rfl
         ·exact Aw rfl rfl <| nl rfl rfl <| An rfl
         ·exact Aw rfl rfl <| fd rfl fld_133_1 rfl <| An rfl
         ·exact Aw rfl rfl <| ld rfl one_27 hc98 rfl <| An rfl
         ·exact Aw rfl rfl <| mv rfl rfl <| An rfl
         ·exact Ans.mk rfl rfl fun a H => s_idxS (s := l97) H rfl rfl rfl slc_27 h100 h101 h102 (lt_ rfl) fun a H => Ans.fin H rfl
         ·exact Aw rfl rfl <| ld rfl one_22 hc104 rfl <| An rfl
         ·refine cl1 h body_36 rfl rfl eP fun A106 w105 h => fun a H => c_nil <| effQ.go [] H rfl rfl <| Stg.fin [] (by kernel_rfl) .nil ?_
          ·intro a H
           replace H := H.weaken (L' := [(0, (.pointer (some a18))), (1, (.pointer (some a27))), (6, (.pointer (some a87))), (7, (.i s51)), (61, l49.v), (62, (.i (l49.l : Int))), (63, (.i s51)), (68, l67.v), (69, (.i (l67.l : Int))), (70, (.i s70))]) ⟨rfl, rfl, rfl, rfl, rfl, rfl, rfl, rfl, rfl, rfl, trivial⟩
           refine hK77 _ _ <| c_reg <| ww H <| bn rfl rfl r_add rfl <| mv rfl rfl <| fun a H => c_nil <| Exists.intro (wr .i64 (s70 + 1)) ⟨h.1, h.2, H.weaken ⟨rfl, rfl, rfl, rfl, rfl, rfl, rfl, rfl, rfl, rfl, trivial⟩⟩
        ·refine c_exit ?_
         first | (simp only [Exit.then, Exit.inBlock, ↓reduceIte]; fail_if_success simp only [Nat.reduceEqDiff]) | simp only [Exit.then, Exit.inBlock, ↓reduceIte, Nat.reduceEqDiff]
         exact h61 _ _ h (H.weaken ⟨rfl, rfl, rfl, rfl, rfl, rfl, trivial⟩)
       ·refine c_exit ?_
        first | (simp only [Exit.then, Exit.inBlock, ↓reduceIte]; fail_if_success simp only [Nat.reduceEqDiff]) | simp only [Exit.then, Exit.inBlock, ↓reduceIte, Nat.reduceEqDiff]
        exact hK47 _ _ <| sr fun K114 hK114 => ww H <| mv rfl rfl <| ag rfl rfl <| ag rfl rfl <| fun a H => nk hK114 <| c_ret <| e_ret2 H rfl rfl rfl h
  clear h146
  replace H := H.weaken (L' := [(0, (.pointer m1)), (1, (.pointer o2))]) ⟨rfl, rfl, trivial⟩
  rcases Bool.eq_false_or_eq_true o2.isNone with h124 | h124
  ·replace h := h.1 h124
   refine c_any (V := [(0, (.pointer o2)), (1, (.bool o2.isNone)), (2, (.bool o2.isNone)), (3, undef), (4, undef), (5, undef), (6, undef), (8, undef), (9, undef), (10, undef), (11, undef)]) (⟨[[], [0], [1], [2], [2, 3], [2, 4], [2, 5], [2, 6], [2], [2, 8], [2, 9], [2, 10], [2, 7, 11], [2, 7, 12], [2, 13]], [some 13, some 14, some 15, some 16, some 17, some 18, some 19, some 20, some 21, some 22, some 23, some 24, some 25, some 26, some 27], [7, 12], [0, 0, 0, 0, 0, 0, 0, 0, 0, 0, 0, 0, 1, 2, 2], [0, 0, 0, 0, 0, 0, 0, 1, 1, 1, 1, 1, 2, 2, 2]⟩ : Rg) [(0, (.pointer m1)), (1, (.pointer o2))] mixed (by kernel_rfl) H <| Stg.eff [0, 1, 2, 3, 4, 5, 6, 8, 9, 10, 11] (by kernel_rfl) rfl (.cons ?_ (.cons ?_ (.cons ?_ (.cons ?_ (.cons ?_ (.cons ?_ (.cons ?_ (.cons ?_ (.cons ?_ (.cons ?_ (.cons ?_ .nil))))))))))) ?_
   ·exact Aw rfl rfl <| mv rfl rfl <| An rfl
   ·exact Aw rfl rfl <| bn rfl rfl (r_eqP0 ptr_79) rfl <| An rfl
   ·exact Aw rfl rfl <| mv rfl rfl <| An rfl
   ·exact .skip rfl rfl rfl rfl rfl rfl h124 rfl
   ·exact .skip rfl rfl rfl rfl rfl rfl h124 rfl
   ·exact .skip rfl rfl rfl rfl rfl rfl h124 rfl
   ·exact .skip rfl rfl rfl rfl rfl rfl h124 rfl
   ·exact .skip rfl rfl rfl rfl rfl rfl h124 rfl
   ·exact .skip rfl rfl rfl rfl rfl rfl h124 rfl
   ·exact .skip rfl rfl rfl rfl rfl rfl h124 rfl
   ·exact .skip rfl rfl rfl rfl rfl rfl h124 rfl
   ·intro a H
    replace H := H.weaken (L' := [(15, (.bool o2.isNone)), (19, undef)]) ⟨rfl, rfl, trivial⟩
    replace H := H.ch (t := 15) (b := true) rfl h124
    refine ww H <| sk rfl rfl rfl rfl <| fun a H => c_nil <| effQ.go [] H rfl rfl <| Stg.eff [8, 9, 10, 11] (by kernel_rfl) rfl (.cons ?_ (.cons ?_ (.cons ?_ (.cons ?_ .nil)))) ?_
    ·exact .skip rfl rfl rfl rfl rfl rfl h124 rfl
    ·exact .skip rfl rfl rfl rfl rfl rfl h124 rfl
    ·exact .skip rfl rfl rfl rfl rfl rfl h124 rfl
    ·exact .skip rfl rfl rfl rfl rfl rfl h124 rfl
    ·intro a H
     replace H := H.weaken (L' := [(15, (.bool o2.isNone)), (24, undef)]) ⟨rfl, rfl, trivial⟩
     replace H := H.ch (t := 15) (b := true) rfl h124
     refine ww H <| sk rfl rfl rfl rfl <| fun a H => c_nil <| effQ.go [(13, undef), (14, (.bool true))] H rfl rfl <| Stg.fin [13, 14] (by kernel_rfl) (.cons ?_ (.cons ?_ .nil)) ?_
     ·exact .skip rfl rfl rfl rfl rfl rfl h124 rfl
     ·refine Ans.mk rfl rfl fun a H => ?_
      replace H := H.ch (t := 15) (b := true) rfl h124
      exact ww H <| pT rfl rfl rfl <| fun a H => Ans.fin H rfl
     ·intro a H
      replace H := H.weaken (L' := [(0, (.pointer m1)), (1, (.pointer o2)), (27, (.bool true))]) ⟨rfl, rfl, rfl, trivial⟩
      exact h123 _ _ _ h (H.weaken ⟨rfl, rfl, rfl, trivial⟩)
  ·replace h := h.2 h124
   obtain ⟨a125, h126, h⟩ := h
   revert H
   revert h
   subst h126
   intro h H
   obtain ⟨l127, hc128, a129, h130, h⟩ := h
   revert H
   revert h
   subst h130
   intro h H
   obtain ⟨l131, hc132, h⟩ := h
   refine c_any (V := [(0, (.pointer (some a125))), (1, (.bool (some a125).isNone)), (2, (.bool (some a125).isNone)), (3, (.pointer (some a125))), (4, (.pointer (some a125))), (5, (.pointer (some (a125.add 0)))), (6, (.pointer l127)), (8, (.pointer (some a129))), (9, (.pointer (some a129))), (10, (.pointer (some (a129.add 0)))), (11, (.pointer l131))]) (⟨[[], [0], [1], [2], [2, 3], [2, 4], [2, 5], [2, 6], [2], [2, 8], [2, 9], [2, 10], [2, 7, 11], [2, 7, 12], [2, 13]], [some 13, some 14, some 15, some 16, some 17, some 18, some 19, some 20, some 21, some 22, some 23, some 24, some 25, some 26, some 27], [7, 12], [0, 0, 0, 0, 0, 0, 0, 0, 0, 0, 0, 0, 1, 2, 2], [0, 0, 0, 0, 0, 0, 0, 1, 1, 1, 1, 1, 2, 2, 2]⟩ : Rg) [(0, (.pointer (some a129))), (1, (.pointer (some a125)))] mixed (by kernel_rfl) H <| Stg.eff [0, 1, 2, 3, 4, 5, 6, 8, 9, 10, 11] (by kernel_rfl) rfl (.cons ?_ (.cons ?_ (.cons ?_ (.cons ?_ (.cons ?_ (.cons ?_ (.cons ?_ (.cons ?_ (.cons ?_ (.cons ?_ (.cons ?_ .nil))))))))))) ?_
   ·exact Aw rfl rfl <| mv rfl rfl <| An rfl
   ·exact Aw rfl rfl <| bn rfl rfl (r_eqP0 ptr_79) rfl <| An rfl
   ·exact Aw rfl rfl <| mv rfl rfl <| An rfl
   ·refine Ans.mk rfl rfl fun a H => ?_
    replace H := H.ch (t := 15) (b := false) rfl h124
    exact ww H <| gmv rfl rfl rfl rfl <| fun a H => Ans.fin H rfl
   ·refine Ans.mk rfl rfl fun a H => ?_
    replace H := H.ch (t := 15) (b := false) rfl h124
    exact ww H <| gnl rfl rfl rfl rfl <| fun a H => Ans.fin H rfl
   ·refine Ans.mk rfl rfl fun a H => ?_
    replace H := H.ch (t := 15) (b := false) rfl h124
    exact ww H <| gfd rfl rfl rfl fld_133_0 rfl <| fun a H => Ans.fin H rfl
   ·refine Ans.mk rfl rfl fun a H => ?_
    replace H := H.ch (t := 15) (b := false) rfl h124
    exact ww H <| gld rfl rfl rfl one_44 hc128 rfl <| fun a H => Ans.fin H rfl
   ·refine Ans.mk rfl rfl fun a H => ?_
    replace H := H.ch (t := 15) (b := false) rfl h124
    exact ww H <| gmv rfl rfl rfl rfl <| fun a H => Ans.fin H rfl
   ·refine Ans.mk rfl rfl fun a H => ?_
    replace H := H.ch (t := 15) (b := false) rfl h124
    exact ww H <| gnl rfl rfl rfl rfl <| fun a H => Ans.fin H rfl
   ·refine Ans.mk rfl rfl fun a H => ?_
    replace H := H.ch (t := 15) (b := false) rfl h124
    exact ww H <| gfd rfl rfl rfl fld_133_0 rfl <| fun a H => Ans.fin H rfl
   ·refine Ans.mk rfl rfl fun a H => ?_
    replace H := H.ch (t := 15) (b := false) rfl h124
    exact ww H <| gld rfl rfl rfl one_44 hc132 rfl <| fun a H => Ans.fin H rfl
   ·intro a H
    replace H := H.weaken (L' := [(15, (.bool (some a125).isNone)), (19, (.pointer l127))]) ⟨rfl, rfl, trivial⟩
    replace H := H.ch (t := 15) (b := false) rfl h124
    refine s_call H (wantG H rfl rfl) body_78 (H.args (vs := [(.pointer l127)]) rfl) (lt_ rfl) h ?_ (fun c w' => eP c w' _)
    clear H h a
    rintro _ w133 a ⟨P134, rfl, h⟩ H
    obtain ⟨hc135, h⟩ := h
    refine c_nil <| effQ.go [] H rfl rfl <| Stg.eff [8, 9, 10, 11] (by kernel_rfl) rfl (.cons ?_ (.cons ?_ (.cons ?_ (.cons ?_ .nil)))) ?_
    ·refine Ans.mk rfl rfl fun a H => ?_
     replace H := H.ch (t := 15) (b := false) rfl h124
     exact ww H <| gmv rfl rfl rfl rfl <| fun a H => Ans.fin H rfl
    ·refine Ans.mk rfl rfl fun a H => ?_
     replace H := H.ch (t := 15) (b := false) rfl h124
     exact ww H <| gnl rfl rfl rfl rfl <| fun a H => Ans.fin H rfl
    ·refine Ans.mk rfl rfl fun a H => ?_
     replace H := H.ch (t := 15) (b := false) rfl h124
     exact ww H <| gfd rfl rfl rfl fld_133_0 rfl <| fun a H => Ans.fin H rfl
    ·refine Ans.mk rfl rfl fun a H => ?_
     replace H := H.ch (t := 15) (b := false) rfl h124
     exact ww H <| gld rfl rfl rfl one_44 hc135 rfl <| fun a H => Ans.fin H rfl
    ·intro a H
     replace H := H.weaken (L' := [(15, (.bool (some a125).isNone)), (24, (.pointer l131))]) ⟨rfl, rfl, trivial⟩
     replace H := H.ch (t := 15) (b := false) rfl h124
     refine s_call H (wantG H rfl rfl) body_78 (H.args (vs := [(.pointer l131)]) rfl) (lt_ rfl) h ?_ (fun c w' => eP c w' _)
     clear H h a
     rintro _ w136 a ⟨P137, rfl, h⟩ H
     refine c_nil <| effQ.go [(13, (.bool (decide (P134 ≠ P137)))), (14, (.bool (decide (P134 ≠ P137))))] H rfl rfl <| Stg.fin [13, 14] (by kernel_rfl) (.cons ?_ (.cons ?_ .nil)) ?_
     ·refine Ans.mk rfl rfl fun a H => ?_
      replace H := H.ch (t := 15) (b := false) rfl h124
      exact ww H <| gbn rfl rfl rfl rfl r_neq rfl <| fun a H => Ans.fin H rfl
     ·refine Ans.mk rfl rfl fun a H => ?_
      replace H := H.ch (t := 15) (b := false) rfl h124
      exact ww H <| pF rfl rfl rfl <| fun a H => Ans.fin H rfl
     ·intro a H
      replace H := H.weaken (L' := [(0, (.pointer (some a129))), (1, (.pointer (some a125))), (27, (.bool (decide (P134 ≠ P137))))]) ⟨rfl, rfl, rfl, trivial⟩
      exact h123 _ _ _ h (H.weaken ⟨rfl, rfl, rfl, trivial⟩)

theorem sim_matrix_Matrix_Rows (m1 : Option Addr) (w : World) (Q : Ending → World → Prop) (h : vc_matrix_Matrix_Rows m1 w Q) : Calls PP F_matrix_Matrix_Rows #[(.pointer m1)] w Q := by
 unfold vc_matrix_Matrix_Rows at h
 refine enter (n := 30) Tryz.func33 rfl rfl (le_ rfl) fun a H => sr fun K2 hK2 => ww H <| ag rfl rfl <| fun a H => nk hK2 <| c_seq fun K3 hK3 => sr fun K4 hK4 => ww H <| mv rfl rfl <| bn rfl rfl (r_eqP0 ptr_79) rfl <| fun a H => nk hK4 <| cd H rfl h (fun h5 h => ?_) (fun h5 h => ?_)
 ·exact sr fun K6 hK6 => ww H <| ag rfl rfl <| fun a H => nk hK6 <| c_ret <| e_ret1 H rfl rfl h
 ·obtain ⟨a8, h46, h⟩ := h
  refine c_skip <| hK3 _ _ <| sr fun K7 hK7 => ww H <| mv rfl rfl <| fun a H => ?_
  revert H
  revert h
  subst h46
  intro h H
  obtain ⟨l9, hc10, s11, w12, h13, h⟩ := h
  refine ww H <| nl rfl rfl <| fd rfl fld_133_1 rfl <| ld rfl one_27 hc10 rfl <| bl (vs := [l9.v]) rfl rfl (fun cs => b_lenS (z := l9) sl_27) <| fun a H => s_mk H rfl rfl rfl h13 (lt_ rfl) ?_
  clear H a h13
  intro a H
  obtain ⟨l16, hc17, h⟩ := h
  refine ww H <| ag rfl rfl <| fun a H => nk hK7 <| c_seq fun K14 hK14 => sr fun K15 hK15 => ww H <| mv rfl rfl <| nl rfl rfl <| fd rfl fld_133_1 rfl <| ld rfl one_27 hc17 rfl <| bl (vs := [l16.v]) rfl rfl (fun cs => b_lenS (z := l16) sl_27) <| mv rfl rfl <| fun a H => nk hK15 <| c_block ?_
  obtain ⟨I21, m22, h44, h45⟩ := h
  refine c_loop (σ := Slc × Int) (fun z w => I21 z.1 z.2 w) (fun z w => m22 z.1 z.2 w) (fun z => [(3, z.1.v), (17, l16.v), (18, (.i (l16.l : Int))), (19, (.i z.2))]) (s11, 0) h44 (H.weaken ⟨rfl, rfl, rfl, rfl, trivial⟩) ?_
  clear H h44
  rintro ⟨o18, s19⟩ a w20 h H
  replace h := h45 o18 s19 w20 h
  clear h45
  replace H : Has 30 [] a [(3, o18.v), (17, l16.v), (18, (.i (l16.l : Int))), (19, (.i s19))] := H
  refine sr fun K23 hK23 => ww H <| bn rfl rfl r_lss rfl <| fun a H => nk hK23 <| c_seq fun K24 hK24 => cd H rfl h (fun h25 h => ?_) (fun h25 h => ?_)
  ·obtain ⟨a28, h29, h30, h31, h⟩ := h
   refine c_skip <| hK24 _ _ <| c_seq fun K26 hK26 => c_block <| sr fun K27 hK27 => s_idxS (s := l16) H rfl rfl rfl slc_27 h29 h30 h31 (lt_ rfl) fun a H => ?_
   obtain ⟨l32, hc33, s34, w35, h36, h⟩ := h
   refine ww H <| ld rfl one_22 hc33 rfl <| ag rfl rfl <| fun a H => nk hK27 <| c_reg <| ww H <| mv rfl rfl <| mv rfl rfl <| fun a H => s_blt H rfl (H.args (vs := [Slc.nil.v, l32.v]) rfl) (lt_ rfl) (fun cs => b_app (z := s34) h36) ?_
   clear H a h36
   intro a H
   replace h := h.get
   obtain ⟨b37, w38, n39, h⟩ := h
   refine s_bslc H rfl (by rw [H.parts (vs := [(0, s34.v)]) rfl]; exact bs_27_1_s0 w35 s34) (lt_ rfl) ?_
   rw [← n39.at_]
   clear H a
   intro a H
   refine n39.go ?_
   obtain ⟨s40, w41, h42, h⟩ := h
   refine s_blt H rfl (H.args (vs := [o18.v, (Slc.v (Slc.mk (some (blk b37)) 1 1))]) rfl) (lt_ rfl) (fun cs => b_app (z := s40) h42) ?_
   clear H a h42
   intro a H
   refine ww H <| ag rfl rfl <| fun a H => nk hK26 <| c_reg <| ww H <| bn rfl rfl r_add rfl <| mv rfl rfl <| fun a H => c_nil <| Exists.intro (s40, wr .i64 (s19 + 1)) ⟨h.1, h.2, H.weaken ⟨rfl, rfl, rfl, rfl, trivial⟩⟩
  ·refine c_exit ?_
   first | (simp only [Exit.then, Exit.inBlock, ↓reduceIte]; fail_if_success simp only [Nat.reduceEqDiff]) | simp only [Exit.then, Exit.inBlock, ↓reduceIte, Nat.reduceEqDiff]
   exact hK14 _ _ <| sr fun K43 hK43 => ww H <| mv rfl rfl <| ag rfl rfl <| fun a H => nk hK43 <| c_ret <| e_ret1 H rfl rfl h

theorem sim_slices_ContainsFunc_byte_byte_34 (s1 : Slc) (f2 : Value) (w : World) (Q : Ending → World → Prop) (h : vc_slices_ContainsFunc_byte_byte_34 s1 f2 w Q) : Calls PP F_slices_ContainsFunc_byte_byte_34 #[s1.v, f2] w Q := by
 unfold vc_slices_ContainsFunc_byte_byte_34 at h
 have eP {L : List (Nat × Value)} (c : List PanicEntry) (w' : World) (a : Act) (h : Q (.panicked c) w') (H : Has 9 [] a L) : bodyPost PP Tryz.f34 Q (.panic c) a w' := e_panic H h
 exact enter (n := 9) Tryz.func34 rfl rfl (le_ rfl) fun a H => sr fun K3 hK3 => ww H <| ag rfl rfl <| fun a H => nk hK3 <| sr fun K4 hK4 => ww H <| mv rfl rfl <| mv rfl rfl <| cl1 h body_79 rfl rfl eP fun r6 w5 h => bn rfl rfl r_geq rfl <| ag rfl rfl <| fun a H => nk hK4 <| c_ret <| e_ret1 H rfl rfl h

theorem sim_code_Code_shaped_c1 (r1 : Slc) (c2 : Addr) (w : World) (Q : Ending → World → Prop) (h : vc_code_Code_shaped_c1 r1 c2 w Q) : Calls PP F_code_Code_shaped_c1 #[r1.v, (.pointer (some c2))] w Q := by
 unfold vc_code_Code_shaped_c1 at h
 refine enter (n := 11) Tryz.func35 rfl rfl (le_ rfl) fun a H => ?_
 obtain ⟨l5, hc6, a7, h8, h9, h10, h⟩ := h
 refine sr fun K3 hK3 => ww H <| ag rfl rfl <| fun a H => nk hK3 <| sr fun K4 hK4 => ww H <| mv rfl rfl <| bl (vs := [r1.v]) rfl rfl (fun cs => b_lenS (z := r1) sl_22) <| ld rfl one_27 hc6 rfl <| fun a H => s_idxS (s := l5) H rfl rfl rfl slc_27 h8 h9 h10 (lt_ rfl) fun a H => ?_
 obtain ⟨l11, hc12, h⟩ := h
 exact ww H <| ld rfl one_22 hc12 rfl <| bl (vs := [l11.v]) rfl rfl (fun cs => b_lenS (z := l11) sl_22) <| bn rfl rfl r_neq rfl <| ag rfl rfl <| fun a H => nk hK4 <| c_ret <| e_ret1 H rfl rfl h

theorem sim_gf_Field_AddMul (f1 : Option Addr) (d2 : Slc) (c3 : Int) (s4 : Slc) (w : World) (Q : Ending → World → Prop) (h : vc_gf_Field_AddMul f1 d2 c3 s4 w Q) : Calls PP F_gf_Field_AddMul #[(.pointer f1), d2.v, (.int .u8 c3), s4.v] w Q := by
 unfold vc_gf_Field_AddMul at h
 have eP {L : List (Nat × Value)} (c : List PanicEntry) (w' : World) (a : Act) (h : Q (.panicked c) w') (H : Has 39 [] a L) : bodyPost PP Tryz.f36 Q (.panic c) a w' := e_panic H h
 refine enter (n := 39) Tryz.func36 rfl rfl (le_ rfl) fun a H => sr fun K5 hK5 => ww H <| ag rfl rfl <| fun a H => nk hK5 <| c_seq fun K6 hK6 => sr fun K7 hK7 => ww H <| mv rfl rfl <| bn rfl rfl (r_eqP0 ptr_44) rfl <| fun a H => nk hK7 <| cd H rfl h (fun h8 h => ?_) (fun h8 h => ?_)
 ·exact sr fun K9 hK9 => ww H <| ag rfl rfl <| fun a H => nk hK9 <| c_ret <| e_ret1 H rfl rfl h
 ·refine c_skip <| hK6 _ _ <| c_seq fun K10 hK10 => sr fun K11 hK11 => ww H <| mv rfl rfl <| bl (vs := [d2.v]) rfl rfl (fun cs => b_lenS (z := d2) sl_22) <| mv rfl rfl <| bl (vs := [s4.v]) rfl rfl (fun cs => b_lenS (z := s4) sl_22) <| bn rfl rfl r_neq rfl <| fun a H => nk hK11 <| cd H rfl h (fun h12 h => ?_) (fun h12 h => ?_)
  ·exact sr fun K13 hK13 => ww H <| ag rfl rfl <| fun a H => nk hK13 <| c_ret <| e_ret1 H rfl rfl h
  ·obtain ⟨s15, w16, h17, h⟩ := h
   refine c_skip <| hK10 _ _ <| sr fun K14 hK14 => ww H <| mv rfl rfl <| fun a H => s_blt H rfl (H.args (vs := [Slc.nil.v, s4.v]) rfl) (lt_ rfl) (fun cs => b_app (z := s15) h17) ?_
   clear H a h17
   intro a H
   refine ww H <| ag rfl rfl <| fun a H => nk hK14 <| c_seq fun K18 hK18 => sr fun K19 hK19 => ww H <| mv rfl rfl <| bl (vs := [s15.v]) rfl rfl (fun cs => b_lenS (z := s15) sl_22) <| mv rfl rfl <| fun a H => nk hK19 <| c_block ?_
   obtain ⟨I22, m23, h56, h57⟩ := h
   refine c_loop (σ := Int) (fun z w => I22 z w) (fun z w => m23 z w) (fun z => [(0, (.pointer f1)), (1, d2.v), (2, (.int .u8 c3)), (21, s15.v), (22, (.i (s15.l : Int))), (23, (.i z))]) 0 h56 (H.weaken ⟨rfl, rfl, rfl, rfl, rfl, rfl, trivial⟩) ?_
   clear H h56
   rintro s20 a w21 h H
   replace h := h57 s20 w21 h
   clear h57
   replace H : Has 39 [] a [(0, (.pointer f1)), (1, d2.v), (2, (.int .u8 c3)), (21, s15.v), (22, (.i (s15.l : Int))), (23, (.i s20))] := H
   refine sr fun K24 hK24 => ww H <| bn rfl rfl r_lss rfl <| fun a H => nk hK24 <| c_seq fun K25 hK25 => cd H rfl h (fun h26 h => ?_) (fun h26 h => ?_)
   ·obtain ⟨a29, h30, h31, h32, h⟩ := h
    refine c_skip <| hK25 _ _ <| c_seq fun K27 hK27 => c_block <| sr fun K28 hK28 => ww H <| mv rfl rfl <| fun a H => s_idxS (s := s15) H rfl rfl rfl slc_22 h30 h31 h32 (lt_ rfl) fun a H => ?_
    obtain ⟨l33, hc34, h⟩ := h
    refine ww H <| ld rfl one_5 hc34 rfl <| ag rfl rfl <| ag rfl rfl <| fun a H => nk hK28 <| ?_
    replace H := H.weaken (L' := [(0, (.pointer f1)), (1, d2.v), (2, (.int .u8 c3)), (10, (.i s20)), (11, (.int .u8 l33)), (21, s15.v), (22, (.i (s15.l : Int))), (23, (.i s20))]) ⟨rfl, rfl, rfl, rfl, rfl, rfl, rfl, rfl, trivial⟩
    obtain ⟨a35, h36, h37, h38, l39, hc40, h⟩ := h
    refine c_any (V := [(0, d2.v), (1, (.i s20)), (2, (.pointer (some (a35.add (Int.toNat (s20) * 1))))), (3, (.int .u8 l39)), (4, (.pointer f1)), (5, (.int .u8 c3)), (6, (.int .u8 l33))]) (⟨[[], [], [0, 1], [2], [], [], [], [4, 5, 6], [3, 7], [0, 1, 2, 3, 4, 5, 6, 7, 8], [0, 1, 2, 3, 4, 5, 6, 7, 8, 9]], [some 28, some 29, some 30, some 31, some 32, some 33, some 34, some 35, some 36, some 37, none], [7, 10], [0, 0, 0, 0, 0, 0, 0, 0, 1, 1, 1], [1, 1, 1, 1, 0, 0, 0, 1, 1, 1, 2]⟩ : Rg) [(0, (.pointer f1)), (1, d2.v), (2, (.int .u8 c3)), (10, (.i s20)), (11, (.int .u8 l33)), (21, s15.v), (22, (.i (s15.l : Int))), (23, (.i s20))] mixed (by kernel_rfl) H <| Stg.eff [0, 1, 2, 3, 4, 5, 6] (by kernel_rfl) rfl (.cons ?_ (.cons ?_ (.cons ?_ (.cons ?_ (.cons ?_ (.cons ?_ (.cons ?_ .nil))))))) ?_
    ·exact Aw rfl rfl <| mv rfl rfl <| An rfl
    ·exact Aw rfl rfl <| mv rfl rfl <| An rfl
    ·exact Ans.mk rfl rfl fun a H => s_idxS (s := d2) H rfl rfl rfl slc_22 h36 h37 h38 (lt_ rfl) fun a H => Ans.fin H rfl
    ·exact Aw rfl rfl <| ld rfl one_5 hc40 rfl <| An rfl
    ·exact Aw rfl rfl <| mv rfl rfl <| An rfl
    ·exact Aw rfl rfl <| mv rfl rfl <| An rfl
    ·exact Aw rfl rfl <| mv rfl rfl <| An rfl
    ·refine cl1 h body_52 rfl rfl eP fun M42 w41 h => fun a H => ?_
     obtain ⟨hc43, a44, h45, h46, h47, h⟩ := h
     refine c_nil <| effQ.go [(8, (.int .u8 (xorI .u8 l39 M42))), (9, (.pointer (some (a44.add (Int.toNat (s20) * 1)))))] H rfl rfl <| Stg.eff [0, 1, 2, 3, 8, 9] (by kernel_rfl) rfl (.cons ?_ (.cons ?_ (.cons ?_ (.cons ?_ (.cons ?_ (.cons ?_ .nil)))))) ?_
     ·exact Aw rfl rfl <| mv rfl rfl <| An rfl
     ·exact Aw rfl rfl <| mv rfl rfl <| An rfl
     ·exact Ans.mk rfl rfl fun a H => s_idxS (s := d2) H rfl rfl rfl slc_22 h36 h37 h38 (lt_ rfl) fun a H => Ans.fin H rfl
     ·exact Aw rfl rfl <| ld rfl one_5 hc43 rfl <| An rfl
     ·exact Aw rfl rfl <| bn rfl rfl r_xor rfl <| An rfl
     ·exact Ans.mk rfl rfl fun a H => s_idxS (s := d2) H rfl rfl rfl slc_22 h45 h46 h47 (lt_ rfl) fun a H => Ans.fin H rfl
     ·refine st h rfl rfl one_5 rfl fun w48 w48S h => fun a H => c_nil <| effQ.go0 [] H rfl rfl <| Stg.fin [] (by kernel_rfl) .nil ?_
      ·intro a H
       replace H := H.weaken (L' := [(0, (.pointer f1)), (1, d2.v), (2, (.int .u8 c3)), (21, s15.v), (22, (.i (s15.l : Int))), (23, (.i s20))]) ⟨rfl, rfl, rfl, rfl, rfl, rfl, trivial⟩
       refine hK27 _ _ <| c_reg <| ww H <| bn rfl rfl r_add rfl <| mv rfl rfl <| fun a H => c_nil <| Exists.intro (wr .i64 (s20 + 1)) ⟨h.1, h.2, H.weaken ⟨rfl, rfl, rfl, rfl, rfl, rfl, trivial⟩⟩
   ·refine c_exit ?_
    first | (simp only [Exit.then, Exit.inBlock, ↓reduceIte]; fail_if_success simp only [Nat.reduceEqDiff]) | simp only [Exit.then, Exit.inBlock, ↓reduceIte, Nat.reduceEqDiff]
    exact hK18 _ _ <| sr fun K55 hK55 => ww H <| ag rfl rfl <| fun a H => nk hK55 <| c_ret <| e_ret1 H rfl rfl h

theorem sim_code_Code_Decode (c1 : Option Addr) (p2 : Slc) (w : World) (Q : Ending → World → Prop) (h : vc_code_Code_Decode c1 p2 w Q) : Calls PP F_code_Code_Decode #[(.pointer c1), p2.v] w Q := by
 unfold vc_code_Code_Decode at h
 have eP {L : List (Nat × Value)} (c : List PanicEntry) (w' : World) (a : Act) (h : Q (.panicked c) w') (H : Has 113 [] a L) : bodyPost PP Tryz.f50 Q (.panic c) a w' := e_panic H h
 refine enter (n := 113) Tryz.func50 rfl rfl (le_ rfl) fun a H => sr fun K3 hK3 => ww H <| ag rfl rfl <| ag rfl rfl <| fun a H => nk hK3 <| c_seq fun K4 hK4 => sr fun K5 hK5 => ww H <| mv rfl rfl <| bn rfl rfl (r_eqP0 ptr_26) rfl <| fun a H => nk hK5 <| cd H rfl h (fun h6 h => ?_) (fun h6 h => ?_)
 ·exact sr fun K7 hK7 => ww H <| ag rfl rfl <| ag rfl rfl <| fun a H => nk hK7 <| c_ret <| e_ret2 H rfl rfl rfl h
 ·refine c_skip <| hK4 _ _ <| c_seq fun K8 hK8 => sr fun K9 hK9 => ww H <| mv rfl rfl <| mv rfl rfl <| cl1 h body_84 rfl rfl eP fun r11 w10 h => ag rfl rfl <| fun a H => nk hK9 <| sr fun K12 hK12 => ww H <| mv rfl rfl <| bn rfl rfl r_neq rfl <| fun a H => nk hK12 <| cd H rfl h (fun h13 h => ?_) (fun h13 h => ?_)
  ·exact sr fun K14 hK14 => ww H <| mv rfl rfl <| ag rfl rfl <| ag rfl rfl <| fun a H => nk hK14 <| c_ret <| e_ret2 H rfl rfl rfl h
  ·obtain ⟨a18, h190, h⟩ := h
   refine c_skip <| hK8 _ _ <| sr fun K15 hK15 => ww H <| ag rfl rfl <| ag rfl rfl <| fun a H => nk hK15 <| c_seq fun K16 hK16 => sr fun K17 hK17 => ww H <| mv rfl rfl <| mv rfl rfl <| fun a H => ?_
   revert H
   revert h
   subst h190
   intro h H
   obtain ⟨l19, hc20, h21, h22, h23, h⟩ := h
   refine ww H <| nl rfl rfl <| fd rfl fld_46_2 rfl <| ld rfl one_3 hc20 rfl <| fun a H => s_slice (v := (Slc.v (p2.cut 2 (Int.toNat (0)) (Int.toNat (l19))))) H rfl rfl ⟨rfl, rfl⟩ ⟨rfl, rfl⟩ ⟨rfl, rfl⟩ (r_sliceSlc (lo := none) (hi := (some (.i64, l19))) slc_28 rfl rfl h21 h22 h23) (lt_ rfl) fun a H => ww H <| bl (vs := [(Slc.v (p2.cut 2 (Int.toNat (0)) (Int.toNat (l19))))]) rfl rfl (fun cs => b_lenS (z := p2.cut 2 (Int.toNat (0)) (Int.toNat (l19))) sl_28) <| mv rfl rfl <| fun a H => nk hK17 <| c_block ?_
   obtain ⟨I28, m29, h188, h189⟩ := h
   refine c_loop (σ := Slc × Slc × Int) (fun z w => I28 z.1 z.2.1 z.2.2 w) (fun z w => m29 z.1 z.2.1 z.2.2 w) (fun z => [(0, (.pointer (some a18))), (1, p2.v), (7, z.1.v), (8, z.2.1.v), (33, (Slc.v (p2.cut 2 (Int.toNat (0)) (Int.toNat (l19))))), (34, (.i ((p2.cut 2 (Int.toNat (0)) (Int.toNat (l19))).l : Int))), (35, (.i z.2.2))]) (Slc.nil, Slc.nil, 0) h188 (H.weaken ⟨rfl, rfl, rfl, rfl, rfl, rfl, rfl, trivial⟩) ?_
   clear H h188
   rintro ⟨r24, g25, s26⟩ a w27 h H
   replace h := h189 r24 g25 s26 w27 h
   clear h189
   replace H : Has 113 [] a [(0, (.pointer (some a18))), (1, p2.v), (7, r24.v), (8, g25.v), (33, (Slc.v (p2.cut 2 (Int.toNat (0)) (Int.toNat (l19))))), (34, (.i ((p2.cut 2 (Int.toNat (0)) (Int.toNat (l19))).l : Int))), (35, (.i s26))] := H
   refine sr fun K30 hK30 => ww H <| bn rfl rfl r_lss rfl <| fun a H => nk hK30 <| c_seq fun K31 hK31 => cd H rfl h (fun h32 h => ?_) (fun h32 h => ?_)
   ·obtain ⟨a35, h36, h37, h38, h⟩ := h
    refine c_skip <| hK31 _ _ <| c_seq fun K33 hK33 => c_block <| sr fun K34 hK34 => s_idxS (s := p2.cut 2 (Int.toNat (0)) (Int.toNat (l19))) H rfl rfl rfl slc_28 h36 h37 h38 (lt_ rfl) fun a H => ?_
    obtain ⟨I39, hc40, D41, hc42, h⟩ := h
    refine ww H <| lN (l := [(.i I39), D41.v]) rfl agg_34 rfl ⟨hc40, hc42, trivial⟩ rfl <| al h zero_34 rfl rfl rfl fun b43 w44 n45 h => sN h rfl rfl agg_34 rfl rfl fun w46 h => fun a H => nk hK34 <| c_seq fun K47 hK47 => ?_
    replace H := H.weaken (L' := [(0, (.pointer (some a18))), (1, p2.v), (7, r24.v), (8, g25.v), (10, (.pointer (some (blk b43)))), (33, (Slc.v (p2.cut 2 (Int.toNat (0)) (Int.toNat (l19))))), (34, (.i ((p2.cut 2 (Int.toNat (0)) (Int.toNat (l19))).l : Int))), (35, (.i s26))]) ⟨rfl, rfl, rfl, rfl, rfl, rfl, rfl, rfl, trivial⟩
    obtain ⟨l48, hc49, l50, hc51, a52, h53, h54, h55, l56, hc57, h⟩ := h
    refine c_any (V := [(0, r24.v), (1, (.pointer (some a18))), (2, (.pointer (some a18))), (3, (.pointer (some (a18.add 3)))), (4, l48.v), (5, (.pointer (some ((blk b43).add 0)))), (6, (.i l50)), (7, (.pointer (some (a52.add (Int.toNat (l50) * 1))))), (8, l56.v)]) (⟨[[], [], [1], [2], [3], [], [5], [4, 6], [7], [8], [0, 9], [0, 1, 2, 3, 4, 5, 6, 7, 8, 9, 10]], [some 39, some 40, some 41, some 42, some 43, some 44, some 45, some 46, some 47, some 48, some 49, some 7], [9, 10], [0, 0, 0, 0, 0, 0, 0, 0, 0, 0, 1, 2], [1, 0, 0, 0, 0, 0, 0, 0, 0, 1, 2, 2]⟩ : Rg) [(0, (.pointer (some a18))), (1, p2.v), (7, r24.v), (8, g25.v), (10, (.pointer (some (blk b43)))), (33, (Slc.v (p2.cut 2 (Int.toNat (0)) (Int.toNat (l19))))), (34, (.i ((p2.cut 2 (Int.toNat (0)) (Int.toNat (l19))).l : Int))), (35, (.i s26))] mixed (by kernel_rfl) H <| Stg.eff [0, 1, 2, 3, 4, 5, 6, 7, 8] (by kernel_rfl) rfl (.cons ?_ (.cons ?_ (.cons ?_ (.cons ?_ (.cons ?_ (.cons ?_ (.cons ?_ (.cons ?_ (.cons ?_ .nil))))))))) ?_
    ·exact Aw rfl rfl <| mv rfl rfl <| An rfl
    ·exact Aw rfl rfl <| mv rfl rfl <| An rfl
    ·exact Aw rfl rfl <| nl rfl rfl <| An rfl
    ·exact Aw rfl rfl <| fd rfl fld_46_3 rfl <| An rfl
    ·exact Aw rfl rfl <| ld rfl one_27 hc49 rfl <| An rfl
    ·exact Aw rfl rfl <| fd rfl fld_34_0 rfl <| An rfl
    ·exact Aw rfl rfl <| ld rfl one_3 hc51 rfl <| An rfl
    ·exact Ans.mk rfl rfl fun a H => s_idxS (s := l48) H rfl rfl rfl slc_27 h53 h54 h55 (lt_ rfl) fun a H => Ans.fin H rfl
    ·exact Aw rfl rfl <| ld rfl one_22 hc57 rfl <| An rfl
    ·intro a H
     replace H := H.weaken (L' := [(47, l56.v)]) ⟨rfl, trivial⟩
     replace h := h.get
     obtain ⟨b58, w59, n60, h⟩ := h
     refine s_bslc H rfl (by rw [H.parts (vs := [(0, l56.v)]) rfl]; exact bs_27_1_s0 (w46.drewN 1) l56) (lt_ rfl) ?_
     rw [← n60.at_]
     clear H a
     intro a H
     refine n60.go <| c_nil <| effQ.go [] H rfl rfl <| Stg.eff [0] (by kernel_rfl) rfl (.cons ?_ .nil) ?_
     ·exact Aw rfl rfl <| mv rfl rfl <| An rfl
     ·intro a H
      replace H := H.weaken (L' := [(39, r24.v), (48, (Slc.v (Slc.mk (some (blk b58)) 1 1)))]) ⟨rfl, rfl, trivial⟩
      obtain ⟨s61, w62, h63, h⟩ := h
      refine s_blt H rfl (H.args (vs := [r24.v, (Slc.v (Slc.mk (some (blk b58)) 1 1))]) rfl) (lt_ rfl) (fun cs => b_app (z := s61) h63) ?_
      clear H a h63
      intro a H
      refine c_nil <| effQ.go [(11, s61.v)] H rfl rfl <| Stg.fin [11] (by kernel_rfl) (.cons ?_ .nil) ?_
      ·exact Aw rfl rfl <| ag rfl rfl <| An rfl
      ·intro a H
       replace H := H.weaken (L' := [(0, (.pointer (some a18))), (1, p2.v), (7, s61.v), (8, g25.v), (10, (.pointer (some (blk b43)))), (33, (Slc.v (p2.cut 2 (Int.toNat (0)) (Int.toNat (l19))))), (34, (.i ((p2.cut 2 (Int.toNat (0)) (Int.toNat (l19))).l : Int))), (35, (.i s26))]) ⟨rfl, rfl, rfl, rfl, rfl, rfl, rfl, rfl, trivial⟩
       obtain ⟨l64, hc65, h⟩ := h
       refine hK47 _ _ <| c_reg <| ww H <| mv rfl rfl <| fd rfl fld_34_1 rfl <| ld rfl one_22 hc65 rfl <| fun a H => ?_
       replace h := h.get
       obtain ⟨b66, w67, n68, h⟩ := h
       refine s_bslc H rfl (by rw [H.parts (vs := [(0, l64.v)]) rfl]; exact bs_27_1_s0 w62 l64) (lt_ rfl) ?_
       rw [← n68.at_]
       clear H a
       intro a H
       refine n68.go ?_
       obtain ⟨s69, w70, h71, h⟩ := h
       refine s_blt H rfl (H.args (vs := [g25.v, (Slc.v (Slc.mk (some (blk b66)) 1 1))]) rfl) (lt_ rfl) (fun cs => b_app (z := s69) h71) ?_
       clear H a h71
       intro a H
       refine ww H <| ag rfl rfl <| fun a H => nk hK33 <| c_reg <| ww H <| bn rfl rfl r_add rfl <| mv rfl rfl <| fun a H => c_nil <| Exists.intro (s61, s69, wr .i64 (s26 + 1)) ⟨h.1, h.2, H.weaken ⟨rfl, rfl, rfl, rfl, rfl, rfl, rfl, trivial⟩⟩
   ·refine c_exit ?_
    first | (simp only [Exit.then, Exit.inBlock, ↓reduceIte]; fail_if_success simp only [Nat.reduceEqDiff]) | simp only [Exit.then, Exit.inBlock, ↓reduceIte, Nat.reduceEqDiff]
    obtain ⟨l73, hc74, h⟩ := h
    refine hK16 _ _ <| sr fun K72 hK72 => ww H <| mv rfl rfl <| nl rfl rfl <| fd rfl fld_46_0 rfl <| ld rfl one_44 hc74 rfl <| mv rfl rfl <| cl2 h body_54 rfl rfl eP fun N76 N77 w75 h => mv rfl rfl <| ex rfl rfl rfl <| ex rfl rfl rfl <| ag rfl rfl <| ag rfl rfl <| fun a H => nk hK72 <| sr fun K78 hK78 => ww H <| mv rfl rfl <| cl2 h body_31 rfl rfl eP fun I80 I81 w79 h => mv rfl rfl <| ex rfl rfl rfl <| ex rfl rfl rfl <| ag rfl rfl <| ag rfl rfl <| fun a H => nk hK78 <| sr fun K82 hK82 => ww H <| ag rfl rfl <| fun a H => nk hK82 <| c_seq fun K83 hK83 => sr fun K84 hK84 => ww H <| mv rfl rfl <| cl1 h body_33 rfl rfl eP fun R86 w85 h => bl (vs := [R86.v]) rfl rfl (fun cs => b_lenS (z := R86) sl_27) <| mv rfl rfl <| fun a H => nk hK84 <| c_block ?_
    obtain ⟨I90, m91, h174, h175⟩ := h
    refine c_loop (σ := Slc × Int) (fun z w => I90 z.1 z.2 w) (fun z w => m91 z.1 z.2 w) (fun z => [(0, (.pointer (some a18))), (1, p2.v), (8, g25.v), (15, z.1.v), (71, R86.v), (72, (.i (R86.l : Int))), (73, (.i z.2))]) (Slc.nil, 0) h174 (H.weaken ⟨rfl, rfl, rfl, rfl, rfl, rfl, rfl, trivial⟩) ?_
    clear H h174
    rintro ⟨d87, s88⟩ a w89 h H
    replace h := h175 d87 s88 w89 h
    clear h175
    replace H : Has 113 [] a [(0, (.pointer (some a18))), (1, p2.v), (8, g25.v), (15, d87.v), (71, R86.v), (72, (.i (R86.l : Int))), (73, (.i s88))] := H
    refine sr fun K92 hK92 => ww H <| bn rfl rfl r_lss rfl <| fun a H => nk hK92 <| c_seq fun K93 hK93 => cd H rfl h (fun h94 h => ?_) (fun h94 h => ?_)
    ·obtain ⟨a97, h98, h99, h100, h⟩ := h
     refine c_skip <| hK93 _ _ <| c_seq fun K95 hK95 => c_block <| sr fun K96 hK96 => s_idxS (s := R86) H rfl rfl rfl slc_27 h98 h99 h100 (lt_ rfl) fun a H => ?_
     obtain ⟨l101, hc102, h⟩ := h
     refine ww H <| ld rfl one_22 hc102 rfl <| ag rfl rfl <| fun a H => nk hK96 <| c_reg <| ww H <| mv rfl rfl <| mv rfl rfl <| mv rfl rfl <| mv rfl rfl <| cl1 h body_19 rfl rfl eP fun s104 w103 h => fun a H => ?_
     replace h := h.get
     obtain ⟨b105, w106, n107, h⟩ := h
     refine s_bslc H rfl (by rw [H.parts (vs := [(0, s104.v)]) rfl]; exact bs_27_1_s0 w103 s104) (lt_ rfl) ?_
     rw [← n107.at_]
     clear H a
     intro a H
     refine n107.go ?_
     obtain ⟨s108, w109, h110, h⟩ := h
     refine s_blt H rfl (H.args (vs := [d87.v, (Slc.v (Slc.mk (some (blk b105)) 1 1))]) rfl) (lt_ rfl) (fun cs => b_app (z := s108) h110) ?_
     clear H a h110
     intro a H
     refine ww H <| ag rfl rfl <| fun a H => nk hK95 <| c_reg <| ww H <| bn rfl rfl r_add rfl <| mv rfl rfl <| fun a H => c_nil <| Exists.intro (s108, wr .i64 (s88 + 1)) ⟨h.1, h.2, H.weaken ⟨rfl, rfl, rfl, rfl, rfl, rfl, rfl, trivial⟩⟩
    ·refine c_exit ?_
     first | (simp only [Exit.then, Exit.inBlock, ↓reduceIte]; fail_if_success simp only [Nat.reduceEqDiff]) | simp only [Exit.then, Exit.inBlock, ↓reduceIte, Nat.reduceEqDiff]
     obtain ⟨l117, hc118, h119, h120, h121, h⟩ := h
     refine hK83 _ _ <| c_seq fun K115 hK115 => sr fun K116 hK116 => ww H <| mv rfl rfl <| mv rfl rfl <| nl rfl rfl <| fd rfl fld_46_2 rfl <| ld rfl one_3 hc118 rfl <| fun a H => s_slice (v := (Slc.v (p2.cut 2 (Int.toNat (l117)) (Int.toNat ((p2.l : Int)))))) H rfl rfl ⟨rfl, rfl⟩ ⟨rfl, rfl⟩ ⟨rfl, rfl⟩ (r_sliceSlc (lo := (some (.i64, l117))) (hi := none) slc_28 rfl rfl h119 h120 h121) (lt_ rfl) fun a H => ww H <| bl (vs := [(Slc.v (p2.cut 2 (Int.toNat (l117)) (Int.toNat ((p2.l : Int)))))]) rfl rfl (fun cs => b_lenS (z := p2.cut 2 (Int.toNat (l117)) (Int.toNat ((p2.l : Int)))) sl_28) <| mv rfl rfl <| fun a H => nk hK116 <| c_block ?_
     obtain ⟨I124, m125, h172, h173⟩ := h
     refine c_loop (σ := Int) (fun z w => I124 z w) (fun z w => m125 z w) (fun z => [(0, (.pointer (some a18))), (15, d87.v), (90, (Slc.v (p2.cut 2 (Int.toNat (l117)) (Int.toNat ((p2.l : Int)))))), (91, (.i ((p2.cut 2 (Int.toNat (l117)) (Int.toNat ((p2.l : Int)))).l : Int))), (92, (.i z))]) 0 h172 (H.weaken ⟨rfl, rfl, rfl, rfl, rfl, trivial⟩) ?_
     clear H h172
     rintro s122 a w123 h H
     replace h := h173 s122 w123 h
     clear h173
     replace H : Has 113 [] a [(0, (.pointer (some a18))), (15, d87.v), (90, (Slc.v (p2.cut 2 (Int.toNat (l117)) (Int.toNat ((p2.l : Int)))))), (91, (.i ((p2.cut 2 (Int.toNat (l117)) (Int.toNat ((p2.l : Int)))).l : Int))), (92, (.i s122))] := H
     refine sr fun K126 hK126 => ww H <| bn rfl rfl r_lss rfl <| fun a H => nk hK126 <| c_seq fun K127 hK127 => cd H rfl h (fun h128 h => ?_) (fun h128 h => ?_)
     ·obtain ⟨a131, h132, h133, h134, h⟩ := h
      refine c_skip <| hK127 _ _ <| c_seq fun K129 hK129 => c_block <| sr fun K130 hK130 => s_idxS (s := p2.cut 2 (Int.toNat (l117)) (Int.toNat ((p2.l : Int)))) H rfl rfl rfl slc_28 h132 h133 h134 (lt_ rfl) fun a H => ?_
      obtain ⟨I135, hc136, D137, hc138, h⟩ := h
      refine ww H <| lN (l := [(.i I135), D137.v]) rfl agg_34 rfl ⟨hc136, hc138, trivial⟩ rfl <| al h zero_34 rfl rfl rfl fun b139 w140 n141 h => sN h rfl rfl agg_34 rfl rfl fun w142 h => fun a H => nk hK130 <| c_seq fun K143 hK143 => ?_
      replace H := H.weaken (L' := [(0, (.pointer (some a18))), (15, d87.v), (19, (.pointer (some (blk b139)))), (90, (Slc.v (p2.cut 2 (Int.toNat (l117)) (Int.toNat ((p2.l : Int)))))), (91, (.i ((p2.cut 2 (Int.toNat (l117)) (Int.toNat ((p2.l : Int)))).l : Int))), (92, (.i s122))]) ⟨rfl, rfl, rfl, rfl, rfl, rfl, trivial⟩
      obtain ⟨l144, hc145, l146, hc147, a148, h149, h150, h151, l152, hc153, l154, hc155, h⟩ := h
      refine c_any (V := [(0, (.pointer (some a18))), (1, (.pointer (some a18))), (2, (.pointer (some a18))), (3, (.pointer (some (a18.add 3)))), (4, l144.v), (5, (.pointer (some ((blk b139).add 0)))), (6, (.i l146)), (7, (.pointer (some (a148.add (Int.toNat (l146) * 1))))), (8, l152.v), (9, d87.v), (11, (.pointer (some ((blk b139).add 1)))), (12, l154.v)]) (⟨[[], [], [1], [2], [3], [], [5], [4, 6], [7], [], [0, 8, 9], [], [11], [10, 12], [13]], [some 96, some 97, some 98, some 99, some 100, some 101, some 102, some 103, some 104, some 105, some 106, some 107, some 108, some 109, some 110], [10, 13], [0, 0, 0, 0, 0, 0, 0, 0, 0, 0, 0, 0, 0, 1, 2], [0, 0, 0, 0, 0, 0, 0, 0, 0, 0, 1, 1, 1, 2, 2]⟩ : Rg) [(0, (.pointer (some a18))), (15, d87.v), (19, (.pointer (some (blk b139)))), (90, (Slc.v (p2.cut 2 (Int.toNat (l117)) (Int.toNat ((p2.l : Int)))))), (91, (.i ((p2.cut 2 (Int.toNat (l117)) (Int.toNat ((p2.l : Int)))).l : Int))), (92, (.i s122))] mixed (by kernel_rfl) H <| Stg.eff [0, 1, 2, 3, 4, 5, 6, 7, 8, 9, 11, 12] (by kernel_rfl) rfl (.cons ?_ (.cons ?_ (.cons ?_ (.cons ?_ (.cons ?_ (.cons ?_ (.cons ?_ (.cons ?_ (.cons ?_ (.cons ?_ (.cons ?_ (.cons ?_ .nil)))))))))))) ?_
      ·exact Aw rfl rfl <| mv rfl rfl <| An rfl
      ·exact Aw rfl rfl <| mv rfl rfl <| An rfl
      ·exact Aw rfl rfl <| nl rfl rfl <| An rfl
      ·exact Aw rfl rfl <| fd rfl fld_46_3 rfl <| An rfl
      ·exact Aw rfl rfl <| ld rfl one_27 hc145 rfl <| An rfl
      ·exact Aw rfl rfl <| fd rfl fld_34_0 rfl <| An rfl
      ·exact Aw rfl rfl <| ld rfl one_3 hc147 rfl <| An rfl
      ·exact Ans.mk rfl rfl fun a H => s_idxS (s := l144) H rfl rfl rfl slc_27 h149 h150 h151 (lt_ rfl) fun a H => Ans.fin H rfl
      ·exact Aw rfl rfl <| ld rfl one_22 hc153 rfl <| An rfl
      ·exact Aw rfl rfl <| mv rfl rfl <| An rfl
      ·exact Aw rfl rfl <| fd rfl fld_34_1 rfl <| An rfl
      ·exact Aw rfl rfl <| ld rfl one_22 hc155 rfl <| An rfl
      ·refine cl1 h body_19 rfl rfl eP fun s157 w156 h => fun a H => ?_
       obtain ⟨hc158, h⟩ := h
       refine c_nil <| effQ.go [] H rfl rfl <| Stg.eff [11, 12] (by kernel_rfl) rfl (.cons ?_ (.cons ?_ .nil)) ?_
       ·exact Aw rfl rfl <| fd rfl fld_34_1 rfl <| An rfl
       ·exact Aw rfl rfl <| ld rfl one_22 hc158 rfl <| An rfl
       ·refine cl1 h body_85 rfl rfl eP fun E160 w159 h => fun a H => c_nil <| effQ.go [(14, (.bool (!E160)))] H rfl rfl <| Stg.fin [14] (by kernel_rfl) (.cons ?_ .nil) ?_
        ·exact Ans.mk rfl rfl fun a H => s_un H rfl rfl r_not (lt_ rfl) fun a H => Ans.fin H rfl
        ·intro a H
         replace H := H.weaken (L' := [(0, (.pointer (some a18))), (15, d87.v), (90, (Slc.v (p2.cut 2 (Int.toNat (l117)) (Int.toNat ((p2.l : Int)))))), (91, (.i ((p2.cut 2 (Int.toNat (l117)) (Int.toNat ((p2.l : Int)))).l : Int))), (92, (.i s122)), (110, (.bool (!E160)))]) ⟨rfl, rfl, rfl, rfl, rfl, rfl, trivial⟩
         refine hK143 _ _ <| cd H rfl h (fun h161 h => ?_) (fun h161 h => ?_)
         ·exact sr fun K162 hK162 => ww H <| ag rfl rfl <| ag rfl rfl <| fun a H => nk hK162 <| c_ret <| e_ret2 H rfl rfl rfl h
         ·refine c_skip <| hK129 _ _ <| c_reg <| ww H <| bn rfl rfl r_add rfl <| mv rfl rfl <| fun a H => c_nil <| Exists.intro (wr .i64 (s122 + 1)) ⟨h.1, h.2, H.weaken ⟨rfl, rfl, rfl, rfl, rfl, trivial⟩⟩
     ·refine c_exit ?_
      first | (simp only [Exit.then, Exit.inBlock, ↓reduceIte]; fail_if_success simp only [Nat.reduceEqDiff]) | simp only [Exit.then, Exit.inBlock, ↓reduceIte, Nat.reduceEqDiff]
      exact hK115 _ _ <| sr fun K171 hK171 => ww H <| mv rfl rfl <| ag rfl rfl <| ag rfl rfl <| fun a H => nk hK171 <| c_ret <| e_ret2 H rfl rfl rfl h

theorem sim_gf_Field_Mul (f1 : Option Addr) (a2 b3 : Int) (w : World) (Q : Ending → World → Prop) (h : vc_gf_Field_Mul f1 a2 b3 w Q) : Calls PP F_gf_Field_Mul #[(.pointer f1), (.int .u8 a2), (.int .u8 b3)] w Q := by
 unfold vc_gf_Field_Mul at h
 refine enter (n := 35) Tryz.func52 rfl rfl (le_ rfl) fun a H => sr fun K4 hK4 => ww H <| ag rfl rfl <| fun a H => nk hK4 <| c_seq fun K5 hK5 => sr fun K6 hK6 => ww H <| mv rfl rfl <| bn rfl rfl (r_eqP0 ptr_44) rfl <| mv rfl rfl <| fun a H => g_join (n := 35) [(12, (.bool (f1.isNone || (decide (a2 = 0))))), (0, (.pointer f1)), (1, (.int .u8 a2)), (2, (.int .u8 b3))] (.succ (.succ (.succ (.zero _)))) ?_ ?_
 ·intro h8
  try clear h
  rcases Bool.eq_false_or_eq_true f1.isNone with h7 | h7
  ·replace H := H.ch (t := 9) (b := true) rfl h7
   exact ww H <| sk rfl rfl rfl rfl <| sk rfl rfl rfl rfl <| pT rfl rfl rfl <| fun a H => h8 _ (H.weaken ⟨by rw [h7]; rfl, rfl, rfl, rfl, trivial⟩)
  ·replace H := H.ch (t := 9) (b := false) rfl h7
   exact ww H <| gmv rfl rfl rfl rfl <| gbn rfl rfl rfl rfl r_eql rfl <| pF rfl rfl rfl <| fun a H => h8 _ (H.weaken ⟨by rw [h7]; rfl, rfl, rfl, rfl, trivial⟩)
 ·clear H a
  intro a H
  refine ww H <| mv rfl rfl <| fun a H => g_join (n := 35) [(16, (.bool ((f1.isNone || (decide (a2 = 0))) || (decide (b3 = 0))))), (0, (.pointer f1)), (1, (.int .u8 a2)), (2, (.int .u8 b3))] (.succ (.succ (.succ (.zero _)))) ?_ ?_
  ·intro h10
   try clear h
   rcases Bool.eq_false_or_eq_true (f1.isNone || (decide (a2 = 0))) with h9 | h9
   ·replace H := H.ch (t := 13) (b := true) rfl h9
    exact ww H <| sk rfl rfl rfl rfl <| sk rfl rfl rfl rfl <| pT rfl rfl rfl <| fun a H => h10 _ (H.weaken ⟨by rw [h9]; rfl, rfl, rfl, rfl, trivial⟩)
   ·replace H := H.ch (t := 13) (b := false) rfl h9
    exact ww H <| gmv rfl rfl rfl rfl <| gbn rfl rfl rfl rfl r_eql rfl <| pF rfl rfl rfl <| fun a H => h10 _ (H.weaken ⟨by rw [h9]; rfl, rfl, rfl, rfl, trivial⟩)
  ·clear H a
   intro a H
   refine nk hK6 <| cd H rfl h (fun h11 h => ?_) (fun h11 h => ?_)
   ·exact sr fun K12 hK12 => ww H <| ag rfl rfl <| fun a H => nk hK12 <| c_ret <| e_ret1 H rfl rfl h
   ·refine c_skip <| hK5 _ _ <| c_seq fun K13 hK13 => c_regD mixed (by kernel_rfl) ?_
    iterate 3 refine z_move H rfl rfl (lt_ rfl) fun a H => ?_
    obtain ⟨a15, h28, h⟩ := h
    revert H
    revert h
    subst h28
    intro h H
    refine z_nil H rfl rfl (lt_ rfl) fun a H => z_fld H rfl rfl fld_129_2 (lt_ rfl) fun a H => ?_
    obtain ⟨h16, h17, h⟩ := h
    refine z_idxA H rfl rfl rfl arr_127 h16 h17 (lt_ rfl) fun a H => ?_
    obtain ⟨l18, hc19, h⟩ := h
    refine z_load (v := (.i l18)) H rfl rfl one_3 hc19 (lt_ rfl) fun a H => z_move H rfl rfl (lt_ rfl) fun a H => z_move H rfl rfl (lt_ rfl) fun a H => z_nil H rfl rfl (lt_ rfl) fun a H => z_fld H rfl rfl fld_129_2 (lt_ rfl) fun a H => ?_
    obtain ⟨h20, h21, h⟩ := h
    refine z_idxA H rfl rfl rfl arr_127 h20 h21 (lt_ rfl) fun a H => ?_
    obtain ⟨l22, hc23, h⟩ := h
    refine z_load (v := (.i l22)) H rfl rfl one_3 hc23 (lt_ rfl) fun a H => z_bin H rfl rfl rfl r_add (lt_ rfl) fun a H => z_nil H rfl rfl (lt_ rfl) fun a H => z_fld H rfl rfl fld_129_1 (lt_ rfl) fun a H => ?_
    obtain ⟨h24, h25, h⟩ := h
    refine z_idxA H rfl rfl rfl arr_126 h24 h25 (lt_ rfl) fun a H => ?_
    obtain ⟨l26, hc27, h⟩ := h
    refine z_load (v := (.int .u8 l26)) H rfl rfl one_5 hc27 (lt_ rfl) fun a H => z_assign H rfl rfl (lt_ rfl) fun a H => wpQuiet_nil ?_
    rintro _ ⟨k14, rfl⟩
    replace h := h k14
    exact hK13 _ _ <| c_ret <| e_ret1 H rfl rfl h

theorem sim_gf_Field_Pow (f1 : Option Addr) (a2 e3 : Int) (w : World) (Q : Ending → World → Prop) (h : vc_gf_Field_Pow f1 a2 e3 w Q) : Calls PP F_gf_Field_Pow #[(.pointer f1), (.int .u8 a2), (.i e3)] w Q := by
 unfold vc_gf_Field_Pow at h
 have eP {L : List (Nat × Value)} (c : List PanicEntry) (w' : World) (a : Act) (h : Q (.panicked c) w') (H : Has 39 [] a L) : bodyPost PP Tryz.f53 Q (.panic c) a w' := e_panic H h
 refine enter (n := 39) Tryz.func53 rfl rfl (le_ rfl) fun a H => sr fun K4 hK4 => ww H <| ag rfl rfl <| ag rfl rfl <| fun a H => nk hK4 <| c_seq fun K5 hK5 => c_block <| sr fun K6 hK6 => ww H <| mv rfl rfl <| bn rfl rfl (r_eqP0 ptr_44) rfl <| ag rfl rfl <| fun a H => nk hK6 <| cd H rfl h (fun h7 h => ?_) (fun h7 h => ?_)
 ·exact sr fun K8 hK8 => ww H <| ag rfl rfl <| ag rfl rfl <| fun a H => nk hK8 <| c_ret <| e_ret2 H rfl rfl rfl h
 ·refine sr fun K9 hK9 => ww H <| mv rfl rfl <| bn rfl rfl r_eql rfl <| ag rfl rfl <| fun a H => nk hK9 <| cd H rfl h (fun h10 h => ?_) (fun h10 h => ?_)
  ·exact sr fun K11 hK11 => ww H <| ag rfl rfl <| ag rfl rfl <| fun a H => nk hK11 <| c_ret <| e_ret2 H rfl rfl rfl h
  ·refine sr fun K12 hK12 => ww H <| mv rfl rfl <| bn rfl rfl r_eql rfl <| mv rfl rfl <| fun a H => g_join (n := 39) [(20, (.bool ((decide (a2 = 0)) && (decide (e3 < 0))))), (0, (.pointer f1)), (1, (.int .u8 a2)), (2, (.i e3))] (.succ (.succ (.succ (.zero _)))) ?_ ?_
   ·intro h14
    try clear h
    rcases Bool.eq_false_or_eq_true (decide (a2 = 0)) with h13 | h13
    ·replace H := H.ch (t := 17) (b := true) rfl h13
     exact ww H <| gmv rfl rfl rfl rfl <| gbn rfl rfl rfl rfl r_lss rfl <| pT rfl rfl rfl <| fun a H => h14 _ (H.weaken ⟨by rw [h13]; rfl, rfl, rfl, rfl, trivial⟩)
    ·replace H := H.ch (t := 17) (b := false) rfl h13
     exact ww H <| sk rfl rfl rfl rfl <| sk rfl rfl rfl rfl <| pF rfl rfl rfl <| fun a H => h14 _ (H.weaken ⟨by rw [h13]; rfl, rfl, rfl, rfl, trivial⟩)
   ·clear H a
    intro a H
    refine ww H <| ag rfl rfl <| fun a H => nk hK12 <| cd H rfl h (fun h15 h => ?_) (fun h15 h => ?_)
    ·exact sr fun K16 hK16 => ww H <| ag rfl rfl <| ag rfl rfl <| fun a H => nk hK16 <| c_ret <| e_ret2 H rfl rfl rfl h
    ·refine sr fun K17 hK17 => ww H <| mv rfl rfl <| bn rfl rfl r_eql rfl <| ag rfl rfl <| fun a H => nk hK17 <| cd H rfl h (fun h18 h => ?_) (fun h18 h => ?_)
     ·exact sr fun K19 hK19 => ww H <| ag rfl rfl <| ag rfl rfl <| fun a H => nk hK19 <| c_ret <| e_ret2 H rfl rfl rfl h
     ·refine c_skip <| hK5 _ _ <| c_seq fun K20 hK20 => ?_
      replace H := H.weaken (L' := [(0, (.pointer f1)), (1, (.int .u8 a2)), (2, (.i e3))]) ⟨rfl, rfl, rfl, trivial⟩
      obtain ⟨a21, h22, h⟩ := h
      revert H
      revert h
      subst h22
      intro h H
      obtain ⟨h23, h24, l25, hc26, h⟩ := h
      refine c_any (V := [(0, (.pointer (some a21))), (1, (.pointer (some a21))), (2, (.int .u8 a2)), (3, (.pointer (some a21))), (4, (.pointer (some (a21.add 511)))), (5, (.pointer (some ((a21.add 511).add (Int.toNat (a2) * 1))))), (6, (.i l25)), (7, (.i e3)), (11, (.pointer (some a21))), (12, (.pointer (some (a21.add 1))))]) (⟨[[], [], [], [1], [3], [2, 4], [5], [], [7], [6, 8], [9], [0], [11], [10, 12], [13], [0, 1, 2, 3, 4, 5, 6, 7, 8, 9, 10, 11, 12, 13, 14], [0, 1, 2, 3, 4, 5, 6, 7, 8, 9, 10, 11, 12, 13, 14, 15]], [some 24, some 25, some 26, some 27, some 28, some 29, some 30, some 31, some 32, some 33, some 34, some 35, some 36, some 37, some 38, some 6, some 7], [8], [0, 0, 0, 0, 0, 0, 0, 0, 0, 1, 1, 0, 0, 1, 1, 1, 1], [1, 1, 1, 1, 1, 1, 1, 0, 1, 1, 1, 1, 1, 1, 1, 1, 1]⟩ : Rg) [(0, (.pointer (some a21))), (1, (.int .u8 a2)), (2, (.i e3))] mixed (by kernel_rfl) H <| Stg.eff [0, 1, 2, 3, 4, 5, 6, 7, 11, 12] (by kernel_rfl) rfl (.cons ?_ (.cons ?_ (.cons ?_ (.cons ?_ (.cons ?_ (.cons ?_ (.cons ?_ (.cons ?_ (.cons ?_ (.cons ?_ .nil)))))))))) ?_
      ·exact Aw rfl rfl <| mv rfl rfl <| An rfl
      ·exact Aw rfl rfl <| mv rfl rfl <| An rfl
      ·exact Aw rfl rfl <| mv rfl rfl <| An rfl
      ·exact Aw rfl rfl <| nl rfl rfl <| An rfl
      ·exact Aw rfl rfl <| fd rfl fld_129_2 rfl <| An rfl
      ·exact Ans.mk rfl rfl fun a H => s_idxA H rfl rfl rfl arr_127 h23 h24 (lt_ rfl) fun a H => Ans.fin H rfl
      ·exact Aw rfl rfl <| ld rfl one_3 hc26 rfl <| An rfl
      ·exact Aw rfl rfl <| mv rfl rfl <| An rfl
      ·exact Aw rfl rfl <| nl rfl rfl <| An rfl
      ·exact Aw rfl rfl <| fd rfl fld_129_1 rfl <| An rfl
      ·refine cl1 h body_87 rfl rfl eP fun t28 w27 h => fun a H => ?_
       obtain ⟨hc29, h30, h31, l32, hc33, h⟩ := h
       refine c_nil <| effQ.go [(9, (.i (wr .i64 (l25 * t28)))), (10, (.i ((wr .i64 (l25 * t28)).tmod 255))), (13, (.pointer (some ((a21.add 1).add (Int.toNat ((wr .i64 (l25 * t28)).tmod 255) * 1))))), (14, (.int .u8 l32)), (15, (.int .u8 l32)), (16, (.i 0))] H rfl rfl <| Stg.fin [0, 1, 2, 3, 4, 5, 6, 9, 10, 11, 12, 13, 14, 15, 16] (by kernel_rfl) (.cons ?_ (.cons ?_ (.cons ?_ (.cons ?_ (.cons ?_ (.cons ?_ (.cons ?_ (.cons ?_ (.cons ?_ (.cons ?_ (.cons ?_ (.cons ?_ (.cons ?_ (.cons ?_ (.cons ?_ .nil))))))))))))))) ?_
       ·exact Aw rfl rfl <| mv rfl rfl <| An rfl
       ·exact Aw rfl rfl <| mv rfl rfl <| An rfl
       ·exact Aw rfl rfl <| mv rfl rfl <| An rfl
       ·exact Aw rfl rfl <| nl rfl rfl <| An rfl
       ·exact Aw rfl rfl <| fd rfl fld_129_2 rfl <| An rfl
       ·exact Ans.mk rfl rfl fun a H => s_idxA H rfl rfl rfl arr_127 h23 h24 (lt_ rfl) fun a H => Ans.fin H rfl
       ·exact Aw rfl rfl <| ld rfl one_3 hc29 rfl <| An rfl
       ·exact Aw rfl rfl <| bn rfl rfl r_mul rfl <| An rfl
       ·exact Aw rfl rfl <| bn rfl rfl (r_rem (by decide)) rfl <| An rfl
       ·exact Aw rfl rfl <| nl rfl rfl <| An rfl
       ·exact Aw rfl rfl <| fd rfl fld_129_1 rfl <| An rfl
       ·exact Ans.mk rfl rfl fun a H => s_idxA H rfl rfl rfl arr_126 h30 h31 (lt_ rfl) fun a H => Ans.fin H rfl
       ·exact Aw rfl rfl <| ld rfl one_5 hc33 rfl <| An rfl
       ·exact Aw rfl rfl <| ag rfl rfl <| An rfl
       ·exact Aw rfl rfl <| ag rfl rfl <| An rfl
       ·intro a H
        replace H := H.weaken (L' := [(6, (.int .u8 l32)), (7, (.i 0))]) ⟨rfl, rfl, trivial⟩
        exact hK20 _ _ <| c_ret <| e_ret2 H rfl rfl rfl h

theorem sim_matrix_New (f1 : Option Addr) (r2 : Slc) (w : World) (Q : Ending → World → Prop) (h : vc_matrix_New f1 r2 w Q) : Calls PP F_matrix_New #[(.pointer f1), r2.v] w Q := by
 unfold vc_matrix_New at h
 have eP {L : List (Nat × Value)} (c : List PanicEntry) (w' : World) (a : Act) (h : Q (.panicked c) w') (H : Has 62 [] a L) : bodyPost PP Tryz.f54 Q (.panic c) a w' := e_panic H h
 refine enter (n := 62) Tryz.func54 rfl rfl (le_ rfl) fun a H => sr fun K3 hK3 => ww H <| bx h rfl rfl rfl rfl fun b4 w5 n6 h => ag rfl rfl <| ag rfl rfl <| fun a H => nk hK3 <| c_seq fun K7 hK7 => sr fun K8 hK8 => ww H <| mv rfl rfl <| bn rfl rfl (r_eqP0 ptr_44) rfl <| fun a H => nk hK8 <| cd H rfl h (fun h9 h => ?_) (fun h9 h => ?_)
 ·exact sr fun K10 hK10 => ww H <| ag rfl rfl <| ag rfl rfl <| fun a H => nk hK10 <| c_ret <| e_ret2 H rfl rfl rfl h
 ·refine c_skip <| hK7 _ _ <| c_seq fun K11 hK11 => sr fun K12 hK12 => s_load (v := r2.v) H rfl rfl one_27 (n6.cell (i := 0) rfl) (lt_ rfl) fun a H => ?_
  obtain ⟨x21, h22, h23, h⟩ := h
  refine ww H <| bl (vs := [r2.v]) rfl rfl (fun cs => b_lenS (z := r2) sl_27) <| bn rfl rfl r_eql rfl <| mv rfl rfl <| fun a H => g_join (n := 62) [(20, (.bool x21)), (0, (.pointer f1)), (3, (.pointer (some (blk b4))))] (.succ (.succ (.succ (.succ (.succ (.succ (.zero _))))))) ?_ ?_
  ·intro h14
   try clear h
   rcases Bool.eq_false_or_eq_true (decide ((r2.l : Int) = 0)) with h13 | h13
   ·replace H := H.ch (t := 14) (b := true) rfl h13
    refine ww H <| sk rfl rfl rfl rfl <| sk rfl rfl rfl rfl <| sk rfl rfl rfl rfl <| sk rfl rfl rfl rfl <| sk rfl rfl rfl rfl <| pT rfl rfl rfl <| fun a H => ?_
    replace h := h23 h13
    subst h
    exact h14 _ (H.weaken ⟨rfl, rfl, rfl, trivial⟩)
   ·replace H := H.ch (t := 14) (b := false) rfl h13
    replace h := h22 h13
    refine s_load (v := r2.v) H (wantG H rfl rfl) rfl one_27 (n6.cell (i := 0) rfl) (lt_ rfl) fun a H => ?_
    obtain ⟨a15, h16, h17, h18, h⟩ := h
    refine s_idxS (s := r2) H (wantG H rfl rfl) rfl rfl slc_27 h16 h17 h18 (lt_ rfl) fun a H => ?_
    obtain ⟨l19, hc20, h⟩ := h
    refine ww H <| gld rfl rfl rfl one_22 hc20 rfl <| fun a H => s_blt H (wantG H rfl rfl) (H.args (vs := [l19.v]) rfl) (lt_ rfl) (fun cs => b_lenS (z := l19) sl_22) fun a H => ww H <| gbn rfl rfl rfl rfl r_eql rfl <| pF rfl rfl rfl <| fun a H => ?_
    subst h
    exact h14 _ (H.weaken ⟨rfl, rfl, rfl, trivial⟩)
  ·clear H a
   clear h22 h23
   intro a H
   refine ww H <| mv rfl rfl <| fun a H => ?_
   obtain ⟨R26, h, h108⟩ := h
   refine g_joinW (n := 62) R26 (fun x27 => [(25, (.bool x27)), (0, (.pointer f1)), (3, (.pointer (some (blk b4))))]) (.succ (.succ (.succ (.succ (.zero _))))) ?_ ?_
   ·intro h25
    clear h108
    rcases Bool.eq_false_or_eq_true x21 with h24 | h24
    ·replace H := H.ch (t := 21) (b := true) rfl h24
     replace h := h.2 h24
     exact ww H <| sk rfl rfl rfl rfl <| sk rfl rfl rfl rfl <| sk rfl rfl rfl rfl <| pT rfl rfl rfl <| fun a H => h25 _ _ _ h (H.weaken ⟨rfl, rfl, rfl, trivial⟩)
    ·replace H := H.ch (t := 21) (b := false) rfl h24
     replace h := h.1 h24
     refine s_load (v := r2.v) H (wantG H rfl rfl) rfl one_27 (n6.cell (i := 0) rfl) (lt_ rfl) fun a H => s_mkf H (wantG H rfl rfl) (H.args (vs := [(.pointer (some (blk b4)))]) rfl) (lt_ rfl) fun a H => s_call H (wantG H rfl rfl) body_34 (H.args (vs := [r2.v, (.func (.func F_matrix_New_c1) #[] #[(.pointer (some (blk b4)))])]) rfl) (lt_ rfl) h ?_ (fun c w' => eP c w' _)
     clear H h a
     rintro _ w29 a ⟨r30, rfl, h⟩ H
     exact ww H <| pF rfl rfl rfl <| fun a H => h25 _ _ _ h (H.weaken ⟨rfl, rfl, rfl, trivial⟩)
   ·clear H a h
    intro a x27 w28 h H
    replace h := h108 x27 w28 h
    clear h108
    refine nk hK12 <| cd H rfl h (fun h35 h => ?_) (fun h35 h => ?_)
    ·exact sr fun K36 hK36 => ww H <| ag rfl rfl <| ag rfl rfl <| fun a H => nk hK36 <| c_ret <| e_ret2 H rfl rfl rfl h
    ·obtain ⟨l39, hc40, x51, h52, h53, h⟩ := h
     refine c_skip <| hK11 _ _ <| c_seq fun K37 hK37 => sr fun K38 hK38 => ww H <| ld rfl one_27 hc40 rfl <| bl (vs := [l39.v]) rfl rfl (fun cs => b_lenS (z := l39) sl_27) <| bn rfl rfl r_gtr rfl <| mv rfl rfl <| fun a H => g_join (n := 62) [(35, (.bool x51)), (0, (.pointer f1)), (3, (.pointer (some (blk b4))))] (.succ (.succ (.succ (.succ (.succ (.succ (.zero _))))))) ?_ ?_
     ·intro h42
      try clear h
      rcases Bool.eq_false_or_eq_true (decide (256 < (l39.l : Int))) with h41 | h41
      ·replace H := H.ch (t := 29) (b := true) rfl h41
       refine ww H <| sk rfl rfl rfl rfl <| sk rfl rfl rfl rfl <| sk rfl rfl rfl rfl <| sk rfl rfl rfl rfl <| sk rfl rfl rfl rfl <| pT rfl rfl rfl <| fun a H => ?_
       replace h := h53 h41
       subst h
       exact h42 _ (H.weaken ⟨rfl, rfl, rfl, trivial⟩)
      ·replace H := H.ch (t := 29) (b := false) rfl h41
       replace h := h52 h41
       obtain ⟨l43, hc44, a45, h46, h47, h48, h⟩ := h
       refine ww H <| gld rfl rfl rfl one_27 hc44 rfl <| fun a H => s_idxS (s := l43) H (wantG H rfl rfl) rfl rfl slc_27 h46 h47 h48 (lt_ rfl) fun a H => ?_
       obtain ⟨l49, hc50, h⟩ := h
       refine ww H <| gld rfl rfl rfl one_22 hc50 rfl <| fun a H => s_blt H (wantG H rfl rfl) (H.args (vs := [l49.v]) rfl) (lt_ rfl) (fun cs => b_lenS (z := l49) sl_22) fun a H => ww H <| gbn rfl rfl rfl rfl r_gtr rfl <| pF rfl rfl rfl <| fun a H => ?_
       subst h
       exact h42 _ (H.weaken ⟨rfl, rfl, rfl, trivial⟩)
     ·clear H a
      clear h52 h53
      intro a H
      refine nk hK38 <| cd H rfl h (fun h54 h => ?_) (fun h54 h => ?_)
      ·exact sr fun K55 hK55 => ww H <| ag rfl rfl <| ag rfl rfl <| fun a H => nk hK55 <| c_ret <| e_ret2 H rfl rfl rfl h
      ·refine c_skip <| hK37 _ _ <| c_seq fun K56 hK56 => ?_
       replace H := H.weaken (L' := [(0, (.pointer f1)), (3, (.pointer (some (blk b4))))]) ⟨rfl, rfl, trivial⟩
       obtain ⟨l57, hc58, l59, hc60, a61, h62, h63, h64, l65, hc66, h⟩ := h
       refine c_any (V := [(0, (.pointer f1)), (1, l57.v), (2, (.i (l57.l : Int))), (3, l59.v), (4, (.pointer (some (a61.add (Int.toNat (0) * 1))))), (5, l65.v), (6, (.i (l65.l : Int)))]) (⟨[[], [], [1], [], [3], [4], [5], [0, 2, 6], [0, 1, 2, 3, 4, 5, 6, 7]], [some 36, some 37, some 38, some 39, some 40, some 41, some 42, some 43, some 6], [7], [0, 0, 0, 0, 0, 0, 0, 0, 1], [0, 0, 0, 0, 0, 0, 0, 1, 1]⟩ : Rg) [(0, (.pointer f1)), (3, (.pointer (some (blk b4))))] mixed (by kernel_rfl) H <| Stg.eff [0, 1, 2, 3, 4, 5, 6] (by kernel_rfl) rfl (.cons ?_ (.cons ?_ (.cons ?_ (.cons ?_ (.cons ?_ (.cons ?_ (.cons ?_ .nil))))))) ?_
       ·exact Aw rfl rfl <| mv rfl rfl <| An rfl
       ·exact Aw rfl rfl <| ld rfl one_27 hc58 rfl <| An rfl
       ·exact Aw rfl rfl <| bl (vs := [l57.v]) rfl rfl (fun cs => b_lenS (z := l57) sl_27) <| An rfl
       ·exact Aw rfl rfl <| ld rfl one_27 hc60 rfl <| An rfl
       ·exact Ans.mk rfl rfl fun a H => s_idxS (s := l59) H rfl rfl rfl slc_27 h62 h63 h64 (lt_ rfl) fun a H => Ans.fin H rfl
       ·exact Aw rfl rfl <| ld rfl one_22 hc66 rfl <| An rfl
       ·exact Aw rfl rfl <| bl (vs := [l65.v]) rfl rfl (fun cs => b_lenS (z := l65) sl_22) <| An rfl
       ·refine cl1 h body_76 rfl rfl eP fun b68 w67 h => fun a H => c_nil <| effQ.go [(8, (.pointer b68))] H rfl rfl <| Stg.fin [8] (by kernel_rfl) (.cons ?_ .nil) ?_
        ·exact Aw rfl rfl <| ag rfl rfl <| An rfl
        ·intro a H
         replace H := H.weaken (L' := [(3, (.pointer (some (blk b4)))), (6, (.pointer b68))]) ⟨rfl, rfl, trivial⟩
         obtain ⟨l71, hc72, h⟩ := h
         refine hK56 _ _ <| c_seq fun K69 hK69 => sr fun K70 hK70 => ww H <| ld rfl one_27 hc72 rfl <| bl (vs := [l71.v]) rfl rfl (fun cs => b_lenS (z := l71) sl_27) <| mv rfl rfl <| fun a H => nk hK70 <| c_block ?_
         obtain ⟨I75, m76, h102, h103⟩ := h
         refine c_loop (σ := Int) (fun z w => I75 z w) (fun z w => m76 z w) (fun z => [(6, (.pointer b68)), (44, l71.v), (45, (.i (l71.l : Int))), (46, (.i z))]) 0 h102 (H.weaken ⟨rfl, rfl, rfl, rfl, trivial⟩) ?_
         clear H h102
         rintro s73 a w74 h H
         replace h := h103 s73 w74 h
         clear h103
         replace H : Has 62 [] a [(6, (.pointer b68)), (44, l71.v), (45, (.i (l71.l : Int))), (46, (.i s73))] := H
         refine sr fun K77 hK77 => ww H <| bn rfl rfl r_lss rfl <| fun a H => nk hK77 <| c_seq fun K78 hK78 => cd H rfl h (fun h79 h => ?_) (fun h79 h => ?_)
         ·obtain ⟨a82, h83, h84, h85, h⟩ := h
          refine c_skip <| hK78 _ _ <| c_seq fun K80 hK80 => c_block <| sr fun K81 hK81 => ww H <| mv rfl rfl <| fun a H => s_idxS (s := l71) H rfl rfl rfl slc_27 h83 h84 h85 (lt_ rfl) fun a H => ?_
          obtain ⟨l86, hc87, a88, h100, h⟩ := h
          refine ww H <| ld rfl one_22 hc87 rfl <| ag rfl rfl <| ag rfl rfl <| fun a H => nk hK81 <| c_reg <| ww H <| mv rfl rfl <| fun a H => ?_
          revert H
          revert h
          subst h100
          intro h H
          obtain ⟨l89, hc90, a91, h92, h93, h94, h⟩ := h
          refine ww H <| nl rfl rfl <| fd rfl fld_133_1 rfl <| ld rfl one_27 hc90 rfl <| mv rfl rfl <| fun a H => s_idxS (s := l89) H rfl rfl rfl slc_27 h92 h93 h94 (lt_ rfl) fun a H => ?_
          obtain ⟨l95, hc96, n97, w98, h99, h⟩ := h
          refine ww H <| ld rfl one_22 hc96 rfl <| mv rfl rfl <| fun a H => s_blt H rfl (H.args (vs := [l95.v, l86.v]) rfl) (lt_ rfl) (fun cs => b_cpy (a := n97) h99) ?_
          clear H a h99
          intro a H
          refine nk hK80 <| c_reg <| ww H <| bn rfl rfl r_add rfl <| mv rfl rfl <| fun a H => c_nil <| Exists.intro (wr .i64 (s73 + 1)) ⟨h.1, h.2, H.weaken ⟨rfl, rfl, rfl, rfl, trivial⟩⟩
         ·refine c_exit ?_
          first | (simp only [Exit.then, Exit.inBlock, ↓reduceIte]; fail_if_success simp only [Nat.reduceEqDiff]) | simp only [Exit.then, Exit.inBlock, ↓reduceIte, Nat.reduceEqDiff]
          exact hK69 _ _ <| sr fun K101 hK101 => ww H <| mv rfl rfl <| ag rfl rfl <| ag rfl rfl <| fun a H => nk hK101 <| c_ret <| e_ret2 H rfl rfl rfl h

theorem sim_matrix_Matrix_Solve (m1 : Option Addr) (v2 : Slc) (w : World) (Q : Ending → World → Prop) (h : vc_matrix_Matrix_Solve m1 v2 w Q) : Calls PP F_matrix_Matrix_Solve #[(.pointer m1), v2.v] w Q := by
 unfold vc_matrix_Matrix_Solve at h
 have eP {L : List (Nat × Value)} (c : List PanicEntry) (w' : World) (a : Act) (h : Q (.panicked c) w') (H : Has 88 [] a L) : bodyPost PP Tryz.f55 Q (.panic c) a w' := e_panic H h
 refine enter (n := 88) Tryz.func55 rfl rfl (le_ rfl) fun a H => sr fun K3 hK3 => ww H <| ag rfl rfl <| ag rfl rfl <| fun a H => nk hK3 <| c_seq fun K4 hK4 => sr fun K5 hK5 => ww H <| mv rfl rfl <| bn rfl rfl (r_eqP0 ptr_79) rfl <| fun a H => nk hK5 <| cd H rfl h (fun h6 h => ?_) (fun h6 h => ?_)
 ·exact sr fun K7 hK7 => ww H <| ag rfl rfl <| ag rfl rfl <| fun a H => nk hK7 <| c_ret <| e_ret2 H rfl rfl rfl h
 ·obtain ⟨a10, h137, h⟩ := h
  refine c_skip <| hK4 _ _ <| c_seq fun K8 hK8 => sr fun K9 hK9 => ww H <| mv rfl rfl <| bl (vs := [v2.v]) rfl rfl (fun cs => b_lenS (z := v2) sl_22) <| mv rfl rfl <| fun a H => ?_
  revert H
  revert h
  subst h137
  intro h H
  obtain ⟨l11, hc12, h⟩ := h
  refine ww H <| nl rfl rfl <| fd rfl fld_133_1 rfl <| ld rfl one_27 hc12 rfl <| bl (vs := [l11.v]) rfl rfl (fun cs => b_lenS (z := l11) sl_27) <| bn rfl rfl r_neq rfl <| fun a H => nk hK9 <| cd H rfl h (fun h13 h => ?_) (fun h13 h => ?_)
  ·exact sr fun K14 hK14 => ww H <| ag rfl rfl <| ag rfl rfl <| fun a H => nk hK14 <| c_ret <| e_ret2 H rfl rfl rfl h
  ·obtain ⟨l16, hc17, a18, h19, h20, h21, h⟩ := h
   refine c_skip <| hK8 _ _ <| sr fun K15 hK15 => ww H <| mv rfl rfl <| nl rfl rfl <| fd rfl fld_133_1 rfl <| ld rfl one_27 hc17 rfl <| fun a H => s_idxS (s := l16) H rfl rfl rfl slc_27 h19 h20 h21 (lt_ rfl) fun a H => ?_
   obtain ⟨l22, hc23, h⟩ := h
   refine ww H <| ld rfl one_22 hc23 rfl <| bl (vs := [l22.v]) rfl rfl (fun cs => b_lenS (z := l22) sl_22) <| ag rfl rfl <| fun a H => nk hK15 <| sr fun K24 hK24 => ww H <| mv rfl rfl <| cl1 h body_33 rfl rfl eP fun R26 w25 h => ag rfl rfl <| fun a H => nk hK24 <| c_seq fun K27 hK27 => sr fun K28 hK28 => ww H <| mv rfl rfl <| bl (vs := [R26.v]) rfl rfl (fun cs => b_lenS (z := R26) sl_27) <| mv rfl rfl <| fun a H => nk hK28 <| c_block ?_
   obtain ⟨I31, m32, h131, h132⟩ := h
   refine c_loop (σ := Int) (fun z w => I31 z w) (fun z w => m32 z w) (fun z => [(0, (.pointer (some a10))), (1, v2.v), (6, (.i (l22.l : Int))), (7, R26.v), (33, (.i (R26.l : Int))), (34, (.i z))]) 0 h131 (H.weaken ⟨rfl, rfl, rfl, rfl, rfl, rfl, trivial⟩) ?_
   clear H h131
   rintro s29 a w30 h H
   replace h := h132 s29 w30 h
   clear h132
   replace H : Has 88 [] a [(0, (.pointer (some a10))), (1, v2.v), (6, (.i (l22.l : Int))), (7, R26.v), (33, (.i (R26.l : Int))), (34, (.i s29))] := H
   refine sr fun K33 hK33 => ww H <| bn rfl rfl r_lss rfl <| fun a H => nk hK33 <| c_seq fun K34 hK34 => cd H rfl h (fun h35 h => ?_) (fun h35 h => ?_)
   ·refine c_skip <| hK34 _ _ <| c_seq fun K36 hK36 => c_block <| sr fun K37 hK37 => ww H <| mv rfl rfl <| ag rfl rfl <| fun a H => nk hK37 <| ?_
    replace H := H.weaken (L' := [(0, (.pointer (some a10))), (1, v2.v), (6, (.i (l22.l : Int))), (7, R26.v), (8, (.i s29)), (33, (.i (R26.l : Int))), (34, (.i s29))]) ⟨rfl, rfl, rfl, rfl, rfl, rfl, rfl, trivial⟩
    obtain ⟨a38, h39, h40, h41, l42, hc43, a44, h45, h46, h47, l48, hc49, h⟩ := h
    refine c_any (V := [(0, R26.v), (1, (.i s29)), (2, R26.v), (3, (.i s29)), (4, (.pointer (some (a38.add (Int.toNat (s29) * 1))))), (5, l42.v), (6, v2.v), (7, (.i s29)), (8, (.pointer (some (a44.add (Int.toNat (s29) * 1))))), (9, (.int .u8 l48))]) (⟨[[], [], [], [], [2, 3], [4], [], [], [6, 7], [8], [9], [5, 10], [0, 1, 2, 3, 4, 5, 6, 7, 8, 9, 10, 11], [0, 1, 2, 3, 4, 5, 6, 7, 8, 9, 10, 11, 12]], [some 37, some 38, some 39, some 40, some 41, some 42, some 43, some 44, some 45, some 46, some 47, some 48, some 49, none], [10, 11, 13], [0, 0, 0, 0, 0, 0, 0, 0, 0, 0, 0, 1, 2, 2], [2, 2, 1, 1, 1, 1, 0, 0, 0, 0, 1, 2, 2, 3]⟩ : Rg) [(0, (.pointer (some a10))), (1, v2.v), (6, (.i (l22.l : Int))), (7, R26.v), (8, (.i s29)), (33, (.i (R26.l : Int))), (34, (.i s29))] mixed (by kernel_rfl) H <| Stg.eff [0, 1, 2, 3, 4, 5, 6, 7, 8, 9] (by kernel_rfl) rfl (.cons ?_ (.cons ?_ (.cons ?_ (.cons ?_ (.cons ?_ (.cons ?_ (.cons ?_ (.cons ?_ (.cons ?_ (.cons ?_ .nil)))))))))) ?_
    ·exact Aw rfl rfl <| mv rfl rfl <| An rfl
    ·exact Aw rfl rfl <| mv rfl rfl <| An rfl
    ·exact Aw rfl rfl <| mv rfl rfl <| An rfl
    ·exact Aw rfl rfl <| mv rfl rfl <| An rfl
    ·exact Ans.mk rfl rfl fun a H => s_idxS (s := R26) H rfl rfl rfl slc_27 h39 h40 h41 (lt_ rfl) fun a H => Ans.fin H rfl
    ·exact Aw rfl rfl <| ld rfl one_22 hc43 rfl <| An rfl
    ·exact Aw rfl rfl <| mv rfl rfl <| An rfl
    ·exact Aw rfl rfl <| mv rfl rfl <| An rfl
    ·exact Ans.mk rfl rfl fun a H => s_idxS (s := v2) H rfl rfl rfl slc_22 h45 h46 h47 (lt_ rfl) fun a H => Ans.fin H rfl
    ·exact Aw rfl rfl <| ld rfl one_5 hc49 rfl <| An rfl
    ·intro a H
     replace H := H.weaken (L' := [(46, (.int .u8 l48))]) ⟨rfl, trivial⟩
     replace h := h.get
     obtain ⟨b50, w51, n52, h⟩ := h
     refine s_bslc H rfl (by rw [H.parts (vs := [(0, (.int .u8 l48))]) rfl]; exact bs_22_1_iu80 (w30.drewN 1) l48) (lt_ rfl) ?_
     rw [← n52.at_]
     clear H a
     intro a H
     refine n52.go ?_
     obtain ⟨hc53, h⟩ := h
     refine c_nil <| effQ.go [] H rfl rfl <| Stg.eff [0, 1, 2, 3, 4, 5] (by kernel_rfl) rfl (.cons ?_ (.cons ?_ (.cons ?_ (.cons ?_ (.cons ?_ (.cons ?_ .nil)))))) ?_
     ·exact Aw rfl rfl <| mv rfl rfl <| An rfl
     ·exact Aw rfl rfl <| mv rfl rfl <| An rfl
     ·exact Aw rfl rfl <| mv rfl rfl <| An rfl
     ·exact Aw rfl rfl <| mv rfl rfl <| An rfl
     ·exact Ans.mk rfl rfl fun a H => s_idxS (s := R26) H rfl rfl rfl slc_27 h39 h40 h41 (lt_ rfl) fun a H => Ans.fin H rfl
     ·exact Aw rfl rfl <| ld rfl one_22 hc53 rfl <| An rfl
     ·intro a H
      replace H := H.weaken (L' := [(42, l42.v), (47, (Slc.v (Slc.mk (some (blk b50)) 1 1)))]) ⟨rfl, rfl, trivial⟩
      obtain ⟨s54, w55, h56, h⟩ := h
      refine s_blt H rfl (H.args (vs := [l42.v, (Slc.v (Slc.mk (some (blk b50)) 1 1))]) rfl) (lt_ rfl) (fun cs => b_app (z := s54) h56) ?_
      clear H a h56
      intro a H
      obtain ⟨a57, h58, h59, h60, h⟩ := h
      refine c_nil <| effQ.go [(12, (.pointer (some (a57.add (Int.toNat (s29) * 1)))))] H rfl rfl <| Stg.eff [0, 1, 12] (by kernel_rfl) rfl (.cons ?_ (.cons ?_ (.cons ?_ .nil))) ?_
      ·exact Aw rfl rfl <| mv rfl rfl <| An rfl
      ·exact Aw rfl rfl <| mv rfl rfl <| An rfl
      ·exact Ans.mk rfl rfl fun a H => s_idxS (s := R26) H rfl rfl rfl slc_27 h58 h59 h60 (lt_ rfl) fun a H => Ans.fin H rfl
      ·refine st h rfl rfl one_22 rfl fun w61 w61S h => fun a H => c_nil <| effQ.go0 [] H rfl rfl <| Stg.fin [] (by kernel_rfl) .nil ?_
       ·intro a H
        replace H := H.weaken (L' := [(0, (.pointer (some a10))), (1, v2.v), (6, (.i (l22.l : Int))), (7, R26.v), (33, (.i (R26.l : Int))), (34, (.i s29))]) ⟨rfl, rfl, rfl, rfl, rfl, rfl, trivial⟩
        refine hK36 _ _ <| c_reg <| ww H <| bn rfl rfl r_add rfl <| mv rfl rfl <| fun a H => c_nil <| Exists.intro (wr .i64 (s29 + 1)) ⟨h.1, h.2, H.weaken ⟨rfl, rfl, rfl, rfl, rfl, rfl, trivial⟩⟩
   ·refine c_exit ?_
    first | (simp only [Exit.then, Exit.inBlock, ↓reduceIte]; fail_if_success simp only [Nat.reduceEqDiff]) | simp only [Exit.then, Exit.inBlock, ↓reduceIte, Nat.reduceEqDiff]
    obtain ⟨l65, hc66, h⟩ := h
    refine hK27 _ _ <| sr fun K64 hK64 => ww H <| mv rfl rfl <| nl rfl rfl <| fd rfl fld_133_0 rfl <| ld rfl one_44 hc66 rfl <| mv rfl rfl <| mv rfl rfl <| cl1 h body_77 rfl rfl eP fun e68 w67 h => fun a H => ?_
    obtain ⟨s70, w71, h72, h⟩ := h
    refine ww H <| ag rfl rfl <| fun a H => nk hK64 <| sr fun K69 hK69 => ww H <| mv rfl rfl <| fun a H => s_mk H rfl rfl rfl h72 (lt_ rfl) ?_
    clear H a h72
    intro a H
    refine ww H <| ag rfl rfl <| fun a H => nk hK69 <| c_seq fun K73 hK73 => sr fun K74 hK74 => ww H <| mv rfl rfl <| bl (vs := [R26.v]) rfl rfl (fun cs => b_lenS (z := R26) sl_27) <| mv rfl rfl <| fun a H => nk hK74 <| c_block ?_
    obtain ⟨I77, m78, h125, h126⟩ := h
    refine c_loop (σ := Int) (fun z w => I77 z w) (fun z w => m78 z w) (fun z => [(6, (.i (l22.l : Int))), (9, e68.v), (10, s70.v), (60, R26.v), (61, (.i (R26.l : Int))), (62, (.i z))]) 0 h125 (H.weaken ⟨rfl, rfl, rfl, rfl, rfl, rfl, trivial⟩) ?_
    clear H h125
    rintro s75 a w76 h H
    replace h := h126 s75 w76 h
    clear h126
    replace H : Has 88 [] a [(6, (.i (l22.l : Int))), (9, e68.v), (10, s70.v), (60, R26.v), (61, (.i (R26.l : Int))), (62, (.i s75))] := H
    refine sr fun K79 hK79 => ww H <| bn rfl rfl r_lss rfl <| fun a H => nk hK79 <| c_seq fun K80 hK80 => cd H rfl h (fun h81 h => ?_) (fun h81 h => ?_)
    ·refine c_skip <| hK80 _ _ <| c_seq fun K82 hK82 => ?_
     obtain ⟨R83, h, h123⟩ := h
     have h85 : ∀ (a : Act) (w84 : World), R83 w84 → Has 88 [] a [(6, (.i (l22.l : Int))), (9, e68.v), (10, s70.v), (60, R26.v), (61, (.i (R26.l : Int))), (62, (.i s75))] → K82 a w84 := by
      clear h
      intro a w84 h H
      replace h := h123 w84 h
      refine hK82 _ _ <| c_reg <| ww H <| bn rfl rfl r_add rfl <| mv rfl rfl <| fun a H => c_nil <| Exists.intro (wr .i64 (s75 + 1)) ⟨h.1, h.2, H.weaken ⟨rfl, rfl, rfl, rfl, rfl, rfl, trivial⟩⟩
     clear h123
     obtain ⟨a87, h88, h89, h90, h⟩ := h
     refine c_block <| sr fun K86 hK86 => ww H <| mv rfl rfl <| fun a H => s_idxS (s := R26) H rfl rfl rfl slc_27 h88 h89 h90 (lt_ rfl) fun a H => ?_
     obtain ⟨l91, hc92, h⟩ := h
     refine ww H <| ld rfl one_22 hc92 rfl <| ag rfl rfl <| ag rfl rfl <| fun a H => nk hK86 <| sr fun K93 hK93 => ww H <| mv rfl rfl <| mv rfl rfl <| bl (vs := [e68.v]) rfl rfl (fun cs => b_lenS (z := e68) sl_23) <| bn rfl rfl r_lss rfl <| fun a H => nk hK93 <| cd H rfl h (fun h94 h => ?_) (fun h94 h => ?_)
     ·replace H := H.weaken (L' := [(6, (.i (l22.l : Int))), (9, e68.v), (10, s70.v), (11, (.i s75)), (12, l91.v), (60, R26.v), (61, (.i (R26.l : Int))), (62, (.i s75))]) ⟨rfl, rfl, rfl, rfl, rfl, rfl, rfl, rfl, trivial⟩
      obtain ⟨a95, h96, h97, h98, l99, hc100, a101, h102, h103, h104, l105, hc106, a107, h108, h109, h110, h⟩ := h
      refine c_any (V := [(0, s70.v), (1, e68.v), (2, (.i s75)), (3, (.pointer (some (a95.add (Int.toNat (s75) * 1))))), (4, (.i l99)), (5, l91.v), (6, (.i (l22.l : Int))), (7, (.pointer (some (a101.add (Int.toNat ((l22.l : Int)) * 1))))), (8, (.int .u8 l105)), (9, (.pointer (some (a107.add (Int.toNat (l99) * 1)))))]) (⟨[[], [], [], [1, 2], [3], [], [], [5, 6], [7], [0, 1, 2, 3, 4, 5, 6, 7, 8], [0, 1, 2, 3, 4, 5, 6, 7, 8, 9]], [some 71, some 72, some 73, some 74, some 75, some 76, some 77, some 78, some 79, some 80, none], [10], [0, 0, 0, 0, 0, 0, 0, 0, 0, 0, 0], [0, 0, 0, 0, 0, 0, 0, 0, 0, 0, 1]⟩ : Rg) [(6, (.i (l22.l : Int))), (9, e68.v), (10, s70.v), (11, (.i s75)), (12, l91.v), (60, R26.v), (61, (.i (R26.l : Int))), (62, (.i s75))] mixed (by kernel_rfl) H <| Stg.eff [0, 1, 2, 3, 4, 5, 6, 7, 8, 9] (by kernel_rfl) rfl (.cons ?_ (.cons ?_ (.cons ?_ (.cons ?_ (.cons ?_ (.cons ?_ (.cons ?_ (.cons ?_ (.cons ?_ (.cons ?_ .nil)))))))))) ?_
      ·exact Aw rfl rfl <| mv rfl rfl <| An rfl
      ·exact Aw rfl rfl <| mv rfl rfl <| An rfl
      ·exact Aw rfl rfl <| mv rfl rfl <| An rfl
      ·exact Ans.mk rfl rfl fun a H => s_idxS (s := e68) H rfl rfl rfl slc_23 h96 h97 h98 (lt_ rfl) fun a H => Ans.fin H rfl
      ·exact Aw rfl rfl <| ld rfl one_3 hc100 rfl <| An rfl
      ·exact Aw rfl rfl <| mv rfl rfl <| An rfl
      ·exact Aw rfl rfl <| mv rfl rfl <| An rfl
      ·exact Ans.mk rfl rfl fun a H => s_idxS (s := l91) H rfl rfl rfl slc_22 h102 h103 h104 (lt_ rfl) fun a H => Ans.fin H rfl
      ·exact Aw rfl rfl <| ld rfl one_5 hc106 rfl <| An rfl
      ·exact Ans.mk rfl rfl fun a H => s_idxS (s := s70) H rfl rfl rfl slc_22 h108 h109 h110 (lt_ rfl) fun a H => Ans.fin H rfl
      ·refine st h rfl rfl one_5 rfl fun w111 w111S h => fun a H => c_nil <| effQ.go0 [] H rfl rfl <| Stg.fin [] (by kernel_rfl) .nil ?_
       ·intro a H
        replace H := H.weaken (L' := [(6, (.i (l22.l : Int))), (9, e68.v), (10, s70.v), (60, R26.v), (61, (.i (R26.l : Int))), (62, (.i s75))]) ⟨rfl, rfl, rfl, rfl, rfl, rfl, trivial⟩
        exact h85 _ _ h (H.weaken ⟨rfl, rfl, rfl, rfl, rfl, rfl, trivial⟩)
     ·obtain ⟨a115, h116, h117, h118, h⟩ := h
      refine sr fun K114 hK114 => ww H <| mv rfl rfl <| mv rfl rfl <| fun a H => s_idxS (s := l91) H rfl rfl rfl slc_22 h116 h117 h118 (lt_ rfl) fun a H => ?_
      obtain ⟨l119, hc120, h⟩ := h
      refine ww H <| ld rfl one_5 hc120 rfl <| bn rfl rfl r_neq rfl <| fun a H => nk hK114 <| cd H rfl h (fun h121 h => ?_) (fun h121 h => ?_)
      ·exact sr fun K122 hK122 => ww H <| ag rfl rfl <| ag rfl rfl <| fun a H => nk hK122 <| c_ret <| e_ret2 H rfl rfl rfl h
      ·exact c_skip <| h85 _ _ h (H.weaken ⟨rfl, rfl, rfl, rfl, rfl, rfl, trivial⟩)
    ·refine c_exit ?_
     first | (simp only [Exit.then, Exit.inBlock, ↓reduceIte]; fail_if_success simp only [Nat.reduceEqDiff]) | simp only [Exit.then, Exit.inBlock, ↓reduceIte, Nat.reduceEqDiff]
     exact hK73 _ _ <| sr fun K124 hK124 => ww H <| mv rfl rfl <| ag rfl rfl <| ag rfl rfl <| fun a H => nk hK124 <| c_ret <| e_ret2 H rfl rfl rfl h

theorem sim_mend_divided (f1 : Option Addr) (a2 b3 : Slc) (w : World) (Q : Ending → World → Prop) (h : vc_mend_divided f1 a2 b3 w Q) : Calls PP F_mend_divided #[(.pointer f1), a2.v, b3.v] w Q := by
 unfold vc_mend_divided at h
 have eP {L : List (Nat × Value)} (c : List PanicEntry) (w' : World) (a : Act) (h : Q (.panicked c) w') (H : Has 55 [] a L) : bodyPost PP Tryz.f56 Q (.panic c) a w' := e_panic H h
 refine enter (n := 55) Tryz.func56 rfl rfl (le_ rfl) fun a H => sr fun K4 hK4 => ww H <| ag rfl rfl <| ag rfl rfl <| fun a H => nk hK4 <| sr fun K5 hK5 => ww H <| mv rfl rfl <| cl1 h body_89 rfl rfl eP fun C7 w6 h => fun a H => ?_
 obtain ⟨s9, w10, h11, h⟩ := h
 refine ww H <| ag rfl rfl <| fun a H => nk hK5 <| sr fun K8 hK8 => ww H <| mv rfl rfl <| bl (vs := [a2.v]) rfl rfl (fun cs => b_lenS (z := a2) sl_22) <| mv rfl rfl <| bl (vs := [b3.v]) rfl rfl (fun cs => b_lenS (z := b3) sl_22) <| bn rfl rfl r_sub rfl <| bn rfl rfl r_add rfl <| fun a H => s_mk H rfl rfl rfl h11 (lt_ rfl) ?_
 clear H a h11
 intro a H
 refine ww H <| ag rfl rfl <| fun a H => nk hK8 <| c_seq fun K12 hK12 => sr fun K13 hK13 => ww H <| mv rfl rfl <| bl (vs := [s9.v]) rfl rfl (fun cs => b_lenS (z := s9) sl_22) <| bn rfl rfl r_sub rfl <| ag rfl rfl <| fun a H => nk hK13 <| c_block ?_
 obtain ⟨I16, m17, h53, h54⟩ := h
 refine c_loop (σ := Int) (fun z w => I16 z w) (fun z w => m17 z w) (fun z => [(0, (.pointer f1)), (2, b3.v), (8, C7.v), (9, s9.v), (10, (.i z))]) (wr .i64 ((s9.l : Int) - 1)) h53 (H.weaken ⟨rfl, rfl, rfl, rfl, rfl, trivial⟩) ?_
 clear H h53
 rintro i14 a w15 h H
 replace h := h54 i14 w15 h
 clear h54
 replace H : Has 55 [] a [(0, (.pointer f1)), (2, b3.v), (8, C7.v), (9, s9.v), (10, (.i i14))] := H
 refine c_seq fun K18 hK18 => sr fun K19 hK19 => ww H <| mv rfl rfl <| bn rfl rfl r_geq rfl <| fun a H => nk hK19 <| cd H rfl h (fun h20 h => ?_) (fun h20 h => ?_)
 ·obtain ⟨a23, h24, h25, h26, h⟩ := h
  refine c_skip <| hK18 _ _ <| c_seq fun K21 hK21 => c_block <| sr fun K22 hK22 => ww H <| mv rfl rfl <| mv rfl rfl <| mv rfl rfl <| bl (vs := [b3.v]) rfl rfl (fun cs => b_lenS (z := b3) sl_22) <| bn rfl rfl r_add rfl <| bn rfl rfl r_sub rfl <| fun a H => s_idxS (s := C7) H rfl rfl rfl slc_22 h24 h25 h26 (lt_ rfl) fun a H => ?_
  obtain ⟨l27, hc28, a30, h31, h32, h33, h⟩ := h
  refine ww H <| ld rfl one_5 hc28 rfl <| ag rfl rfl <| fun a H => nk hK22 <| sr fun K29 hK29 => ww H <| mv rfl rfl <| mv rfl rfl <| mv rfl rfl <| fun a H => s_idxS (s := s9) H rfl rfl rfl slc_22 h31 h32 h33 (lt_ rfl) fun a H => ww H <| st h rfl rfl one_5 rfl fun w34 w34S h => fun a H => ?_
  obtain ⟨h37, h38, h39, h⟩ := h
  refine nk hK29 <| c_reg <| ww H <| mv rfl rfl <| mv rfl rfl <| mv rfl rfl <| mv rfl rfl <| mv rfl rfl <| bl (vs := [b3.v]) rfl rfl (fun cs => b_lenS (z := b3) sl_22) <| bn rfl rfl r_add rfl <| fun a H => s_slice (v := (Slc.v (C7.cut 1 (Int.toNat (i14)) (Int.toNat (wr .i64 (i14 + (b3.l : Int))))))) H rfl rfl ⟨rfl, rfl⟩ ⟨rfl, rfl⟩ ⟨rfl, rfl⟩ (r_sliceSlc (lo := (some (.i64, i14))) (hi := (some (.i64, wr .i64 (i14 + (b3.l : Int))))) slc_22 rfl rfl h37 h38 h39) (lt_ rfl) fun a H => ww H <| mv rfl rfl <| mv rfl rfl <| cl1 h body_36 rfl rfl eP fun A41 w40 h => fun a H => nk hK21 <| c_reg <| ww H <| mv rfl rfl <| bn rfl rfl r_sub rfl <| ag rfl rfl <| fun a H => c_nil <| Exists.intro (wr .i64 (i14 - 1)) ⟨h.1, h.2, H.weaken ⟨rfl, rfl, rfl, rfl, rfl, trivial⟩⟩
 ·refine c_exit ?_
  first | (simp only [Exit.then, Exit.inBlock, ↓reduceIte]; fail_if_success simp only [Nat.reduceEqDiff]) | simp only [Exit.then, Exit.inBlock, ↓reduceIte, Nat.reduceEqDiff]
  exact hK12 _ _ <| sr fun K46 hK46 => ww H <| mv rfl rfl <| mv rfl rfl <| cl1 h body_90 rfl rfl eP fun b48 w47 h => fun a H => s_un H rfl rfl r_not (lt_ rfl) fun a H => ww H <| ag rfl rfl <| ag rfl rfl <| fun a H => nk hK46 <| c_ret <| e_ret2 H rfl rfl rfl h

theorem sim_gf_Field_Eval (f1 : Option Addr) (p2 : Slc) (x3 : Int) (w : World) (Q : Ending → World → Prop) (h : vc_gf_Field_Eval f1 p2 x3 w Q) : Calls PP F_gf_Field_Eval #[(.pointer f1), p2.v, (.int .u8 x3)] w Q := by
 unfold vc_gf_Field_Eval at h
 have eP {L : List (Nat × Value)} (c : List PanicEntry) (w' : World) (a : Act) (h : Q (.panicked c) w') (H : Has 28 [] a L) : bodyPost PP Tryz.f57 Q (.panic c) a w' := e_panic H h
 refine enter (n := 28) Tryz.func57 rfl rfl (le_ rfl) fun a H => sr fun K4 hK4 => ww H <| ag rfl rfl <| fun a H => nk hK4 <| c_seq fun K5 hK5 => sr fun K6 hK6 => ww H <| mv rfl rfl <| bn rfl rfl (r_eqP0 ptr_44) rfl <| fun a H => nk hK6 <| cd H rfl h (fun h7 h => ?_) (fun h7 h => ?_)
 ·exact sr fun K8 hK8 => ww H <| ag rfl rfl <| fun a H => nk hK8 <| c_ret <| e_ret1 H rfl rfl h
 ·refine c_skip <| hK5 _ _ <| sr fun K9 hK9 => ww H <| ag rfl rfl <| fun a H => nk hK9 <| c_seq fun K10 hK10 => sr fun K11 hK11 => ww H <| mv rfl rfl <| bl (vs := [p2.v]) rfl rfl (fun cs => b_lenS (z := p2) sl_22) <| bn rfl rfl r_sub rfl <| ag rfl rfl <| fun a H => nk hK11 <| c_block ?_
  obtain ⟨I15, m16, h35, h36⟩ := h
  refine c_loop (σ := Int × Int) (fun z w => I15 z.1 z.2 w) (fun z w => m16 z.1 z.2 w) (fun z => [(0, (.pointer f1)), (1, p2.v), (2, (.int .u8 x3)), (7, (.int .u8 z.1)), (8, (.i z.2))]) (0, wr .i64 ((p2.l : Int) - 1)) h35 (H.weaken ⟨rfl, rfl, rfl, rfl, rfl, trivial⟩) ?_
  clear H h35
  rintro ⟨s12, i13⟩ a w14 h H
  replace h := h36 s12 i13 w14 h
  clear h36
  replace H : Has 28 [] a [(0, (.pointer f1)), (1, p2.v), (2, (.int .u8 x3)), (7, (.int .u8 s12)), (8, (.i i13))] := H
  refine c_seq fun K17 hK17 => sr fun K18 hK18 => ww H <| mv rfl rfl <| bn rfl rfl r_geq rfl <| fun a H => nk hK18 <| cd H rfl h (fun h19 h => ?_) (fun h19 h => ?_)
  ·refine c_skip <| hK17 _ _ <| c_seq fun K20 hK20 => c_block ?_
   replace H := H.weaken (L' := [(0, (.pointer f1)), (1, p2.v), (2, (.int .u8 x3)), (7, (.int .u8 s12)), (8, (.i i13))]) ⟨rfl, rfl, rfl, rfl, rfl, trivial⟩
   obtain ⟨a21, h22, h23, h24, l25, hc26, h⟩ := h
   refine c_any (V := [(0, (.pointer f1)), (1, (.int .u8 s12)), (2, (.int .u8 x3)), (4, p2.v), (5, (.i i13)), (6, (.pointer (some (a21.add (Int.toNat (i13) * 1))))), (7, (.int .u8 l25))]) (⟨[[], [], [], [0, 1, 2], [], [], [4, 5], [6], [3, 7], [0, 1, 2, 3, 4, 5, 6, 7, 8]], [some 18, some 19, some 20, some 21, some 22, some 23, some 24, some 25, some 26, some 7], [3], [0, 0, 0, 0, 0, 0, 0, 0, 1, 1], [0, 0, 0, 1, 1, 1, 1, 1, 1, 1]⟩ : Rg) [(0, (.pointer f1)), (1, p2.v), (2, (.int .u8 x3)), (7, (.int .u8 s12)), (8, (.i i13))] mixed (by kernel_rfl) H <| Stg.eff [0, 1, 2, 4, 5, 6, 7] (by kernel_rfl) rfl (.cons ?_ (.cons ?_ (.cons ?_ (.cons ?_ (.cons ?_ (.cons ?_ (.cons ?_ .nil))))))) ?_
   ·exact Aw rfl rfl <| mv rfl rfl <| An rfl
   ·exact Aw rfl rfl <| mv rfl rfl <| An rfl
   ·exact Aw rfl rfl <| mv rfl rfl <| An rfl
   ·exact Aw rfl rfl <| mv rfl rfl <| An rfl
   ·exact Aw rfl rfl <| mv rfl rfl <| An rfl
   ·exact Ans.mk rfl rfl fun a H => s_idxS (s := p2) H rfl rfl rfl slc_22 h22 h23 h24 (lt_ rfl) fun a H => Ans.fin H rfl
   ·exact Aw rfl rfl <| ld rfl one_5 hc26 rfl <| An rfl
   ·refine cl1 h body_52 rfl rfl eP fun M28 w27 h => fun a H => ?_
    obtain ⟨hc29, h⟩ := h
    refine c_nil <| effQ.go [(8, (.int .u8 (xorI .u8 M28 l25))), (9, (.int .u8 (xorI .u8 M28 l25)))] H rfl rfl <| Stg.fin [4, 5, 6, 7, 8, 9] (by kernel_rfl) (.cons ?_ (.cons ?_ (.cons ?_ (.cons ?_ (.cons ?_ (.cons ?_ .nil)))))) ?_
    ·exact Aw rfl rfl <| mv rfl rfl <| An rfl
    ·exact Aw rfl rfl <| mv rfl rfl <| An rfl
    ·exact Ans.mk rfl rfl fun a H => s_idxS (s := p2) H rfl rfl rfl slc_22 h22 h23 h24 (lt_ rfl) fun a H => Ans.fin H rfl
    ·exact Aw rfl rfl <| ld rfl one_5 hc29 rfl <| An rfl
    ·exact Aw rfl rfl <| bn rfl rfl r_xor rfl <| An rfl
    ·exact Aw rfl rfl <| ag rfl rfl <| An rfl
    ·intro a H
     replace H := H.weaken (L' := [(0, (.pointer f1)), (1, p2.v), (2, (.int .u8 x3)), (7, (.int .u8 (xorI .u8 M28 l25))), (8, (.i i13))]) ⟨rfl, rfl, rfl, rfl, rfl, trivial⟩
     refine hK20 _ _ <| c_reg <| ww H <| mv rfl rfl <| bn rfl rfl r_sub rfl <| ag rfl rfl <| fun a H => c_nil <| Exists.intro (xorI .u8 M28 l25, wr .i64 (i13 - 1)) ⟨h.1, h.2, H.weaken ⟨rfl, rfl, rfl, rfl, rfl, trivial⟩⟩
  ·refine c_exit ?_
   first | (simp only [Exit.then, Exit.inBlock, ↓reduceIte]; fail_if_success simp only [Nat.reduceEqDiff]) | simp only [Exit.then, Exit.inBlock, ↓reduceIte, Nat.reduceEqDiff]
   exact hK10 _ _ <| sr fun K34 hK34 => ww H <| mv rfl rfl <| ag rfl rfl <| fun a H => nk hK34 <| c_ret <| e_ret1 H rfl rfl h

theorem sim_slices_Index (s1 : Slc) (v2 : Bool) (w : World) (Q : Ending → World → Prop) (h : vc_slices_Index s1 v2 w Q) : Calls PP F_slices_Index #[s1.v, (.bool v2)] w Q := by
 unfold vc_slices_Index at h
 refine enter (n := 19) Tryz.func63 rfl rfl (le_ rfl) fun a H => sr fun K3 hK3 => ww H <| ag rfl rfl <| fun a H => nk hK3 <| c_seq fun K4 hK4 => sr fun K5 hK5 => ww H <| mv rfl rfl <| bl (vs := [s1.v]) rfl rfl (fun cs => b_lenS (z := s1) sl_56) <| mv rfl rfl <| fun a H => nk hK5 <| c_block ?_
 obtain ⟨I8, m9, h25, h26⟩ := h
 refine c_loop (σ := Int) (fun z w => I8 z w) (fun z w => m9 z w) (fun z => [(0, s1.v), (1, (.bool v2)), (7, (.i (s1.l : Int))), (8, (.i z))]) 0 h25 (H.weaken ⟨rfl, rfl, rfl, rfl, trivial⟩) ?_
 clear H h25
 rintro s6 a w7 h H
 replace h := h26 s6 w7 h
 clear h26
 replace H : Has 19 [] a [(0, s1.v), (1, (.bool v2)), (7, (.i (s1.l : Int))), (8, (.i s6))] := H
 refine sr fun K10 hK10 => ww H <| bn rfl rfl r_lss rfl <| fun a H => nk hK10 <| c_seq fun K11 hK11 => cd H rfl h (fun h12 h => ?_) (fun h12 h => ?_)
 ·obtain ⟨a16, h17, h18, h19, h⟩ := h
  refine c_skip <| hK11 _ _ <| c_seq fun K13 hK13 => c_block <| sr fun K14 hK14 => ww H <| mv rfl rfl <| ag rfl rfl <| fun a H => nk hK14 <| sr fun K15 hK15 => ww H <| mv rfl rfl <| mv rfl rfl <| mv rfl rfl <| fun a H => s_idxS (s := s1) H rfl rfl rfl slc_56 h17 h18 h19 (lt_ rfl) fun a H => ?_
  obtain ⟨l20, hc21, h⟩ := h
  refine ww H <| ld rfl one_4 hc21 rfl <| bn rfl rfl (r_eqB bool_4) rfl <| fun a H => nk hK15 <| cd H rfl h (fun h22 h => ?_) (fun h22 h => ?_)
  ·exact sr fun K23 hK23 => ww H <| mv rfl rfl <| ag rfl rfl <| fun a H => nk hK23 <| c_ret <| e_ret1 H rfl rfl h
  ·refine c_skip <| hK13 _ _ <| c_reg <| ww H <| bn rfl rfl r_add rfl <| mv rfl rfl <| fun a H => c_nil <| Exists.intro (wr .i64 (s6 + 1)) ⟨h.1, h.2, H.weaken ⟨rfl, rfl, rfl, rfl, trivial⟩⟩
 ·refine c_exit ?_
  first | (simp only [Exit.then, Exit.inBlock, ↓reduceIte]; fail_if_success simp only [Nat.reduceEqDiff]) | simp only [Exit.then, Exit.inBlock, ↓reduceIte, Nat.reduceEqDiff]
  exact hK4 _ _ <| sr fun K24 hK24 => ww H <| ag rfl rfl <| fun a H => nk hK24 <| c_ret <| e_ret1 H rfl rfl h

theorem sim_cmp_Less (x1 y2 : Int) (w : World) (Q : Ending → World → Prop) (h : vc_cmp_Less x1 y2 w Q) : Calls PP F_cmp_Less #[(.i x1), (.i y2)] w Q := by
 unfold vc_cmp_Less at h
 have eP {L : List (Nat × Value)} (c : List PanicEntry) (w' : World) (a : Act) (h : Q (.panicked c) w') (H : Has 17 [] a L) : bodyPost PP Tryz.f70 Q (.panic c) a w' := e_panic H h
 refine enter (n := 17) Tryz.func70 rfl rfl (le_ rfl) fun a H => sr fun K3 hK3 => ww H <| ag rfl rfl <| fun a H => nk hK3 <| sr fun K4 hK4 => ww H <| mv rfl rfl <| cl1 h body_98 rfl rfl eP fun i6 w5 h => mv rfl rfl <| fun a H => ?_
 obtain ⟨R9, h, h20⟩ := h
 refine g_joinW (n := 17) R9 (fun x10 => [(11, (.bool x10)), (0, (.i x1)), (1, (.i y2))]) (.succ (.succ (.succ (.succ (.zero _))))) ?_ ?_
 ·intro h8
  clear h20
  rcases Bool.eq_false_or_eq_true i6 with h7 | h7
  ·replace H := H.ch (t := 7) (b := true) rfl h7
   replace h := h.1 h7
   refine ww H <| gmv rfl rfl rfl rfl <| fun a H => s_call H (wantG H rfl rfl) body_98 (H.args (vs := [(.i y2)]) rfl) (lt_ rfl) h ?_ (fun c w' => eP c w' _)
   clear H h a
   rintro _ w12 a ⟨i13, rfl, h⟩ H
   exact s_un H (wantG H rfl rfl) rfl r_not (lt_ rfl) fun a H => ww H <| pT rfl rfl rfl <| fun a H => h8 _ _ _ h (H.weaken ⟨rfl, rfl, rfl, trivial⟩)
  ·replace H := H.ch (t := 7) (b := false) rfl h7
   replace h := h.2 h7
   exact ww H <| sk rfl rfl rfl rfl <| sk rfl rfl rfl rfl <| sk rfl rfl rfl rfl <| pF rfl rfl rfl <| fun a H => h8 _ _ _ h (H.weaken ⟨rfl, rfl, rfl, trivial⟩)
 ·clear H a h
  intro a x10 w11 h H
  replace h := h20 x10 w11 h
  clear h20
  refine ww H <| mv rfl rfl <| fun a H => g_join (n := 17) [(16, (.bool (x10 || (decide (x1 < y2)))))] (.succ (.succ (.succ (.succ (.zero _))))) ?_ ?_
  ·intro h19
   try clear h
   rcases Bool.eq_false_or_eq_true x10 with h18 | h18
   ·replace H := H.ch (t := 12) (b := true) rfl h18
    exact ww H <| sk rfl rfl rfl rfl <| sk rfl rfl rfl rfl <| sk rfl rfl rfl rfl <| pT rfl rfl rfl <| fun a H => h19 _ (H.weaken ⟨by rw [h18]; rfl, trivial⟩)
   ·replace H := H.ch (t := 12) (b := false) rfl h18
    exact ww H <| gmv rfl rfl rfl rfl <| gmv rfl rfl rfl rfl <| gbn rfl rfl rfl rfl r_lss rfl <| pF rfl rfl rfl <| fun a H => h19 _ (H.weaken ⟨by rw [h18]; rfl, trivial⟩)
  ·clear H a
   intro a H
   exact ww H <| ag rfl rfl <| fun a H => nk hK4 <| c_ret <| e_ret1 H rfl rfl h

theorem sim_matrix_sized (f1 : Option Addr) (r2 c3 : Int) (w : World) (Q : Ending → World → Prop) (h : vc_matrix_sized f1 r2 c3 w Q) : Calls PP F_matrix_sized #[(.pointer f1), (.i r2), (.i c3)] w Q := by
 unfold vc_matrix_sized at h
 refine enter (n := 24) Tryz.func75 rfl rfl (le_ rfl) fun a H => sr fun K4 hK4 => ww H <| ag rfl rfl <| fun a H => nk hK4 <| c_seq fun K5 hK5 => c_block <| sr fun K6 hK6 => ww H <| mv rfl rfl <| bn rfl rfl (r_eqP0 ptr_44) rfl <| ag rfl rfl <| fun a H => nk hK6 <| cd H rfl h (fun h7 h => ?_) (fun h7 h => ?_)
 ·exact sr fun K8 hK8 => ww H <| ag rfl rfl <| fun a H => nk hK8 <| c_ret <| e_ret1 H rfl rfl h
 ·refine sr fun K9 hK9 => ww H <| mv rfl rfl <| bn rfl rfl r_lss rfl <| mv rfl rfl <| fun a H => g_join (n := 24) [(16, (.bool ((decide (r2 < 1)) || (decide (c3 < 1))))), (1, (.i r2)), (2, (.i c3))] (.succ (.succ (.succ (.zero _)))) ?_ ?_
  ·intro h11
   try clear h
   rcases Bool.eq_false_or_eq_true (decide (r2 < 1)) with h10 | h10
   ·replace H := H.ch (t := 13) (b := true) rfl h10
    exact ww H <| sk rfl rfl rfl rfl <| sk rfl rfl rfl rfl <| pT rfl rfl rfl <| fun a H => h11 _ (H.weaken ⟨by rw [h10]; rfl, rfl, rfl, trivial⟩)
   ·replace H := H.ch (t := 13) (b := false) rfl h10
    exact ww H <| gmv rfl rfl rfl rfl <| gbn rfl rfl rfl rfl r_lss rfl <| pF rfl rfl rfl <| fun a H => h11 _ (H.weaken ⟨by rw [h10]; rfl, rfl, rfl, trivial⟩)
  ·clear H a
   intro a H
   refine ww H <| ag rfl rfl <| fun a H => nk hK9 <| cd H rfl h (fun h12 h => ?_) (fun h12 h => ?_)
   ·exact sr fun K13 hK13 => ww H <| ag rfl rfl <| fun a H => nk hK13 <| c_ret <| e_ret1 H rfl rfl h
   ·refine sr fun K14 hK14 => ww H <| mv rfl rfl <| bn rfl rfl r_gtr rfl <| mv rfl rfl <| fun a H => g_join (n := 24) [(23, (.bool ((decide (256 < r2)) || (decide (256 < c3)))))] (.succ (.succ (.succ (.zero _)))) ?_ ?_
    ·intro h16
     try clear h
     rcases Bool.eq_false_or_eq_true (decide (256 < r2)) with h15 | h15
     ·replace H := H.ch (t := 20) (b := true) rfl h15
      exact ww H <| sk rfl rfl rfl rfl <| sk rfl rfl rfl rfl <| pT rfl rfl rfl <| fun a H => h16 _ (H.weaken ⟨by rw [h15]; rfl, trivial⟩)
     ·replace H := H.ch (t := 20) (b := false) rfl h15
      exact ww H <| gmv rfl rfl rfl rfl <| gbn rfl rfl rfl rfl r_gtr rfl <| pF rfl rfl rfl <| fun a H => h16 _ (H.weaken ⟨by rw [h15]; rfl, trivial⟩)
    ·clear H a
     intro a H
     refine ww H <| ag rfl rfl <| fun a H => nk hK14 <| cd H rfl h (fun h17 h => ?_) (fun h17 h => ?_)
     ·exact sr fun K18 hK18 => ww H <| ag rfl rfl <| fun a H => nk hK18 <| c_ret <| e_ret1 H rfl rfl h
     ·exact c_skip <| hK5 _ _ <| sr fun K19 hK19 => ww H <| ag rfl rfl <| fun a H => nk hK19 <| c_ret <| e_ret1 H rfl rfl h

theorem sim_matrix_blank (f1 : Option Addr) (r2 c3 : Int) (w : World) (Q : Ending → World → Prop) (h : vc_matrix_blank f1 r2 c3 w Q) : Calls PP F_matrix_blank #[(.pointer f1), (.i r2), (.i c3)] w Q := by
 unfold vc_matrix_blank at h
 refine enter (n := 32) Tryz.func76 rfl rfl (le_ rfl) fun a H => ?_
 obtain ⟨s6, w7, h8, h⟩ := h
 refine sr fun K4 hK4 => ww H <| ag rfl rfl <| fun a H => nk hK4 <| sr fun K5 hK5 => ww H <| mv rfl rfl <| mv rfl rfl <| fun a H => s_mk H rfl rfl rfl h8 (lt_ rfl) ?_
 clear H a h8
 intro a H
 refine s_build H rfl (by rw [H.parts (vs := [(0, (.pointer f1)), (1, s6.v)]) rfl]; exact bd_133_p0_s1 w7 f1 s6) (lt_ rfl) fun a H => ww H <| bx h rfl rfl rfl rfl fun b9 w10 n11 h => ag rfl rfl <| fun a H => nk hK5 <| c_seq fun K12 hK12 => sr fun K13 hK13 => ww H <| mv rfl rfl <| nl rfl rfl <| fd rfl fld_133_1 rfl <| fun a H => s_load (v := s6.v) H rfl rfl one_27 (n11.cell (i := 1) rfl) (lt_ rfl) fun a H => ww H <| bl (vs := [s6.v]) rfl rfl (fun cs => b_lenS (z := s6) sl_27) <| mv rfl rfl <| fun a H => nk hK13 <| c_block ?_
 obtain ⟨I16, m17, h37, h38⟩ := h
 refine c_loop (σ := Int) (fun z w => I16 z w) (fun z w => m17 z w) (fun z => [(2, (.i c3)), (7, (.pointer (some (blk b9)))), (18, (.i (s6.l : Int))), (19, (.i z))]) 0 h37 (H.weaken ⟨rfl, rfl, rfl, rfl, trivial⟩) ?_
 clear H h37
 rintro s14 a w15 h H
 replace h := h38 s14 w15 h
 clear h38
 replace H : Has 32 [] a [(2, (.i c3)), (7, (.pointer (some (blk b9)))), (18, (.i (s6.l : Int))), (19, (.i s14))] := H
 refine sr fun K18 hK18 => ww H <| bn rfl rfl r_lss rfl <| fun a H => nk hK18 <| c_seq fun K19 hK19 => cd H rfl h (fun h20 h => ?_) (fun h20 h => ?_)
 ·refine c_skip <| hK19 _ _ <| c_seq fun K21 hK21 => c_block <| sr fun K22 hK22 => ww H <| mv rfl rfl <| ag rfl rfl <| fun a H => nk hK22 <| ?_
  replace H := H.weaken (L' := [(2, (.i c3)), (7, (.pointer (some (blk b9)))), (8, (.i s14)), (18, (.i (s6.l : Int))), (19, (.i s14))]) ⟨rfl, rfl, rfl, rfl, rfl, trivial⟩
  obtain ⟨l23, hc24, h⟩ := h
  refine c_any (V := [(0, (.pointer (some (blk b9)))), (1, (.pointer (some (blk b9)))), (2, (.pointer (some ((blk b9).add 1)))), (3, l23.v), (4, (.i s14)), (5, (.i c3))]) (⟨[[], [0], [1], [2], [], [], [5], [0, 1, 2, 3, 4, 5, 6], [0, 1, 2, 3, 4, 5, 6, 7]], [some 22, some 23, some 24, some 25, some 26, some 27, some 28, some 29, none], [6, 8], [0, 0, 0, 0, 0, 0, 0, 1, 1], [1, 1, 1, 1, 1, 0, 1, 1, 2]⟩ : Rg) [(2, (.i c3)), (7, (.pointer (some (blk b9)))), (8, (.i s14)), (18, (.i (s6.l : Int))), (19, (.i s14))] mixed (by kernel_rfl) H <| Stg.eff [0, 1, 2, 3, 4, 5] (by kernel_rfl) rfl (.cons ?_ (.cons ?_ (.cons ?_ (.cons ?_ (.cons ?_ (.cons ?_ .nil)))))) ?_
  ·exact Aw rfl rfl <| mv rfl rfl <| An rfl
  ·exact Aw rfl rfl <| nl rfl rfl <| An rfl
  ·exact Aw rfl rfl <| fd rfl fld_133_1 rfl <| An rfl
  ·exact Aw rfl rfl <| ld rfl one_27 hc24 rfl <| An rfl
  ·exact Aw rfl rfl <| mv rfl rfl <| An rfl
  ·exact Aw rfl rfl <| mv rfl rfl <| An rfl
  ·intro a H
   replace H := H.weaken (L' := [(27, (.i c3))]) ⟨rfl, trivial⟩
   obtain ⟨s25, w26, h27, h⟩ := h
   refine s_mk H rfl rfl rfl h27 (lt_ rfl) ?_
   clear H a h27
   intro a H
   obtain ⟨hc28, a29, h30, h31, h32, h⟩ := h
   refine c_nil <| effQ.go [(7, (.pointer (some (a29.add (Int.toNat (s14) * 1)))))] H rfl rfl <| Stg.eff [0, 1, 2, 3, 4, 7] (by kernel_rfl) rfl (.cons ?_ (.cons ?_ (.cons ?_ (.cons ?_ (.cons ?_ (.cons ?_ .nil)))))) ?_
   ·exact Aw rfl rfl <| mv rfl rfl <| An rfl
   ·exact Aw rfl rfl <| nl rfl rfl <| An rfl
   ·exact Aw rfl rfl <| fd rfl fld_133_1 rfl <| An rfl
   ·exact Aw rfl rfl <| ld rfl one_27 hc28 rfl <| An rfl
   ·exact Aw rfl rfl <| mv rfl rfl <| An rfl
   ·exact Ans.mk rfl rfl fun a H => s_idxS (s := l23) H rfl rfl rfl slc_27 h30 h31 h32 (lt_ rfl) fun a H => Ans.fin H rfl
   ·refine st h rfl rfl one_22 rfl fun w33 w33S h => fun a H => c_nil <| effQ.go0 [] H rfl rfl <| Stg.fin [] (by kernel_rfl) .nil ?_
    ·intro a H
     replace H := H.weaken (L' := [(2, (.i c3)), (7, (.pointer (some (blk b9)))), (18, (.i (s6.l : Int))), (19, (.i s14))]) ⟨rfl, rfl, rfl, rfl, trivial⟩
     refine hK21 _ _ <| c_reg <| ww H <| bn rfl rfl r_add rfl <| mv rfl rfl <| fun a H => c_nil <| Exists.intro (wr .i64 (s14 + 1)) ⟨h.1, h.2, H.weaken ⟨rfl, rfl, rfl, rfl, trivial⟩⟩
 ·refine c_exit ?_
  first | (simp only [Exit.then, Exit.inBlock, ↓reduceIte]; fail_if_success simp only [Nat.reduceEqDiff]) | simp only [Exit.then, Exit.inBlock, ↓reduceIte, Nat.reduceEqDiff]
  exact hK12 _ _ <| sr fun K36 hK36 => ww H <| mv rfl rfl <| ag rfl rfl <| fun a H => nk hK36 <| c_ret <| e_ret1 H rfl rfl h
end Go.Proofs.YtabifopphhpciaaGreat
