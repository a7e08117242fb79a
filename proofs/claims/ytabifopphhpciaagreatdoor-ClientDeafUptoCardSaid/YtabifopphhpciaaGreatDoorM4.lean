/-
  The conditions give the machine's calls; printed by vcgen.py.
-/
import Derived.Test.YtabifopphhpciaaGreatDoorRecVc
namespace Go.Proofs.YtabifopphhpciaaGreatDoor
open Go Go.Vc
set_option maxRecDepth 100000
set_option maxHeartbeats 4000000
theorem sim_gf_New (p1 : Int) (w : World) (Q : Ending → World → Prop) (h : vc_gf_New p1 w Q) : Calls PP F_gf_New #[(.i p1)] w Q := by
 unfold vc_gf_New at h
 refine enter (n := 61) Tryz.func73 rfl rfl (le_ rfl) fun a H => sr fun K2 hK2 => ww H <| ag rfl rfl <| ag rfl rfl <| fun a H => nk hK2 <| c_seq fun K3 hK3 => sr fun K4 hK4 => ww H <| mv rfl rfl <| bn rfl rfl r_lss rfl <| mv rfl rfl <| fun a H => g_join (n := 61) [(12, (.bool ((decide (p1 < 256)) || (decide (511 < p1))))), (0, (.i p1))] (.succ (.succ (.succ (.zero _)))) ?_ ?_
 ·intro h6
  try clear h
  rcases Bool.eq_false_or_eq_true (decide (p1 < 256)) with h5 | h5
  ·replace H := H.ch (t := 9) (b := true) rfl h5
   exact ww H <| sk rfl rfl rfl rfl <| sk rfl rfl rfl rfl <| pT rfl rfl rfl <| fun a H => h6 _ (H.weaken ⟨by rw [h5]; rfl, rfl, trivial⟩)
  ·replace H := H.ch (t := 9) (b := false) rfl h5
   exact ww H <| gmv rfl rfl rfl rfl <| gbn rfl rfl rfl rfl r_gtr rfl <| pF rfl rfl rfl <| fun a H => h6 _ (H.weaken ⟨by rw [h5]; rfl, rfl, trivial⟩)
 ·clear H a
  intro a H
  refine nk hK4 <| cd H rfl h (fun h7 h => ?_) (fun h7 h => ?_)
  ·exact sr fun K8 hK8 => ww H <| ag rfl rfl <| ag rfl rfl <| fun a H => nk hK8 <| c_ret <| e_ret2 H rfl rfl rfl h
  ·refine c_skip <| hK3 _ _ <| sr fun K9 hK9 => ww H <| mv rfl rfl <| fun a H => s_build H rfl (by rw [H.parts (vs := [(0, (.i p1))]) rfl]; exact bd_190_ii640 _ p1) (lt_ rfl) fun a H => ww H <| bx h rfl rfl rfl rfl fun b10 w11 n12 h => ag rfl rfl <| fun a H => nk hK9 <| sr fun K13 hK13 => ww H <| ag rfl rfl <| fun a H => nk hK13 <| c_seq fun K14 hK14 => sr fun K15 hK15 => ww H <| mv rfl rfl <| fun a H => nk hK15 <| c_block ?_
   obtain ⟨I19, m20, h65, h66⟩ := h
   refine c_loop (σ := Int × Int) (fun z w => I19 z.1 z.2 w) (fun z w => m20 z.1 z.2 w) (fun z => [(0, (.i p1)), (4, (.pointer (some (blk b10)))), (5, (.i z.1)), (16, (.i z.2))]) (1, 0) h65 (H.weaken ⟨rfl, rfl, rfl, rfl, trivial⟩) ?_
   clear H h65
   rintro ⟨x16, s17⟩ a w18 h H
   replace h := h66 x16 s17 w18 h
   clear h66
   replace H : Has 61 [] a [(0, (.i p1)), (4, (.pointer (some (blk b10)))), (5, (.i x16)), (16, (.i s17))] := H
   refine sr fun K21 hK21 => ww H <| bn rfl rfl r_lss rfl <| fun a H => nk hK21 <| c_seq fun K22 hK22 => cd H rfl h (fun h23 h => ?_) (fun h23 h => ?_)
   ·refine c_skip <| hK22 _ _ <| c_seq fun K24 hK24 => ?_
    obtain ⟨R26, h, h59⟩ := h
    have h28 : ∀ (a : Act) (x25 : Int) (w27 : World), R26 x25 w27 → Has 61 [] a [(0, (.i p1)), (4, (.pointer (some (blk b10)))), (5, (.i x25)), (16, (.i s17))] → K24 a w27 := by
     clear h
     intro a x25 w27 h H
     replace h := h59 x25 w27 h
     refine hK24 _ _ <| c_reg <| ww H <| bn rfl rfl r_add rfl <| mv rfl rfl <| fun a H => c_nil <| Exists.intro (x25, wr .i64 (s17 + 1)) ⟨h.1, h.2, H.weaken ⟨rfl, rfl, rfl, rfl, trivial⟩⟩
    clear h59
    refine c_block <| sr fun K29 hK29 => ww H <| mv rfl rfl <| ag rfl rfl <| fun a H => nk hK29 <| c_seq fun K30 hK30 => sr fun K31 hK31 => ww H <| mv rfl rfl <| bn rfl rfl r_eql rfl <| mv rfl rfl <| fun a H => g_join (n := 61) [(28, (.bool ((decide (x16 = 0)) || ((decide (0 < s17)) && (decide (x16 = 1)))))), (0, (.i p1)), (4, (.pointer (some (blk b10)))), (5, (.i x16)), (6, (.i s17)), (16, (.i s17))] (.succ (.succ (.succ (.succ (.succ (.succ (.succ (.zero _)))))))) ?_ ?_
    ·intro h33
     try clear h
     rcases Bool.eq_false_or_eq_true (decide (x16 = 0)) with h32 | h32
     ·replace H := H.ch (t := 21) (b := true) rfl h32
      exact ww H <| sk rfl rfl rfl rfl <| sk rfl rfl rfl rfl <| sk rfl rfl rfl rfl <| fun a H => s_skip H (wantU H rfl rfl) rfl (lt_ rfl) fun a H => s_skip H (wantU H rfl rfl) rfl (lt_ rfl) fun a H => ww H <| sk rfl rfl rfl rfl <| pT rfl rfl rfl <| fun a H => h33 _ (H.weaken ⟨by rw [h32]; rfl, rfl, rfl, rfl, rfl, rfl, trivial⟩)
     ·replace H := H.ch (t := 21) (b := false) rfl h32
      refine ww H <| gmv rfl rfl rfl rfl <| gbn rfl rfl rfl rfl r_gtr rfl <| gmv rfl rfl rfl rfl <| fun a H => g_join (n := 61) [(27, (.bool ((decide (0 < s17)) && (decide (x16 = 1))))), (0, (.i p1)), (4, (.pointer (some (blk b10)))), (5, (.i x16)), (6, (.i s17)), (16, (.i s17)), (21, (.bool false))] (.succ (.succ (.succ (.zero _)))) ?_ ?_
      ·intro h35
       try clear h
       rcases Bool.eq_false_or_eq_true (decide (0 < s17)) with h34 | h34
       ·replace H := H.ch (t := 24) (b := true) rfl h34
        exact ww H <| gmv rfl rfl rfl rfl <| gbn rfl rfl rfl rfl r_eql rfl <| fun a H => s_pickT H (wantG H rfl rfl) rfl rfl (lt_ rfl) fun a H => h35 _ (H.weaken ⟨by rw [h34]; rfl, rfl, rfl, rfl, rfl, rfl, rfl, trivial⟩)
       ·replace H := H.ch (t := 24) (b := false) rfl h34
        exact ww H <| sk rfl rfl rfl rfl <| sk rfl rfl rfl rfl <| fun a H => s_pickF H (wantG H rfl rfl) rfl rfl (lt_ rfl) fun a H => h35 _ (H.weaken ⟨by rw [h34]; rfl, rfl, rfl, rfl, rfl, rfl, rfl, trivial⟩)
      ·clear H a
       intro a H
       exact ww H <| pF rfl rfl rfl <| fun a H => h33 _ (H.weaken ⟨by rw [h32]; rfl, rfl, rfl, rfl, rfl, rfl, trivial⟩)
    ·clear H a
     intro a H
     refine nk hK31 <| cd H rfl h (fun h36 h => ?_) (fun h36 h => ?_)
     ·exact sr fun K37 hK37 => ww H <| ag rfl rfl <| ag rfl rfl <| fun a H => nk hK37 <| c_ret <| e_ret2 H rfl rfl rfl h
     ·refine c_skip <| hK30 _ _ <| sr fun K38 hK38 => ww H <| mv rfl rfl <| mv rfl rfl <| mv rfl rfl <| fun a H => s_cv H rfl rfl (r_cvI some_3 int_5) (lt_ rfl) fun a H => ?_
      obtain ⟨h39, h40, h⟩ := h
      refine ww H <| nl rfl rfl <| fd rfl fld_190_1 rfl <| fun a H => s_idxA H rfl rfl rfl arr_187 h39 h40 (lt_ rfl) fun a H => ww H <| st h rfl rfl one_5 rfl fun w41 w41S h => fun a H => nk hK38 <| sr fun K44 hK44 => ww H <| mv rfl rfl <| mv rfl rfl <| bn rfl rfl r_add rfl <| mv rfl rfl <| fun a H => s_cv H rfl rfl (r_cvI some_3 int_5) (lt_ rfl) fun a H => ?_
      obtain ⟨h45, h46, h⟩ := h
      refine ww H <| nl rfl rfl <| fd rfl fld_190_1 rfl <| fun a H => s_idxA H rfl rfl rfl arr_187 h45 h46 (lt_ rfl) fun a H => ww H <| st h rfl rfl one_5 rfl fun w47 w47S h => fun a H => ?_
      obtain ⟨h51, h52, h⟩ := h
      refine nk hK44 <| sr fun K50 hK50 => ww H <| mv rfl rfl <| mv rfl rfl <| mv rfl rfl <| nl rfl rfl <| fd rfl fld_190_2 rfl <| fun a H => s_idxA H rfl rfl rfl arr_188 h51 h52 (lt_ rfl) fun a H => ww H <| st h rfl rfl one_3 rfl fun w53 w53S h => fun a H => nk hK50 <| sr fun K56 hK56 => ww H <| mv rfl rfl <| bn rfl rfl (r_shl (by decide)) rfl <| ag rfl rfl <| fun a H => nk hK56 <| sr fun K57 hK57 => ww H <| mv rfl rfl <| bn rfl rfl r_gtr rfl <| fun a H => nk hK57 <| cd H rfl h (fun h58 h => ?_) (fun h58 h => ?_)
      ·exact c_reg <| ww H <| mv rfl rfl <| mv rfl rfl <| bn rfl rfl r_xor rfl <| ag rfl rfl <| fun a H => c_nil <| h28 _ _ _ h (H.weaken ⟨rfl, rfl, rfl, rfl, trivial⟩)
      ·exact c_skip <| h28 _ _ _ h (H.weaken ⟨rfl, rfl, rfl, rfl, trivial⟩)
   ·refine c_exit ?_
    first | (simp only [Exit.then, Exit.inBlock, ↓reduceIte]; fail_if_success simp only [Nat.reduceEqDiff]) | simp only [Exit.then, Exit.inBlock, ↓reduceIte, Nat.reduceEqDiff]
    refine hK14 _ _ <| c_seq fun K60 hK60 => sr fun K61 hK61 => ww H <| mv rfl rfl <| bn rfl rfl r_neq rfl <| fun a H => nk hK61 <| cd H rfl h (fun h62 h => ?_) (fun h62 h => ?_)
    ·exact sr fun K63 hK63 => ww H <| ag rfl rfl <| ag rfl rfl <| fun a H => nk hK63 <| c_ret <| e_ret2 H rfl rfl rfl h
    ·exact c_skip <| hK60 _ _ <| sr fun K64 hK64 => ww H <| mv rfl rfl <| ag rfl rfl <| ag rfl rfl <| fun a H => nk hK64 <| c_ret <| e_ret2 H rfl rfl rfl h

theorem sim_matrix_Vandermonde (f1 : Option Addr) (p2 : Slc) (c3 : Int) (w : World) (Q : Ending → World → Prop) (h : vc_matrix_Vandermonde f1 p2 c3 w Q) : Calls PP F_matrix_Vandermonde #[(.pointer f1), p2.v, (.i c3)] w Q := by
 unfold vc_matrix_Vandermonde at h
 have eP {L : List (Nat × Value)} (c : List PanicEntry) (w' : World) (a : Act) (h : Q (.panicked c) w') (H : Has 71 [] a L) : bodyPost PP Tryz.f74 Q (.panic c) a w' := e_panic H h
 refine enter (n := 71) Tryz.func74 rfl rfl (le_ rfl) fun a H => sr fun K4 hK4 => ww H <| ag rfl rfl <| ag rfl rfl <| fun a H => nk hK4 <| c_seq fun K5 hK5 => sr fun K6 hK6 => ww H <| mv rfl rfl <| mv rfl rfl <| bl (vs := [p2.v]) rfl rfl (fun cs => b_lenS (z := p2) sl_49) <| mv rfl rfl <| cl1 h body_105 rfl rfl eP fun s8 w7 h => ag rfl rfl <| fun a H => nk hK6 <| sr fun K9 hK9 => ww H <| mv rfl rfl <| bn rfl rfl r_neq rfl <| fun a H => nk hK9 <| cd H rfl h (fun h10 h => ?_) (fun h10 h => ?_)
 ·exact sr fun K11 hK11 => ww H <| mv rfl rfl <| ag rfl rfl <| ag rfl rfl <| fun a H => nk hK11 <| c_ret <| e_ret2 H rfl rfl rfl h
 ·refine c_skip <| hK5 _ _ <| sr fun K12 hK12 => ww H <| mv rfl rfl <| mv rfl rfl <| bl (vs := [p2.v]) rfl rfl (fun cs => b_lenS (z := p2) sl_49) <| mv rfl rfl <| cl1 h body_106 rfl rfl eP fun b14 w13 h => ag rfl rfl <| fun a H => nk hK12 <| c_seq fun K15 hK15 => sr fun K16 hK16 => ww H <| mv rfl rfl <| bl (vs := [p2.v]) rfl rfl (fun cs => b_lenS (z := p2) sl_49) <| mv rfl rfl <| fun a H => nk hK16 <| c_block ?_
  obtain ⟨I19, m20, h103, h104⟩ := h
  refine c_loop (σ := Int) (fun z w => I19 z w) (fun z w => m20 z w) (fun z => [(0, (.pointer f1)), (2, (.i c3)), (9, (.pointer b14)), (26, p2.v), (27, (.i (p2.l : Int))), (28, (.i z))]) 0 h103 (H.weaken ⟨rfl, rfl, rfl, rfl, rfl, rfl, trivial⟩) ?_
  clear H h103
  rintro s17 a w18 h H
  replace h := h104 s17 w18 h
  clear h104
  replace H : Has 71 [] a [(0, (.pointer f1)), (2, (.i c3)), (9, (.pointer b14)), (26, p2.v), (27, (.i (p2.l : Int))), (28, (.i s17))] := H
  refine sr fun K21 hK21 => ww H <| bn rfl rfl r_lss rfl <| fun a H => nk hK21 <| c_seq fun K22 hK22 => cd H rfl h (fun h23 h => ?_) (fun h23 h => ?_)
  ·refine c_skip <| hK22 _ _ <| c_seq fun K24 hK24 => ?_
   obtain ⟨R25, h, h101⟩ := h
   have h27 : ∀ (a : Act) (w26 : World), R25 w26 → Has 71 [] a [(0, (.pointer f1)), (2, (.i c3)), (9, (.pointer b14)), (26, p2.v), (27, (.i (p2.l : Int))), (28, (.i s17))] → K24 a w26 := by
    clear h
    intro a w26 h H
    replace h := h101 w26 h
    refine hK24 _ _ <| c_reg <| ww H <| bn rfl rfl r_add rfl <| mv rfl rfl <| fun a H => c_nil <| Exists.intro (wr .i64 (s17 + 1)) ⟨h.1, h.2, H.weaken ⟨rfl, rfl, rfl, rfl, rfl, rfl, trivial⟩⟩
   clear h101
   obtain ⟨a29, h30, h31, h32, h⟩ := h
   refine c_block <| sr fun K28 hK28 => ww H <| mv rfl rfl <| fun a H => s_idxS (s := p2) H rfl rfl rfl slc_49 h30 h31 h32 (lt_ rfl) fun a H => ?_
   obtain ⟨l33, hc34, a36, h100, h⟩ := h
   refine ww H <| ld rfl one_5 hc34 rfl <| ag rfl rfl <| ag rfl rfl <| fun a H => nk hK28 <| sr fun K35 hK35 => ww H <| mv rfl rfl <| fun a H => ?_
   revert H
   revert h
   subst h100
   intro h H
   obtain ⟨l37, hc38, a39, h40, h41, h42, h⟩ := h
   refine ww H <| nl rfl rfl <| fd rfl fld_194_1 rfl <| ld rfl one_22 hc38 rfl <| mv rfl rfl <| fun a H => s_idxS (s := l37) H rfl rfl rfl slc_22 h40 h41 h42 (lt_ rfl) fun a H => ?_
   obtain ⟨l43, hc44, a45, h46, h47, h48, h⟩ := h
   refine ww H <| ld rfl one_49 hc44 rfl <| fun a H => s_idxS (s := l43) H rfl rfl rfl slc_49 h46 h47 h48 (lt_ rfl) fun a H => ww H <| st h rfl rfl one_5 rfl fun w49 w49S h => fun a H => nk hK35 <| sr fun K52 hK52 => ww H <| ag rfl rfl <| fun a H => nk hK52 <| c_block ?_
   obtain ⟨I55, m56, h98, h99⟩ := h
   refine c_loop (σ := Int) (fun z w => I55 z w) (fun z w => m56 z w) (fun z => [(0, (.pointer f1)), (2, (.i c3)), (9, (.pointer (some a36))), (10, (.i s17)), (11, (.int .u8 l33)), (12, (.i z)), (26, p2.v), (27, (.i (p2.l : Int))), (28, (.i s17))]) 1 h98 (H.weaken ⟨rfl, rfl, rfl, rfl, rfl, rfl, rfl, rfl, rfl, trivial⟩) ?_
   clear H h98
   rintro j53 a w54 h H
   replace h := h99 j53 w54 h
   clear h99
   replace H : Has 71 [] a [(0, (.pointer f1)), (2, (.i c3)), (9, (.pointer (some a36))), (10, (.i s17)), (11, (.int .u8 l33)), (12, (.i j53)), (26, p2.v), (27, (.i (p2.l : Int))), (28, (.i s17))] := H
   refine c_seq fun K57 hK57 => sr fun K58 hK58 => ww H <| mv rfl rfl <| mv rfl rfl <| bn rfl rfl r_lss rfl <| fun a H => nk hK58 <| cd H rfl h (fun h59 h => ?_) (fun h59 h => ?_)
   ·refine c_skip <| hK57 _ _ <| c_seq fun K60 hK60 => c_block ?_
    replace H := H.weaken (L' := [(0, (.pointer f1)), (2, (.i c3)), (9, (.pointer (some a36))), (10, (.i s17)), (11, (.int .u8 l33)), (12, (.i j53)), (26, p2.v), (27, (.i (p2.l : Int))), (28, (.i s17))]) ⟨rfl, rfl, rfl, rfl, rfl, rfl, rfl, rfl, rfl, trivial⟩
    obtain ⟨l61, hc62, a63, h64, h65, h66, l67, hc68, l69, hc70, a71, h72, h73, h74, l75, hc76, a77, h78, h79, h80, l81, hc82, h⟩ := h
    refine c_any (V := [(0, (.pointer (some a36))), (1, (.pointer (some a36))), (2, (.pointer (some (a36.add 1)))), (3, l61.v), (4, (.i s17)), (5, (.pointer (some (a63.add (Int.toNat (s17) * 1))))), (6, l67.v), (7, (.i j53)), (8, (.pointer f1)), (9, (.pointer (some a36))), (10, (.pointer (some a36))), (11, (.pointer (some (a36.add 1)))), (12, l69.v), (13, (.i s17)), (14, (.pointer (some (a71.add (Int.toNat (s17) * 1))))), (15, l75.v), (16, (.i j53)), (17, (.i (wr .i64 (j53 - 1)))), (18, (.pointer (some (a77.add (Int.toNat (wr .i64 (j53 - 1)) * 1))))), (19, (.int .u8 l81)), (20, (.int .u8 l33))]) (⟨[[], [0], [1], [2], [], [3, 4], [5], [], [], [], [9], [10], [11], [], [12, 13], [14], [], [16], [15, 17], [18], [], [8, 19, 20], [0, 1, 2, 3, 4, 5, 6, 7, 8, 9, 10, 11, 12, 13, 14, 15, 16, 17, 18, 19, 20, 21], [0, 1, 2, 3, 4, 5, 6, 7, 8, 9, 10, 11, 12, 13, 14, 15, 16, 17, 18, 19, 20, 21, 22]], [some 46, some 47, some 48, some 49, some 50, some 51, some 52, some 53, some 54, some 55, some 56, some 57, some 58, some 59, some 60, some 61, some 62, some 63, some 64, some 65, some 66, some 67, some 68, none], [21, 23], [0, 0, 0, 0, 0, 0, 0, 0, 0, 0, 0, 0, 0, 0, 0, 0, 0, 0, 0, 0, 0, 0, 1, 1], [1, 1, 1, 1, 1, 1, 1, 1, 0, 0, 0, 0, 0, 0, 0, 0, 0, 0, 0, 0, 0, 1, 1, 2]⟩ : Rg) [(0, (.pointer f1)), (2, (.i c3)), (9, (.pointer (some a36))), (10, (.i s17)), (11, (.int .u8 l33)), (12, (.i j53)), (26, p2.v), (27, (.i (p2.l : Int))), (28, (.i s17))] mixed (by kernel_rfl) H ?_
    refine Stg.eff [0, 1, 2, 3, 4, 5, 6, 7, 8, 9, 10, 11, 12, 13, 14, 15, 16, 17, 18, 19, 20] (by kernel_rfl) rfl (.cons ?_ (.cons ?_ (.cons ?_ (.cons ?_ (.cons ?_ (.cons ?_ (.cons ?_ (.cons ?_ (.cons ?_ (.cons ?_ (.cons ?_ (.cons ?_ (.cons ?_ (.cons ?_ (.cons ?_ (.cons ?_ (.cons ?_ (.cons ?_ (.cons ?_ (.cons ?_ (.cons ?_ .nil))))))))))))))))))))) ?_
    ·exact Aw rfl rfl <| mv rfl rfl <| An rfl
    ·exact Aw rfl rfl <| nl rfl rfl <| An rfl
    ·exact Aw rfl rfl <| fd rfl fld_194_1 rfl <| An rfl
    ·exact Aw rfl rfl <| ld rfl one_22 hc62 rfl <| An rfl
    ·exact Aw rfl rfl <| mv rfl rfl <| An rfl
    ·exact Ans.mk rfl rfl fun a H => s_idxS (s := l61) H rfl rfl rfl slc_22 h64 h65 h66 (lt_ rfl) fun a H => Ans.fin H rfl
    ·exact Aw rfl rfl <| ld rfl one_49 hc68 rfl <| An rfl
    ·exact Aw rfl rfl <| mv rfl rfl <| An rfl
    ·exact Aw rfl rfl <| mv rfl rfl <| An rfl
    ·exact Aw rfl rfl <| mv rfl rfl <| An rfl
    ·exact Aw rfl rfl <| nl rfl rfl <| An rfl
    ·exact Aw rfl rfl <| fd rfl fld_194_1 rfl <| An rfl
    ·exact Aw rfl rfl <| ld rfl one_22 hc70 rfl <| An rfl
    ·exact Aw rfl rfl <| mv rfl rfl <| An rfl
    ·exact Ans.mk rfl rfl fun a H => s_idxS (s := l69) H rfl rfl rfl slc_22 h72 h73 h74 (lt_ rfl) fun a H => Ans.fin H rfl
    ·exact Aw rfl rfl <| ld rfl one_49 hc76 rfl <| An rfl
    ·exact Aw rfl rfl <| mv rfl rfl <| An rfl
    ·exact Aw rfl rfl <| bn rfl rfl r_sub rfl <| An rfl
    ·exact Ans.mk rfl rfl fun a H => s_idxS (s := l75) H rfl rfl rfl slc_49 h78 h79 h80 (lt_ rfl) fun a H => Ans.fin H rfl
    ·exact Aw rfl rfl <| ld rfl one_5 hc82 rfl <| An rfl
    ·exact Aw rfl rfl <| mv rfl rfl <| An rfl
    ·refine cl1 h body_107 rfl rfl eP fun M84 w83 h => fun a H => ?_
     obtain ⟨hc85, hc86, a87, h88, h89, h90, h⟩ := h
     refine c_nil <| effQ.go [(22, (.pointer (some (a87.add (Int.toNat (j53) * 1)))))] H rfl rfl <| Stg.eff [0, 1, 2, 3, 4, 5, 6, 7, 22] (by kernel_rfl) rfl (.cons ?_ (.cons ?_ (.cons ?_ (.cons ?_ (.cons ?_ (.cons ?_ (.cons ?_ (.cons ?_ (.cons ?_ .nil))))))))) ?_
     ·exact Aw rfl rfl <| mv rfl rfl <| An rfl
     ·exact Aw rfl rfl <| nl rfl rfl <| An rfl
     ·exact Aw rfl rfl <| fd rfl fld_194_1 rfl <| An rfl
     ·exact Aw rfl rfl <| ld rfl one_22 hc85 rfl <| An rfl
     ·exact Aw rfl rfl <| mv rfl rfl <| An rfl
     ·exact Ans.mk rfl rfl fun a H => s_idxS (s := l61) H rfl rfl rfl slc_22 h64 h65 h66 (lt_ rfl) fun a H => Ans.fin H rfl
     ·exact Aw rfl rfl <| ld rfl one_49 hc86 rfl <| An rfl
     ·exact Aw rfl rfl <| mv rfl rfl <| An rfl
     ·exact Ans.mk rfl rfl fun a H => s_idxS (s := l67) H rfl rfl rfl slc_49 h88 h89 h90 (lt_ rfl) fun a H => Ans.fin H rfl
     ·refine st h rfl rfl one_5 rfl fun w91 w91S h => fun a H => c_nil <| effQ.go0 [] H rfl rfl <| Stg.fin [] (by kernel_rfl) .nil ?_
      ·intro a H
       replace H := H.weaken (L' := [(0, (.pointer f1)), (2, (.i c3)), (9, (.pointer (some a36))), (10, (.i s17)), (11, (.int .u8 l33)), (12, (.i j53)), (26, p2.v), (27, (.i (p2.l : Int))), (28, (.i s17))]) ⟨rfl, rfl, rfl, rfl, rfl, rfl, rfl, rfl, rfl, trivial⟩
       refine hK60 _ _ <| c_reg <| ww H <| mv rfl rfl <| bn rfl rfl r_add rfl <| ag rfl rfl <| fun a H => c_nil <| Exists.intro (wr .i64 (j53 + 1)) ⟨h.1, h.2, H.weaken ⟨rfl, rfl, rfl, rfl, rfl, rfl, rfl, rfl, rfl, trivial⟩⟩
   ·refine c_exit ?_
    first | (simp only [Exit.then, Exit.inBlock, ↓reduceIte]; fail_if_success simp only [Nat.reduceEqDiff]) | simp only [Exit.then, Exit.inBlock, ↓reduceIte, Nat.reduceEqDiff]
    exact h27 _ _ h (H.weaken ⟨rfl, rfl, rfl, rfl, rfl, rfl, trivial⟩)
  ·refine c_exit ?_
   first | (simp only [Exit.then, Exit.inBlock, ↓reduceIte]; fail_if_success simp only [Nat.reduceEqDiff]) | simp only [Exit.then, Exit.inBlock, ↓reduceIte, Nat.reduceEqDiff]
   exact hK15 _ _ <| sr fun K102 hK102 => ww H <| mv rfl rfl <| ag rfl rfl <| ag rfl rfl <| fun a H => nk hK102 <| c_ret <| e_ret2 H rfl rfl rfl h

theorem sim_matrix_Matrix_Invert (m1 : Option Addr) (w : World) (Q : Ending → World → Prop) (h : vc_matrix_Matrix_Invert m1 w Q) : Calls PP F_matrix_Matrix_Invert #[(.pointer m1)] w Q := by
 unfold vc_matrix_Matrix_Invert at h
 have eP {L : List (Nat × Value)} (c : List PanicEntry) (w' : World) (a : Act) (h : Q (.panicked c) w') (H : Has 109 [] a L) : bodyPost PP Tryz.f75 Q (.panic c) a w' := e_panic H h
 refine enter (n := 109) Tryz.func75 rfl rfl (le_ rfl) fun a H => sr fun K2 hK2 => ww H <| ag rfl rfl <| ag rfl rfl <| fun a H => nk hK2 <| c_seq fun K3 hK3 => sr fun K4 hK4 => ww H <| mv rfl rfl <| bn rfl rfl (r_eqP0 ptr_154) rfl <| fun a H => nk hK4 <| cd H rfl h (fun h5 h => ?_) (fun h5 h => ?_)
 ·exact sr fun K6 hK6 => ww H <| ag rfl rfl <| ag rfl rfl <| fun a H => nk hK6 <| c_ret <| e_ret2 H rfl rfl rfl h
 ·obtain ⟨a8, h145, h⟩ := h
  refine c_skip <| hK3 _ _ <| sr fun K7 hK7 => ww H <| mv rfl rfl <| fun a H => ?_
  revert H
  revert h
  subst h145
  intro h H
  obtain ⟨l9, hc10, l13, hc14, a15, h16, h17, h18, h⟩ := h
  refine ww H <| nl rfl rfl <| fd rfl fld_194_1 rfl <| ld rfl one_22 hc10 rfl <| bl (vs := [l9.v]) rfl rfl (fun cs => b_lenS (z := l9) sl_22) <| ag rfl rfl <| fun a H => nk hK7 <| c_seq fun K11 hK11 => sr fun K12 hK12 => ww H <| mv rfl rfl <| mv rfl rfl <| nl rfl rfl <| fd rfl fld_194_1 rfl <| ld rfl one_22 hc14 rfl <| fun a H => s_idxS (s := l13) H rfl rfl rfl slc_22 h16 h17 h18 (lt_ rfl) fun a H => ?_
  obtain ⟨l19, hc20, h⟩ := h
  refine ww H <| ld rfl one_49 hc20 rfl <| bl (vs := [l19.v]) rfl rfl (fun cs => b_lenS (z := l19) sl_49) <| bn rfl rfl r_neq rfl <| fun a H => nk hK12 <| cd H rfl h (fun h21 h => ?_) (fun h21 h => ?_)
  ·exact sr fun K22 hK22 => ww H <| ag rfl rfl <| ag rfl rfl <| fun a H => nk hK22 <| c_ret <| e_ret2 H rfl rfl rfl h
  ·obtain ⟨l24, hc25, h⟩ := h
   refine c_skip <| hK11 _ _ <| sr fun K23 hK23 => ww H <| mv rfl rfl <| nl rfl rfl <| fd rfl fld_194_0 rfl <| ld rfl one_103 hc25 rfl <| mv rfl rfl <| mv rfl rfl <| bn rfl rfl r_mul rfl <| cl1 h body_106 rfl rfl eP fun b27 w26 h => fun a H => ?_
   obtain ⟨l30, hc31, h⟩ := h
   refine ww H <| ag rfl rfl <| fun a H => nk hK23 <| c_seq fun K28 hK28 => sr fun K29 hK29 => ww H <| mv rfl rfl <| nl rfl rfl <| fd rfl fld_194_1 rfl <| ld rfl one_22 hc31 rfl <| bl (vs := [l30.v]) rfl rfl (fun cs => b_lenS (z := l30) sl_22) <| mv rfl rfl <| fun a H => nk hK29 <| c_block ?_
   obtain ⟨I34, m35, h139, h140⟩ := h
   refine c_loop (σ := Int) (fun z w => I34 z w) (fun z w => m35 z w) (fun z => [(0, (.pointer (some a8))), (4, (.i (l9.l : Int))), (5, (.pointer b27)), (38, l30.v), (39, (.i (l30.l : Int))), (40, (.i z))]) 0 h139 (H.weaken ⟨rfl, rfl, rfl, rfl, rfl, rfl, trivial⟩) ?_
   clear H h139
   rintro s32 a w33 h H
   replace h := h140 s32 w33 h
   clear h140
   replace H : Has 109 [] a [(0, (.pointer (some a8))), (4, (.i (l9.l : Int))), (5, (.pointer b27)), (38, l30.v), (39, (.i (l30.l : Int))), (40, (.i s32))] := H
   refine sr fun K36 hK36 => ww H <| bn rfl rfl r_lss rfl <| fun a H => nk hK36 <| c_seq fun K37 hK37 => cd H rfl h (fun h38 h => ?_) (fun h38 h => ?_)
   ·obtain ⟨a41, h42, h43, h44, h⟩ := h
    refine c_skip <| hK37 _ _ <| c_seq fun K39 hK39 => c_block <| sr fun K40 hK40 => ww H <| mv rfl rfl <| fun a H => s_idxS (s := l30) H rfl rfl rfl slc_22 h42 h43 h44 (lt_ rfl) fun a H => ?_
    obtain ⟨l45, hc46, a48, h75, h⟩ := h
    refine ww H <| ld rfl one_49 hc46 rfl <| ag rfl rfl <| ag rfl rfl <| fun a H => nk hK40 <| sr fun K47 hK47 => ww H <| mv rfl rfl <| fun a H => ?_
    revert H
    revert h
    subst h75
    intro h H
    obtain ⟨l49, hc50, a51, h52, h53, h54, h⟩ := h
    refine ww H <| nl rfl rfl <| fd rfl fld_194_1 rfl <| ld rfl one_22 hc50 rfl <| mv rfl rfl <| fun a H => s_idxS (s := l49) H rfl rfl rfl slc_22 h52 h53 h54 (lt_ rfl) fun a H => ?_
    obtain ⟨l55, hc56, n57, w58, h59, h⟩ := h
    refine ww H <| ld rfl one_49 hc56 rfl <| mv rfl rfl <| fun a H => s_blt H rfl (H.args (vs := [l55.v, l45.v]) rfl) (lt_ rfl) (fun cs => b_cpy (a := n57) h59) ?_
    clear H a h59
    intro a H
    obtain ⟨l60, hc61, a62, h63, h64, h65, h⟩ := h
    refine nk hK47 <| c_reg <| ww H <| mv rfl rfl <| nl rfl rfl <| fd rfl fld_194_1 rfl <| ld rfl one_22 hc61 rfl <| mv rfl rfl <| fun a H => s_idxS (s := l60) H rfl rfl rfl slc_22 h63 h64 h65 (lt_ rfl) fun a H => ?_
    obtain ⟨l66, hc67, a68, h69, h70, h71, h⟩ := h
    refine ww H <| ld rfl one_49 hc67 rfl <| mv rfl rfl <| mv rfl rfl <| bn rfl rfl r_add rfl <| fun a H => s_idxS (s := l66) H rfl rfl rfl slc_49 h69 h70 h71 (lt_ rfl) fun a H => ww H <| st h rfl rfl one_5 rfl fun w72 w72S h => fun a H => nk hK39 <| c_reg <| ww H <| bn rfl rfl r_add rfl <| mv rfl rfl <| fun a H => c_nil <| Exists.intro (wr .i64 (s32 + 1)) ⟨h.1, h.2, H.weaken ⟨rfl, rfl, rfl, rfl, rfl, rfl, trivial⟩⟩
   ·refine c_exit ?_
    first | (simp only [Exit.then, Exit.inBlock, ↓reduceIte]; fail_if_success simp only [Nat.reduceEqDiff]) | simp only [Exit.then, Exit.inBlock, ↓reduceIte, Nat.reduceEqDiff]
    refine hK28 _ _ <| c_seq fun K76 hK76 => c_seq fun K77 hK77 => ?_
    replace H := H.weaken (L' := [(0, (.pointer (some a8))), (4, (.i (l9.l : Int))), (5, (.pointer b27))]) ⟨rfl, rfl, rfl, trivial⟩
    obtain ⟨l78, hc79, a80, h81, h⟩ := h
    revert H
    revert h
    subst h81
    intro h H
    obtain ⟨l82, hc83, h⟩ := h
    refine c_any (V := [(0, (.pointer (some a8))), (1, (.pointer (some a8))), (2, (.pointer (some (a8.add 0)))), (3, (.pointer l78)), (4, (.pointer (some a80))), (5, (.pointer (some a80))), (6, (.pointer (some (a80.add 1)))), (7, l82.v), (8, (.i (l9.l : Int))), (11, (.i (l9.l : Int)))]) (⟨[[], [0], [1], [2], [], [4], [5], [6], [], [3, 7, 8], [9], [], [10, 11]], [some 66, some 67, some 68, some 69, some 70, some 71, some 72, some 73, some 74, some 75, some 76, some 77, some 78], [9], [0, 0, 0, 0, 0, 0, 0, 0, 0, 0, 1, 0, 1], [0, 0, 0, 0, 0, 0, 0, 0, 0, 1, 1, 1, 1]⟩ : Rg) [(0, (.pointer (some a8))), (4, (.i (l9.l : Int))), (5, (.pointer (some a80)))] mixed (by kernel_rfl) H <| Stg.eff [0, 1, 2, 3, 4, 5, 6, 7, 8, 11] (by kernel_rfl) rfl (.cons ?_ (.cons ?_ (.cons ?_ (.cons ?_ (.cons ?_ (.cons ?_ (.cons ?_ (.cons ?_ (.cons ?_ (.cons ?_ .nil)))))))))) ?_
    ·exact Aw rfl rfl <| mv rfl rfl <| An rfl
    ·exact Aw rfl rfl <| nl rfl rfl <| An rfl
    ·exact Aw rfl rfl <| fd rfl fld_194_0 rfl <| An rfl
    ·exact Aw rfl rfl <| ld rfl one_103 hc79 rfl <| An rfl
    ·exact Aw rfl rfl <| mv rfl rfl <| An rfl
    ·exact Aw rfl rfl <| nl rfl rfl <| An rfl
    ·exact Aw rfl rfl <| fd rfl fld_194_1 rfl <| An rfl
    ·exact Aw rfl rfl <| ld rfl one_22 hc83 rfl <| An rfl
    ·exact Aw rfl rfl <| mv rfl rfl <| An rfl
    ·exact Aw rfl rfl <| mv rfl rfl <| An rfl
    ·refine cl1 h body_108 rfl rfl eP fun e85 w84 h => fun a H => c_nil <| effQ.go [(10, (.i (e85.l : Int))), (12, (.bool (decide ((e85.l : Int) < (l9.l : Int)))))] H rfl rfl <| Stg.fin [10, 11, 12] (by kernel_rfl) (.cons ?_ (.cons ?_ (.cons ?_ .nil))) ?_
     ·exact Aw rfl rfl <| bl (vs := [e85.v]) rfl rfl (fun cs => b_lenS (z := e85) sl_23) <| An rfl
     ·exact Aw rfl rfl <| mv rfl rfl <| An rfl
     ·exact Aw rfl rfl <| bn rfl rfl r_lss rfl <| An rfl
     ·intro a H
      replace H := H.weaken (L' := [(0, (.pointer (some a8))), (4, (.i (l9.l : Int))), (5, (.pointer (some a80))), (78, (.bool (decide ((e85.l : Int) < (l9.l : Int)))))]) ⟨rfl, rfl, rfl, rfl, trivial⟩
      refine hK77 _ _ <| cd H rfl h (fun h86 h => ?_) (fun h86 h => ?_)
      ·exact sr fun K87 hK87 => ww H <| ag rfl rfl <| ag rfl rfl <| fun a H => nk hK87 <| c_ret <| e_ret2 H rfl rfl rfl h
      ·obtain ⟨l89, hc90, h⟩ := h
       refine c_skip <| hK76 _ _ <| sr fun K88 hK88 => ww H <| mv rfl rfl <| nl rfl rfl <| fd rfl fld_194_0 rfl <| ld rfl one_103 hc90 rfl <| mv rfl rfl <| mv rfl rfl <| cl1 h body_106 rfl rfl eP fun b92 w91 h => fun a H => ?_
       obtain ⟨l95, hc96, h⟩ := h
       refine ww H <| ag rfl rfl <| fun a H => nk hK88 <| c_seq fun K93 hK93 => sr fun K94 hK94 => ww H <| mv rfl rfl <| nl rfl rfl <| fd rfl fld_194_1 rfl <| ld rfl one_22 hc96 rfl <| bl (vs := [l95.v]) rfl rfl (fun cs => b_lenS (z := l95) sl_22) <| mv rfl rfl <| fun a H => nk hK94 <| c_block ?_
       obtain ⟨I99, m100, h129, h130⟩ := h
       refine c_loop (σ := Int) (fun z w => I99 z w) (fun z w => m100 z w) (fun z => [(4, (.i (l9.l : Int))), (8, (.pointer b92)), (89, l95.v), (90, (.i (l95.l : Int))), (91, (.i z))]) 0 h129 (H.weaken ⟨rfl, rfl, rfl, rfl, rfl, trivial⟩) ?_
       clear H h129
       rintro s97 a w98 h H
       replace h := h130 s97 w98 h
       clear h130
       replace H : Has 109 [] a [(4, (.i (l9.l : Int))), (8, (.pointer b92)), (89, l95.v), (90, (.i (l95.l : Int))), (91, (.i s97))] := H
       refine sr fun K101 hK101 => ww H <| bn rfl rfl r_lss rfl <| fun a H => nk hK101 <| c_seq fun K102 hK102 => cd H rfl h (fun h103 h => ?_) (fun h103 h => ?_)
       ·obtain ⟨a106, h107, h108, h109, h⟩ := h
        refine c_skip <| hK102 _ _ <| c_seq fun K104 hK104 => c_block <| sr fun K105 hK105 => ww H <| mv rfl rfl <| fun a H => s_idxS (s := l95) H rfl rfl rfl slc_22 h107 h108 h109 (lt_ rfl) fun a H => ?_
        obtain ⟨l110, hc111, h⟩ := h
        refine ww H <| ld rfl one_49 hc111 rfl <| ag rfl rfl <| ag rfl rfl <| fun a H => nk hK105 <| ?_
        replace H := H.weaken (L' := [(4, (.i (l9.l : Int))), (8, (.pointer b92)), (9, (.i s97)), (10, l110.v), (89, l95.v), (90, (.i (l95.l : Int))), (91, (.i s97))]) ⟨rfl, rfl, rfl, rfl, rfl, rfl, rfl, trivial⟩
        obtain ⟨a112, h113, h⟩ := h
        revert H
        revert h
        subst h113
        intro h H
        obtain ⟨l114, hc115, a116, h117, h118, h119, l120, hc121, h122, h123, h124, h⟩ := h
        refine c_any (V := [(0, (.pointer (some a112))), (1, (.pointer (some a112))), (2, (.pointer (some (a112.add 1)))), (3, l114.v), (4, (.i s97)), (5, (.pointer (some (a116.add (Int.toNat (s97) * 1))))), (6, l120.v), (7, l110.v), (8, (.i (l9.l : Int))), (9, (Slc.v (l110.cut 1 (Int.toNat ((l9.l : Int))) (Int.toNat ((l110.l : Int))))))]) (⟨[[], [0], [1], [2], [], [3, 4], [5], [], [], [7, 8], [6, 9]], [some 96, some 97, some 98, some 99, some 100, some 101, some 102, some 103, some 104, some 105, some 106], [10], [0, 0, 0, 0, 0, 0, 0, 0, 0, 0, 0], [0, 0, 0, 0, 0, 0, 0, 0, 0, 0, 1]⟩ : Rg) [(4, (.i (l9.l : Int))), (8, (.pointer (some a112))), (9, (.i s97)), (10, l110.v), (89, l95.v), (90, (.i (l95.l : Int))), (91, (.i s97))] mixed (by kernel_rfl) H <| Stg.eff [0, 1, 2, 3, 4, 5, 6, 7, 8, 9] (by kernel_rfl) rfl (.cons ?_ (.cons ?_ (.cons ?_ (.cons ?_ (.cons ?_ (.cons ?_ (.cons ?_ (.cons ?_ (.cons ?_ (.cons ?_ .nil)))))))))) ?_
        ·exact Aw rfl rfl <| mv rfl rfl <| An rfl
        ·exact Aw rfl rfl <| nl rfl rfl <| An rfl
        ·exact Aw rfl rfl <| fd rfl fld_194_1 rfl <| An rfl
        ·exact Aw rfl rfl <| ld rfl one_22 hc115 rfl <| An rfl
        ·exact Aw rfl rfl <| mv rfl rfl <| An rfl
        ·exact Ans.mk rfl rfl fun a H => s_idxS (s := l114) H rfl rfl rfl slc_22 h117 h118 h119 (lt_ rfl) fun a H => Ans.fin H rfl
        ·exact Aw rfl rfl <| ld rfl one_49 hc121 rfl <| An rfl
        ·exact Aw rfl rfl <| mv rfl rfl <| An rfl
        ·exact Aw rfl rfl <| mv rfl rfl <| An rfl
        ·exact Ans.mk rfl rfl fun a H => s_slice (v := (Slc.v (l110.cut 1 (Int.toNat ((l9.l : Int))) (Int.toNat ((l110.l : Int)))))) H rfl rfl ⟨rfl, rfl⟩ ⟨rfl, rfl⟩ ⟨rfl, rfl⟩ (r_sliceSlc (lo := (some (.i64, (l9.l : Int)))) (hi := none) slc_49 rfl rfl h122 h123 h124) (lt_ rfl) fun a H => Ans.fin H rfl
        ·intro a H
         replace H := H.weaken (L' := [(102, l120.v), (105, (Slc.v (l110.cut 1 (Int.toNat ((l9.l : Int))) (Int.toNat ((l110.l : Int))))))]) ⟨rfl, rfl, trivial⟩
         obtain ⟨n125, w126, h127, h⟩ := h
         refine s_blt H rfl (H.args (vs := [l120.v, (Slc.v (l110.cut 1 (Int.toNat ((l9.l : Int))) (Int.toNat ((l110.l : Int)))))]) rfl) (lt_ rfl) (fun cs => b_cpy (a := n125) h127) ?_
         clear H a h127
         intro a H
         refine c_nil <| effQ.go [] H rfl rfl <| Stg.fin [] (by kernel_rfl) .nil ?_
         ·intro a H
          replace H := H.weaken (L' := [(4, (.i (l9.l : Int))), (8, (.pointer (some a112))), (89, l95.v), (90, (.i (l95.l : Int))), (91, (.i s97))]) ⟨rfl, rfl, rfl, rfl, rfl, trivial⟩
          refine hK104 _ _ <| c_reg <| ww H <| bn rfl rfl r_add rfl <| mv rfl rfl <| fun a H => c_nil <| Exists.intro (wr .i64 (s97 + 1)) ⟨h.1, h.2, H.weaken ⟨rfl, rfl, rfl, rfl, rfl, trivial⟩⟩
       ·refine c_exit ?_
        first | (simp only [Exit.then, Exit.inBlock, ↓reduceIte]; fail_if_success simp only [Nat.reduceEqDiff]) | simp only [Exit.then, Exit.inBlock, ↓reduceIte, Nat.reduceEqDiff]
        exact hK93 _ _ <| sr fun K128 hK128 => ww H <| mv rfl rfl <| ag rfl rfl <| ag rfl rfl <| fun a H => nk hK128 <| c_ret <| e_ret2 H rfl rfl rfl h

theorem sim_matrix_Matrix_Mul (m1 o2 : Option Addr) (w : World) (Q : Ending → World → Prop) (h : vc_matrix_Matrix_Mul m1 o2 w Q) : Calls PP F_matrix_Matrix_Mul #[(.pointer m1), (.pointer o2)] w Q := by
 unfold vc_matrix_Matrix_Mul at h
 have eP {L : List (Nat × Value)} (c : List PanicEntry) (w' : World) (a : Act) (h : Q (.panicked c) w') (H : Has 98 [] a L) : bodyPost PP Tryz.f76 Q (.panic c) a w' := e_panic H h
 refine enter (n := 98) Tryz.func76 rfl rfl (le_ rfl) fun a H => sr fun K3 hK3 => ww H <| ag rfl rfl <| ag rfl rfl <| fun a H => nk hK3 <| c_seq fun K4 hK4 => sr fun K5 hK5 => ww H <| mv rfl rfl <| bn rfl rfl (r_eqP0 ptr_154) rfl <| fun a H => nk hK5 <| cd H rfl h (fun h6 h => ?_) (fun h6 h => ?_)
 ·exact sr fun K7 hK7 => ww H <| ag rfl rfl <| ag rfl rfl <| fun a H => nk hK7 <| c_ret <| e_ret2 H rfl rfl rfl h
 ·refine c_skip <| hK4 _ _ <| c_seq fun K8 hK8 => c_seq fun K9 hK9 => ?_
  obtain ⟨R11, h, h146⟩ := h
  have h123 : ∀ (a : Act) (s10 : Bool) (w12 : World), R11 s10 w12 → Has 98 [] a [(0, (.pointer m1)), (1, (.pointer o2)), (27, (.bool s10))] → K9 a w12 := by
   clear h
   intro a s10 w12 h H
   replace h := h146 s10 w12 h
   refine hK9 _ _ <| cd H rfl h (fun h13 h => ?_) (fun h13 h => ?_)
   ·exact sr fun K14 hK14 => ww H <| ag rfl rfl <| ag rfl rfl <| fun a H => nk hK14 <| c_ret <| e_ret2 H rfl rfl rfl h
   ·refine c_skip <| hK8 _ _ <| c_seq fun K15 hK15 => c_seq fun K16 hK16 => c_regD mixed (by kernel_rfl) <| z_move H rfl rfl (lt_ rfl) fun a H => ?_
    obtain ⟨a18, h122, h⟩ := h
    revert H
    revert h
    subst h122
    intro h H
    refine z_nil H rfl rfl (lt_ rfl) fun a H => z_fld H rfl rfl fld_194_1 (lt_ rfl) fun a H => ?_
    obtain ⟨l19, hc20, h⟩ := h
    refine z_load (v := l19.v) H rfl rfl one_22 hc20 (lt_ rfl) fun a H => ?_
    obtain ⟨a21, h22, h23, h24, h⟩ := h
    refine z_idxS (s := l19) H rfl rfl rfl slc_22 h22 h23 h24 (lt_ rfl) fun a H => ?_
    obtain ⟨l25, hc26, h⟩ := h
    refine z_load (v := l25.v) H rfl rfl one_49 hc26 (lt_ rfl) fun a H => z_blt H rfl (H.args (vs := [l25.v]) rfl) (lt_ rfl) (fun cs w => b_lenS (z := l25) sl_49) fun a H => z_move H rfl rfl (lt_ rfl) fun a H => ?_
    obtain ⟨a27, h121, h⟩ := h
    revert H
    revert h
    subst h121
    intro h H
    refine z_nil H rfl rfl (lt_ rfl) fun a H => z_fld H rfl rfl fld_194_1 (lt_ rfl) fun a H => ?_
    obtain ⟨l28, hc29, h⟩ := h
    refine z_load (v := l28.v) H rfl rfl one_22 hc29 (lt_ rfl) fun a H => z_blt H rfl (H.args (vs := [l28.v]) rfl) (lt_ rfl) (fun cs w => b_lenS (z := l28) sl_22) fun a H => z_bin H rfl rfl rfl r_neq (lt_ rfl) fun a H => wpQuiet_nil ?_
    rintro _ ⟨k17, rfl⟩
    replace h := h k17
    refine hK16 _ _ <| cd H rfl h (fun h30 h => ?_) (fun h30 h => ?_)
    ·exact sr fun K31 hK31 => ww H <| ag rfl rfl <| ag rfl rfl <| fun a H => nk hK31 <| c_ret <| e_ret2 H rfl rfl rfl h
    ·refine c_skip <| hK15 _ _ <| c_seq fun K32 hK32 => ?_
     replace H := H.weaken (L' := [(0, (.pointer (some a18))), (1, (.pointer (some a27)))]) ⟨rfl, rfl, trivial⟩
     obtain ⟨l33, hc34, l35, hc36, l37, hc38, a39, h40, h41, h42, l43, hc44, h⟩ := h
     refine c_any (V := [(0, (.pointer (some a18))), (1, (.pointer (some a18))), (2, (.pointer (some (a18.add 0)))), (3, (.pointer l33)), (4, (.pointer (some a18))), (5, (.pointer (some a18))), (6, (.pointer (some (a18.add 1)))), (7, l35.v), (8, (.i (l35.l : Int))), (9, (.pointer (some a27))), (10, (.pointer (some a27))), (11, (.pointer (some (a27.add 1)))), (12, l37.v), (13, (.pointer (some (a39.add (Int.toNat (0) * 1))))), (14, l43.v), (15, (.i (l43.l : Int)))]) (⟨[[], [0], [1], [2], [], [4], [5], [6], [7], [], [9], [10], [11], [12], [13], [14], [3, 8, 15], [0, 1, 2, 3, 4, 5, 6, 7, 8, 9, 10, 11, 12, 13, 14, 15, 16]], [some 41, some 42, some 43, some 44, some 45, some 46, some 47, some 48, some 49, some 50, some 51, some 52, some 53, some 54, some 55, some 56, some 57, some 6], [16], [0, 0, 0, 0, 0, 0, 0, 0, 0, 0, 0, 0, 0, 0, 0, 0, 0, 1], [0, 0, 0, 0, 0, 0, 0, 0, 0, 0, 0, 0, 0, 0, 0, 0, 1, 1]⟩ : Rg) [(0, (.pointer (some a18))), (1, (.pointer (some a27)))] mixed (by kernel_rfl) H ?_
     refine Stg.eff [0, 1, 2, 3, 4, 5, 6, 7, 8, 9, 10, 11, 12, 13, 14, 15] (by kernel_rfl) rfl (.cons ?_ (.cons ?_ (.cons ?_ (.cons ?_ (.cons ?_ (.cons ?_ (.cons ?_ (.cons ?_ (.cons ?_ (.cons ?_ (.cons ?_ (.cons ?_ (.cons ?_ (.cons ?_ (.cons ?_ (.cons ?_ .nil)))))))))))))))) ?_
     ·exact Aw rfl rfl <| mv rfl rfl <| An rfl
     ·exact Aw rfl rfl <| nl rfl rfl <| An rfl
     ·exact Aw rfl rfl <| fd rfl fld_194_0 rfl <| An rfl
     ·exact Aw rfl rfl <| ld rfl one_103 hc34 rfl <| An rfl
     ·exact Aw rfl rfl <| mv rfl rfl <| An rfl
     ·exact Aw rfl rfl <| nl rfl rfl <| An rfl
     ·exact Aw rfl rfl <| fd rfl fld_194_1 rfl <| An rfl
     ·exact Aw rfl rfl <| ld rfl one_22 hc36 rfl <| An rfl
     ·exact Aw rfl rfl <| bl (vs := [l35.v]) rfl rfl (fun cs => b_lenS (z := l35) sl_22) <| An rfl
     ·exact Aw rfl rfl <| mv rfl rfl <| An rfl
     ·exact Aw rfl rfl <| nl rfl rfl <| An rfl
     ·exact Aw rfl rfl <| fd rfl fld_194_1 rfl <| An rfl
     ·exact Aw rfl rfl <| ld rfl one_22 hc38 rfl <| An rfl
     ·exact Ans.mk rfl rfl fun a H => s_idxS (s := l37) H rfl rfl rfl slc_22 h40 h41 h42 (lt_ rfl) fun a H => Ans.fin H rfl
     ·exact Aw rfl rfl <| ld rfl one_49 hc44 rfl <| An rfl
     ·exact Aw rfl rfl <| bl (vs := [l43.v]) rfl rfl (fun cs => b_lenS (z := l43) sl_49) <| An rfl
     ·refine cl1 h body_106 rfl rfl eP fun b46 w45 h => fun a H => c_nil <| effQ.go [(17, (.pointer b46))] H rfl rfl <| Stg.fin [17] (by kernel_rfl) (.cons ?_ .nil) ?_
      ·exact Aw rfl rfl <| ag rfl rfl <| An rfl
      ·intro a H
       replace H := H.weaken (L' := [(0, (.pointer (some a18))), (1, (.pointer (some a27))), (6, (.pointer b46))]) ⟨rfl, rfl, rfl, trivial⟩
       obtain ⟨l49, hc50, h⟩ := h
       refine hK32 _ _ <| c_seq fun K47 hK47 => sr fun K48 hK48 => ww H <| mv rfl rfl <| nl rfl rfl <| fd rfl fld_194_1 rfl <| ld rfl one_22 hc50 rfl <| bl (vs := [l49.v]) rfl rfl (fun cs => b_lenS (z := l49) sl_22) <| mv rfl rfl <| fun a H => nk hK48 <| c_block ?_
       obtain ⟨I53, m54, h115, h116⟩ := h
       refine c_loop (σ := Int) (fun z w => I53 z w) (fun z w => m54 z w) (fun z => [(0, (.pointer (some a18))), (1, (.pointer (some a27))), (6, (.pointer b46)), (61, l49.v), (62, (.i (l49.l : Int))), (63, (.i z))]) 0 h115 (H.weaken ⟨rfl, rfl, rfl, rfl, rfl, rfl, trivial⟩) ?_
       clear H h115
       rintro s51 a w52 h H
       replace h := h116 s51 w52 h
       clear h116
       replace H : Has 98 [] a [(0, (.pointer (some a18))), (1, (.pointer (some a27))), (6, (.pointer b46)), (61, l49.v), (62, (.i (l49.l : Int))), (63, (.i s51))] := H
       refine sr fun K55 hK55 => ww H <| bn rfl rfl r_lss rfl <| fun a H => nk hK55 <| c_seq fun K56 hK56 => cd H rfl h (fun h57 h => ?_) (fun h57 h => ?_)
       ·refine c_skip <| hK56 _ _ <| c_seq fun K58 hK58 => ?_
        obtain ⟨R59, h, h113⟩ := h
        have h61 : ∀ (a : Act) (w60 : World), R59 w60 → Has 98 [] a [(0, (.pointer (some a18))), (1, (.pointer (some a27))), (6, (.pointer b46)), (61, l49.v), (62, (.i (l49.l : Int))), (63, (.i s51))] → K58 a w60 := by
         clear h
         intro a w60 h H
         replace h := h113 w60 h
         refine hK58 _ _ <| c_reg <| ww H <| bn rfl rfl r_add rfl <| mv rfl rfl <| fun a H => c_nil <| Exists.intro (wr .i64 (s51 + 1)) ⟨h.1, h.2, H.weaken ⟨rfl, rfl, rfl, rfl, rfl, rfl, trivial⟩⟩
        clear h113
        obtain ⟨a63, h64, h65, h66, h⟩ := h
        refine c_block <| sr fun K62 hK62 => ww H <| mv rfl rfl <| fun a H => s_idxS (s := l49) H rfl rfl rfl slc_22 h64 h65 h66 (lt_ rfl) fun a H => ?_
        obtain ⟨l67, hc68, h⟩ := h
        refine ww H <| ld rfl one_49 hc68 rfl <| ag rfl rfl <| ag rfl rfl <| fun a H => nk hK62 <| sr fun K69 hK69 => ww H <| mv rfl rfl <| bl (vs := [l67.v]) rfl rfl (fun cs => b_lenS (z := l67) sl_49) <| mv rfl rfl <| fun a H => nk hK69 <| c_block ?_
        obtain ⟨I72, m73, h111, h112⟩ := h
        refine c_loop (σ := Int) (fun z w => I72 z w) (fun z w => m73 z w) (fun z => [(0, (.pointer (some a18))), (1, (.pointer (some a27))), (6, (.pointer b46)), (7, (.i s51)), (61, l49.v), (62, (.i (l49.l : Int))), (63, (.i s51)), (68, l67.v), (69, (.i (l67.l : Int))), (70, (.i z))]) 0 h111 (H.weaken ⟨rfl, rfl, rfl, rfl, rfl, rfl, rfl, rfl, rfl, rfl, trivial⟩) ?_
        clear H h111
        rintro s70 a w71 h H
        replace h := h112 s70 w71 h
        clear h112
        replace H : Has 98 [] a [(0, (.pointer (some a18))), (1, (.pointer (some a27))), (6, (.pointer b46)), (7, (.i s51)), (61, l49.v), (62, (.i (l49.l : Int))), (63, (.i s51)), (68, l67.v), (69, (.i (l67.l : Int))), (70, (.i s70))] := H
        refine sr fun K74 hK74 => ww H <| bn rfl rfl r_lss rfl <| fun a H => nk hK74 <| c_seq fun K75 hK75 => cd H rfl h (fun h76 h => ?_) (fun h76 h => ?_)
        ·obtain ⟨a79, h80, h81, h82, h⟩ := h
         refine c_skip <| hK75 _ _ <| c_seq fun K77 hK77 => c_block <| sr fun K78 hK78 => ww H <| mv rfl rfl <| fun a H => s_idxS (s := l67) H rfl rfl rfl slc_49 h80 h81 h82 (lt_ rfl) fun a H => ?_
         obtain ⟨l83, hc84, h⟩ := h
         refine ww H <| ld rfl one_5 hc84 rfl <| ag rfl rfl <| ag rfl rfl <| fun a H => nk hK78 <| ?_
         replace H := H.weaken (L' := [(0, (.pointer (some a18))), (1, (.pointer (some a27))), (6, (.pointer b46)), (7, (.i s51)), (9, (.i s70)), (10, (.int .u8 l83)), (61, l49.v), (62, (.i (l49.l : Int))), (63, (.i s51)), (68, l67.v), (69, (.i (l67.l : Int))), (70, (.i s70))]) ⟨rfl, rfl, rfl, rfl, rfl, rfl, rfl, rfl, rfl, rfl, rfl, rfl, trivial⟩
         obtain ⟨l85, hc86, a87, h88, h⟩ := h
         revert H
         revert h
         subst h88
         intro h H
         obtain ⟨l89, hc90, a91, h92, h93, h94, l95, hc96, l97, hc98, a99, h100, h101, h102, l103, hc104, h⟩ := h
         refine c_any (V := [(0, (.pointer (some a18))), (1, (.pointer (some a18))), (2, (.pointer (some (a18.add 0)))), (3, (.pointer l85)), (4, (.pointer (some a87))), (5, (.pointer (some a87))), (6, (.pointer (some (a87.add 1)))), (7, l89.v), (8, (.i s51)), (9, (.pointer (some (a91.add (Int.toNat (s51) * 1))))), (10, l95.v), (11, (.int .u8 l83)), (12, (.pointer (some a27))), (13, (.pointer (some a27))), (14, (.pointer (some (a27.add 1)))), (15, l97.v), (16, (.i s70)), (17, (.pointer (some (a99.add (Int.toNat (s70) * 1))))), (18, l103.v)]) (⟨[[], [0], [1], [2], [], [4], [5], [6], [], [7, 8], [9], [], [], [12], [13], [14], [], [15, 16], [17], [3, 10, 11, 18]], [some 75, some 76, some 77, some 78, some 79, some 80, some 81, some 82, some 83, some 84, some 85, some 86, some 87, some 88, some 89, some 90, some 91, some 92, some 93, some 94], [19], [0, 0, 0, 0, 0, 0, 0, 0, 0, 0, 0, 0, 0, 0, 0, 0, 0, 0, 0, 0], [0, 0, 0, 0, 0, 0, 0, 0, 0, 0, 0, 0, 0, 0, 0, 0, 0, 0, 0, 1]⟩ : Rg) [(0, (.pointer (some a18))), (1, (.pointer (some a27))), (6, (.pointer (some a87))), (7, (.i s51)), (9, (.i s70)), (10, (.int .u8 l83)), (61, l49.v), (62, (.i (l49.l : Int))), (63, (.i s51)), (68, l67.v), (69, (.i (l67.l : Int))), (70, (.i s70))] mixed (by kernel_rfl) H ?_
         refine Stg.eff [0, 1, 2, 3, 4, 5, 6, 7, 8, 9, 10, 11, 12, 13, 14, 15, 16, 17, 18] (by kernel_rfl) rfl (.cons ?_ (.cons ?_ (.cons ?_ (.cons ?_ (.cons ?_ (.cons ?_ (.cons ?_ (.cons ?_ (.cons ?_ (.cons ?_ (.cons ?_ (.cons ?_ (.cons ?_ (.cons ?_ (.cons ?_ (.cons ?_ (.cons ?_ (.cons ?_ (.cons ?_ .nil))))))))))))))))))) ?_
         ·exact Aw rfl rfl <| mv rfl rfl <| An rfl
         ·exact Aw rfl rfl <| nl rfl rfl <| An rfl
         ·exact Aw rfl rfl <| fd rfl fld_194_0 rfl <| An rfl
         ·exact Aw rfl rfl <| ld rfl one_103 hc86 rfl <| An rfl
         ·exact Aw rfl rfl <| mv rfl rfl <| An rfl
         ·exact Aw rfl rfl <| nl rfl rfl <| An rfl
         ·exact Aw rfl rfl <| fd rfl fld_194_1 rfl <| An rfl
         ·exact Aw rfl rfl <| ld rfl one_22 hc90 rfl <| An rfl
         ·exact Aw rfl rfl <| mv rfl rfl <| An rfl
         ·exact Ans.mk rfl rfl fun a H => s_idxS (s := l89) H rfl rfl rfl slc_22 h92 h93 h94 (lt_ rfl) fun a H => Ans.fin H rfl
         ·exact Aw rfl rfl <| ld rfl one_49 hc96 rfl <| An rfl
         ·exact Aw rfl rfl <| mv rfl rfl <| An rfl
         ·exact Aw rfl rfl <| mv rfl rfl <| An rfl
         ·exact Aw rfl rfl <| nl rfl rfl <| An rfl
         ·exact Aw rfl rfl <| fd rfl fld_194_1 rfl <| An rfl
         ·exact Aw rfl rfl <| ld rfl one_22 hc98 rfl <| An rfl
         ·exact Aw rfl rfl <| mv rfl rfl <| An rfl
         ·exact Ans.mk rfl rfl fun a H => s_idxS (s := l97) H rfl rfl rfl slc_22 h100 h101 h102 (lt_ rfl) fun a H => Ans.fin H rfl
         ·exact Aw rfl rfl <| ld rfl one_49 hc104 rfl <| An rfl
         ·refine cl1 h body_110 rfl rfl eP fun A106 w105 h => fun a H => c_nil <| effQ.go [] H rfl rfl <| Stg.fin [] (by kernel_rfl) .nil ?_
          ·intro a H
           replace H := H.weaken (L' := [(0, (.pointer (some a18))), (1, (.pointer (some a27))), (6, (.pointer (some a87))), (7, (.i s51)), (61, l49.v), (62, (.i (l49.l : Int))), (63, (.i s51)), (68, l67.v), (69, (.i (l67.l : Int))), (70, (.i s70))]) ⟨rfl, rfl, rfl, rfl, rfl, rfl, rfl, rfl, rfl, rfl, trivial⟩
           refine hK77 _ _ <| c_reg <| ww H <| bn rfl rfl r_add rfl <| mv rfl rfl <| fun a H => c_nil <| Exists.intro (wr .i64 (s70 + 1)) ⟨h.1, h.2, H.weaken ⟨rfl, rfl, rfl, rfl, rfl, rfl, rfl, rfl, rfl, rfl, trivial⟩⟩
        ·refine c_exit ?_
         first | (simp only [Exit.then, Exit.inBlock, ↓reduceIte]; fail_if_success simp only [Nat.reduceEqDiff]) | simp only [Exit.then, Exit.inBlock, ↓reduceIte, Nat.reduceEqDiff]
         exact h61 _ _ h (H.weaken ⟨rfl, rfl, rfl, rfl, rfl, rfl, trivial⟩)
       ·refine c_exit ?_
        first | (simp only [Exit.then, Exit.inBlock, ↓reduceIte]; fail_if_success simp only [Nat.reduceEqDiff]) | simp only [Exit.then, Exit.inBlock, ↓reduceIte, Nat.reduceEqDiff]
        exact hK47 _ _ <| sr fun K114 hK114 => ww H <| mv rfl rfl <| ag rfl rfl <| ag rfl rfl <| fun a H => nk hK114 <| c_ret <| e_ret2 H rfl rfl rfl h
  clear h146
  replace H := H.weaken (L' := [(0, (.pointer m1)), (1, (.pointer o2))]) ⟨rfl, rfl, trivial⟩
  rcases Bool.eq_false_or_eq_true o2.isNone with h124 | h124
  ·replace h := h.1 h124
   refine c_any (V := [(0, (.pointer o2)), (1, (.bool o2.isNone)), (2, (.bool o2.isNone)), (3, undef), (4, undef), (5, undef), (6, undef), (8, undef), (9, undef), (10, undef), (11, undef)]) (⟨[[], [0], [1], [2], [2, 3], [2, 4], [2, 5], [2, 6], [2], [2, 8], [2, 9], [2, 10], [2, 7, 11], [2, 7, 12], [2, 13]], [some 13, some 14, some 15, some 16, some 17, some 18, some 19, some 20, some 21, some 22, some 23, some 24, some 25, some 26, some 27], [7, 12], [0, 0, 0, 0, 0, 0, 0, 0, 0, 0, 0, 0, 1, 2, 2], [0, 0, 0, 0, 0, 0, 0, 1, 1, 1, 1, 1, 2, 2, 2]⟩ : Rg) [(0, (.pointer m1)), (1, (.pointer o2))] mixed (by kernel_rfl) H <| Stg.eff [0, 1, 2, 3, 4, 5, 6, 8, 9, 10, 11] (by kernel_rfl) rfl (.cons ?_ (.cons ?_ (.cons ?_ (.cons ?_ (.cons ?_ (.cons ?_ (.cons ?_ (.cons ?_ (.cons ?_ (.cons ?_ (.cons ?_ .nil))))))))))) ?_
   ·exact Aw rfl rfl <| mv rfl rfl <| An rfl
   ·exact Aw rfl rfl <| bn rfl rfl (r_eqP0 ptr_154) rfl <| An rfl
   ·exact Aw rfl rfl <| mv rfl rfl <| An rfl
   ·exact .skip rfl rfl rfl rfl rfl rfl h124 rfl
   ·exact .skip rfl rfl rfl rfl rfl rfl h124 rfl
   ·exact .skip rfl rfl rfl rfl rfl rfl h124 rfl
   ·exact .skip rfl rfl rfl rfl rfl rfl h124 rfl
   ·exact .skip rfl rfl rfl rfl rfl rfl h124 rfl
   ·exact .skip rfl rfl rfl rfl rfl rfl h124 rfl
   ·exact .skip rfl rfl rfl rfl rfl rfl h124 rfl
   ·exact .skip rfl rfl rfl rfl rfl rfl h124 rfl
   ·intro a H
    replace H := H.weaken (L' := [(15, (.bool o2.isNone)), (19, undef)]) ⟨rfl, rfl, trivial⟩
    replace H := H.ch (t := 15) (b := true) rfl h124
    refine ww H <| sk rfl rfl rfl rfl <| fun a H => c_nil <| effQ.go [] H rfl rfl <| Stg.eff [8, 9, 10, 11] (by kernel_rfl) rfl (.cons ?_ (.cons ?_ (.cons ?_ (.cons ?_ .nil)))) ?_
    ·exact .skip rfl rfl rfl rfl rfl rfl h124 rfl
    ·exact .skip rfl rfl rfl rfl rfl rfl h124 rfl
    ·exact .skip rfl rfl rfl rfl rfl rfl h124 rfl
    ·exact .skip rfl rfl rfl rfl rfl rfl h124 rfl
    ·intro a H
     replace H := H.weaken (L' := [(15, (.bool o2.isNone)), (24, undef)]) ⟨rfl, rfl, trivial⟩
     replace H := H.ch (t := 15) (b := true) rfl h124
     refine ww H <| sk rfl rfl rfl rfl <| fun a H => c_nil <| effQ.go [(13, undef), (14, (.bool true))] H rfl rfl <| Stg.fin [13, 14] (by kernel_rfl) (.cons ?_ (.cons ?_ .nil)) ?_
     ·exact .skip rfl rfl rfl rfl rfl rfl h124 rfl
     ·refine Ans.mk rfl rfl fun a H => ?_
      replace H := H.ch (t := 15) (b := true) rfl h124
      exact ww H <| pT rfl rfl rfl <| fun a H => Ans.fin H rfl
     ·intro a H
      replace H := H.weaken (L' := [(0, (.pointer m1)), (1, (.pointer o2)), (27, (.bool true))]) ⟨rfl, rfl, rfl, trivial⟩
      exact h123 _ _ _ h (H.weaken ⟨rfl, rfl, rfl, trivial⟩)
  ·replace h := h.2 h124
   obtain ⟨a125, h126, h⟩ := h
   revert H
   revert h
   subst h126
   intro h H
   obtain ⟨l127, hc128, a129, h130, h⟩ := h
   revert H
   revert h
   subst h130
   intro h H
   obtain ⟨l131, hc132, h⟩ := h
   refine c_any (V := [(0, (.pointer (some a125))), (1, (.bool (some a125).isNone)), (2, (.bool (some a125).isNone)), (3, (.pointer (some a125))), (4, (.pointer (some a125))), (5, (.pointer (some (a125.add 0)))), (6, (.pointer l127)), (8, (.pointer (some a129))), (9, (.pointer (some a129))), (10, (.pointer (some (a129.add 0)))), (11, (.pointer l131))]) (⟨[[], [0], [1], [2], [2, 3], [2, 4], [2, 5], [2, 6], [2], [2, 8], [2, 9], [2, 10], [2, 7, 11], [2, 7, 12], [2, 13]], [some 13, some 14, some 15, some 16, some 17, some 18, some 19, some 20, some 21, some 22, some 23, some 24, some 25, some 26, some 27], [7, 12], [0, 0, 0, 0, 0, 0, 0, 0, 0, 0, 0, 0, 1, 2, 2], [0, 0, 0, 0, 0, 0, 0, 1, 1, 1, 1, 1, 2, 2, 2]⟩ : Rg) [(0, (.pointer (some a129))), (1, (.pointer (some a125)))] mixed (by kernel_rfl) H <| Stg.eff [0, 1, 2, 3, 4, 5, 6, 8, 9, 10, 11] (by kernel_rfl) rfl (.cons ?_ (.cons ?_ (.cons ?_ (.cons ?_ (.cons ?_ (.cons ?_ (.cons ?_ (.cons ?_ (.cons ?_ (.cons ?_ (.cons ?_ .nil))))))))))) ?_
   ·exact Aw rfl rfl <| mv rfl rfl <| An rfl
   ·exact Aw rfl rfl <| bn rfl rfl (r_eqP0 ptr_154) rfl <| An rfl
   ·exact Aw rfl rfl <| mv rfl rfl <| An rfl
   ·refine Ans.mk rfl rfl fun a H => ?_
    replace H := H.ch (t := 15) (b := false) rfl h124
    exact ww H <| gmv rfl rfl rfl rfl <| fun a H => Ans.fin H rfl
   ·refine Ans.mk rfl rfl fun a H => ?_
    replace H := H.ch (t := 15) (b := false) rfl h124
    exact ww H <| gnl rfl rfl rfl rfl <| fun a H => Ans.fin H rfl
   ·refine Ans.mk rfl rfl fun a H => ?_
    replace H := H.ch (t := 15) (b := false) rfl h124
    exact ww H <| gfd rfl rfl rfl fld_194_0 rfl <| fun a H => Ans.fin H rfl
   ·refine Ans.mk rfl rfl fun a H => ?_
    replace H := H.ch (t := 15) (b := false) rfl h124
    exact ww H <| gld rfl rfl rfl one_103 hc128 rfl <| fun a H => Ans.fin H rfl
   ·refine Ans.mk rfl rfl fun a H => ?_
    replace H := H.ch (t := 15) (b := false) rfl h124
    exact ww H <| gmv rfl rfl rfl rfl <| fun a H => Ans.fin H rfl
   ·refine Ans.mk rfl rfl fun a H => ?_
    replace H := H.ch (t := 15) (b := false) rfl h124
    exact ww H <| gnl rfl rfl rfl rfl <| fun a H => Ans.fin H rfl
   ·refine Ans.mk rfl rfl fun a H => ?_
    replace H := H.ch (t := 15) (b := false) rfl h124
    exact ww H <| gfd rfl rfl rfl fld_194_0 rfl <| fun a H => Ans.fin H rfl
   ·refine Ans.mk rfl rfl fun a H => ?_
    replace H := H.ch (t := 15) (b := false) rfl h124
    exact ww H <| gld rfl rfl rfl one_103 hc132 rfl <| fun a H => Ans.fin H rfl
   ·intro a H
    replace H := H.weaken (L' := [(15, (.bool (some a125).isNone)), (19, (.pointer l127))]) ⟨rfl, rfl, trivial⟩
    replace H := H.ch (t := 15) (b := false) rfl h124
    refine s_call H (wantG H rfl rfl) body_109 (H.args (vs := [(.pointer l127)]) rfl) (lt_ rfl) h ?_ (fun c w' => eP c w' _)
    clear H h a
    rintro _ w133 a ⟨P134, rfl, h⟩ H
    obtain ⟨hc135, h⟩ := h
    refine c_nil <| effQ.go [] H rfl rfl <| Stg.eff [8, 9, 10, 11] (by kernel_rfl) rfl (.cons ?_ (.cons ?_ (.cons ?_ (.cons ?_ .nil)))) ?_
    ·refine Ans.mk rfl rfl fun a H => ?_
     replace H := H.ch (t := 15) (b := false) rfl h124
     exact ww H <| gmv rfl rfl rfl rfl <| fun a H => Ans.fin H rfl
    ·refine Ans.mk rfl rfl fun a H => ?_
     replace H := H.ch (t := 15) (b := false) rfl h124
     exact ww H <| gnl rfl rfl rfl rfl <| fun a H => Ans.fin H rfl
    ·refine Ans.mk rfl rfl fun a H => ?_
     replace H := H.ch (t := 15) (b := false) rfl h124
     exact ww H <| gfd rfl rfl rfl fld_194_0 rfl <| fun a H => Ans.fin H rfl
    ·refine Ans.mk rfl rfl fun a H => ?_
     replace H := H.ch (t := 15) (b := false) rfl h124
     exact ww H <| gld rfl rfl rfl one_103 hc135 rfl <| fun a H => Ans.fin H rfl
    ·intro a H
     replace H := H.weaken (L' := [(15, (.bool (some a125).isNone)), (24, (.pointer l131))]) ⟨rfl, rfl, trivial⟩
     replace H := H.ch (t := 15) (b := false) rfl h124
     refine s_call H (wantG H rfl rfl) body_109 (H.args (vs := [(.pointer l131)]) rfl) (lt_ rfl) h ?_ (fun c w' => eP c w' _)
     clear H h a
     rintro _ w136 a ⟨P137, rfl, h⟩ H
     refine c_nil <| effQ.go [(13, (.bool (decide (P134 ≠ P137)))), (14, (.bool (decide (P134 ≠ P137))))] H rfl rfl <| Stg.fin [13, 14] (by kernel_rfl) (.cons ?_ (.cons ?_ .nil)) ?_
     ·refine Ans.mk rfl rfl fun a H => ?_
      replace H := H.ch (t := 15) (b := false) rfl h124
      exact ww H <| gbn rfl rfl rfl rfl r_neq rfl <| fun a H => Ans.fin H rfl
     ·refine Ans.mk rfl rfl fun a H => ?_
      replace H := H.ch (t := 15) (b := false) rfl h124
      exact ww H <| pF rfl rfl rfl <| fun a H => Ans.fin H rfl
     ·intro a H
      replace H := H.weaken (L' := [(0, (.pointer (some a129))), (1, (.pointer (some a125))), (27, (.bool (decide (P134 ≠ P137))))]) ⟨rfl, rfl, rfl, trivial⟩
      exact h123 _ _ _ h (H.weaken ⟨rfl, rfl, rfl, trivial⟩)

theorem sim_matrix_Matrix_Rows (m1 : Option Addr) (w : World) (Q : Ending → World → Prop) (h : vc_matrix_Matrix_Rows m1 w Q) : Calls PP F_matrix_Matrix_Rows #[(.pointer m1)] w Q := by
 unfold vc_matrix_Matrix_Rows at h
 refine enter (n := 30) Tryz.func77 rfl rfl (le_ rfl) fun a H => sr fun K2 hK2 => ww H <| ag rfl rfl <| fun a H => nk hK2 <| c_seq fun K3 hK3 => sr fun K4 hK4 => ww H <| mv rfl rfl <| bn rfl rfl (r_eqP0 ptr_154) rfl <| fun a H => nk hK4 <| cd H rfl h (fun h5 h => ?_) (fun h5 h => ?_)
 ·exact sr fun K6 hK6 => ww H <| ag rfl rfl <| fun a H => nk hK6 <| c_ret <| e_ret1 H rfl rfl h
 ·obtain ⟨a8, h46, h⟩ := h
  refine c_skip <| hK3 _ _ <| sr fun K7 hK7 => ww H <| mv rfl rfl <| fun a H => ?_
  revert H
  revert h
  subst h46
  intro h H
  obtain ⟨l9, hc10, s11, w12, h13, h⟩ := h
  refine ww H <| nl rfl rfl <| fd rfl fld_194_1 rfl <| ld rfl one_22 hc10 rfl <| bl (vs := [l9.v]) rfl rfl (fun cs => b_lenS (z := l9) sl_22) <| fun a H => s_mk H rfl rfl rfl h13 (lt_ rfl) ?_
  clear H a h13
  intro a H
  obtain ⟨l16, hc17, h⟩ := h
  refine ww H <| ag rfl rfl <| fun a H => nk hK7 <| c_seq fun K14 hK14 => sr fun K15 hK15 => ww H <| mv rfl rfl <| nl rfl rfl <| fd rfl fld_194_1 rfl <| ld rfl one_22 hc17 rfl <| bl (vs := [l16.v]) rfl rfl (fun cs => b_lenS (z := l16) sl_22) <| mv rfl rfl <| fun a H => nk hK15 <| c_block ?_
  obtain ⟨I21, m22, h44, h45⟩ := h
  refine c_loop (σ := Slc × Int) (fun z w => I21 z.1 z.2 w) (fun z w => m22 z.1 z.2 w) (fun z => [(3, z.1.v), (17, l16.v), (18, (.i (l16.l : Int))), (19, (.i z.2))]) (s11, 0) h44 (H.weaken ⟨rfl, rfl, rfl, rfl, trivial⟩) ?_
  clear H h44
  rintro ⟨o18, s19⟩ a w20 h H
  replace h := h45 o18 s19 w20 h
  clear h45
  replace H : Has 30 [] a [(3, o18.v), (17, l16.v), (18, (.i (l16.l : Int))), (19, (.i s19))] := H
  refine sr fun K23 hK23 => ww H <| bn rfl rfl r_lss rfl <| fun a H => nk hK23 <| c_seq fun K24 hK24 => cd H rfl h (fun h25 h => ?_) (fun h25 h => ?_)
  ·obtain ⟨a28, h29, h30, h31, h⟩ := h
   refine c_skip <| hK24 _ _ <| c_seq fun K26 hK26 => c_block <| sr fun K27 hK27 => s_idxS (s := l16) H rfl rfl rfl slc_22 h29 h30 h31 (lt_ rfl) fun a H => ?_
   obtain ⟨l32, hc33, s34, w35, h36, h⟩ := h
   refine ww H <| ld rfl one_49 hc33 rfl <| ag rfl rfl <| fun a H => nk hK27 <| c_reg <| ww H <| mv rfl rfl <| mv rfl rfl <| fun a H => s_blt H rfl (H.args (vs := [Slc.nil.v, l32.v]) rfl) (lt_ rfl) (fun cs => b_app (z := s34) h36) ?_
   clear H a h36
   intro a H
   replace h := h.get
   obtain ⟨b37, w38, n39, h⟩ := h
   refine s_bslc H rfl (by rw [H.parts (vs := [(0, s34.v)]) rfl]; exact bs_22_1_s0 w35 s34) (lt_ rfl) ?_
   rw [← n39.at_]
   clear H a
   intro a H
   refine n39.go ?_
   obtain ⟨s40, w41, h42, h⟩ := h
   refine s_blt H rfl (H.args (vs := [o18.v, (Slc.v (Slc.mk (some (blk b37)) 1 1))]) rfl) (lt_ rfl) (fun cs => b_app (z := s40) h42) ?_
   clear H a h42
   intro a H
   refine ww H <| ag rfl rfl <| fun a H => nk hK26 <| c_reg <| ww H <| bn rfl rfl r_add rfl <| mv rfl rfl <| fun a H => c_nil <| Exists.intro (s40, wr .i64 (s19 + 1)) ⟨h.1, h.2, H.weaken ⟨rfl, rfl, rfl, rfl, trivial⟩⟩
  ·refine c_exit ?_
   first | (simp only [Exit.then, Exit.inBlock, ↓reduceIte]; fail_if_success simp only [Nat.reduceEqDiff]) | simp only [Exit.then, Exit.inBlock, ↓reduceIte, Nat.reduceEqDiff]
   exact hK14 _ _ <| sr fun K43 hK43 => ww H <| mv rfl rfl <| ag rfl rfl <| fun a H => nk hK43 <| c_ret <| e_ret1 H rfl rfl h
end Go.Proofs.YtabifopphhpciaaGreatDoor

namespace Go.Proofs.YtabifopphhpciaaGreatDoor
open Go Go.Vc
set_option maxRecDepth 100000
set_option maxHeartbeats 4000000
theorem sim_client_Client_enter (c1 : Option Addr) (s2 : Value) (C3 C4 : Int) (w : World) (Q : Ending → World → Prop) (h : vc_client_Client_enter c1 s2 C3 C4 w Q) : Calls PP F_client_Client_enter #[(.pointer c1), s2, (.agg #[(.i C3), (.i C4)])] w Q := by
 unfold vc_client_Client_enter at h
 have eP {L : List (Nat × Value)} (c : List PanicEntry) (w' : World) (a : Act) (h : Q (.panicked c) w') (H : Has 38 [] a L) : bodyPost PP Tryz.f78 Q (.panic c) a w' := e_panic H h
 refine enter (n := 38) Tryz.func78 rfl rfl (le_ rfl) fun a H => sr fun K5 hK5 => ww H <| bx h rfl rfl rfl rfl fun b6 w7 n8 h => fun a H => ?_
 obtain ⟨a10, h59, h⟩ := h
 refine ww H <| ag rfl rfl <| fun a H => nk hK5 <| sr fun K9 hK9 => ww H <| mv rfl rfl <| fun a H => ?_
 revert H
 revert h
 subst h59
 intro h H
 obtain ⟨l11, hc12, h⟩ := h
 refine ww H <| nl rfl rfl <| fd rfl fld_102_5 rfl <| ld rfl one_100 hc12 rfl <| ag rfl rfl <| fun a H => nk hK9 <| c_seq fun K13 hK13 => ?_
 replace H := H.weaken (L' := [(0, (.pointer (some a10))), (1, s2), (5, (.pointer (some (blk b6)))), (7, (.pointer l11))]) ⟨rfl, rfl, rfl, rfl, trivial⟩
 obtain ⟨C14, hc15, C16, hc17, a18, h19, h⟩ := h
 revert H
 revert h
 subst h19
 intro h H
 refine c_any (V := [(0, (.pointer (some a18))), (1, (.pointer (some a18))), (2, s2), (3, (.agg #[(.i C14), (.i C16)])), (4, (.pointer (some a18))), (5, (.pointer (some (a18.add 4))))]) (⟨[[], [], [], [], [0, 2], [0, 2, 4], [0, 2, 5], [0, 1, 2, 3, 4, 5, 6], [0, 1, 2, 3, 4, 5, 6, 7], [0, 1, 2, 3, 4, 5, 6, 8]], [some 12, some 13, some 14, some 15, some 16, some 17, none, some 18, some 19, none], [6, 9], [0, 0, 0, 0, 0, 0, 0, 1, 1, 1], [0, 1, 0, 1, 0, 0, 1, 1, 1, 2]⟩ : Rg) [(0, (.pointer (some a10))), (1, s2), (5, (.pointer (some (blk b6)))), (7, (.pointer (some a18)))] mixed (by kernel_rfl) H <| Stg.eff [0, 1, 2, 3, 4, 5] (by kernel_rfl) rfl (.cons ?_ (.cons ?_ (.cons ?_ (.cons ?_ (.cons ?_ (.cons ?_ .nil)))))) ?_
 ·exact Aw rfl rfl <| mv rfl rfl <| An rfl
 ·exact Aw rfl rfl <| mv rfl rfl <| An rfl
 ·exact Aw rfl rfl <| mv rfl rfl <| An rfl
 ·exact Aw rfl rfl <| lN (l := [(.i C14), (.i C16)]) rfl agg_27 rfl ⟨hc15, hc17, trivial⟩ rfl <| An rfl
 ·exact Aw rfl rfl <| nl rfl rfl <| An rfl
 ·exact Aw rfl rfl <| fd rfl fld_116_4 rfl <| An rfl
 ·intro a H
  replace H := H.weaken (L' := [(14, s2), (17, (.pointer (some (a18.add 4))))]) ⟨rfl, rfl, trivial⟩
  obtain ⟨h58, h⟩ := h
  refine ww H <| st h rfl rfl one_113 h58 fun w20 w20S h => fun a H => ?_
  obtain ⟨hc23, hc24, h⟩ := h
  refine c_nil <| effQ.go0 [(7, (.pointer (some a18))), (8, (.pointer (some (a18.add 5))))] H rfl rfl <| Stg.eff [1, 3, 7, 8] (by kernel_rfl) rfl (.cons ?_ (.cons ?_ (.cons ?_ (.cons ?_ .nil)))) ?_
  ·exact Aw rfl rfl <| mv rfl rfl <| An rfl
  ·exact Aw rfl rfl <| lN (l := [(.i C14), (.i C16)]) rfl agg_27 rfl ⟨hc23, hc24, trivial⟩ rfl <| An rfl
  ·exact Aw rfl rfl <| nl rfl rfl <| An rfl
  ·exact Aw rfl rfl <| fd rfl fld_116_5 rfl <| An rfl
  ·refine sN h rfl rfl agg_27 rfl rfl fun w25 h => fun a H => c_nil <| effQ.go0 [] H rfl rfl <| Stg.fin [] (by kernel_rfl) .nil ?_
   ·intro a H
    replace H := H.weaken (L' := [(0, (.pointer (some a10))), (7, (.pointer (some a18)))]) ⟨rfl, rfl, trivial⟩
    obtain ⟨N27, hc28, K29, hc30, D31, hc32, h⟩ := h
    refine hK13 _ _ <| sr fun K26 hK26 => ww H <| mv rfl rfl <| mv rfl rfl <| nl rfl rfl <| fd rfl fld_102_0 rfl <| lN (l := [(.i N27), (.i K29), (.i D31)]) rfl agg_35 rfl ⟨hc28, hc30, hc32, trivial⟩ rfl <| cl2 h body_64 rfl rfl eP fun N34 N35 w33 h => mv rfl rfl <| ex rfl rfl rfl <| ex rfl rfl rfl <| nl rfl rfl <| fd rfl fld_116_6 rfl <| st h rfl rfl one_114 rfl fun w36 w36S h => fun a H => ?_
    obtain ⟨l40, hc41, h⟩ := h
    exact nk hK26 <| sr fun K39 hK39 => ww H <| mv rfl rfl <| mv rfl rfl <| nl rfl rfl <| fd rfl fld_116_6 rfl <| ld rfl one_114 hc41 rfl <| cl1 h body_44 rfl rfl eP fun M43 w42 h => cl1 h body_48 rfl rfl eP fun r45 w44 h => ag rfl rfl <| fun a H => nk hK39 <| c_ret <| e_ret1 H rfl rfl h

theorem sim_code_Code_shaped (c1 : Option Addr) (d2 : Slc) (w : World) (Q : Ending → World → Prop) (h : vc_code_Code_shaped c1 d2 w Q) : Calls PP F_code_Code_shaped #[(.pointer c1), d2.v] w Q := by
 unfold vc_code_Code_shaped at h
 have eP {L : List (Nat × Value)} (c : List PanicEntry) (w' : World) (a : Act) (h : Q (.panicked c) w') (H : Has 18 [] a L) : bodyPost PP Tryz.f79 Q (.panic c) a w' := e_panic H h
 refine enter (n := 18) Tryz.func79 rfl rfl (le_ rfl) fun a H => sr fun K3 hK3 => ww H <| bx h rfl rfl rfl rfl fun b4 w5 n6 h => ag rfl rfl <| fun a H => nk hK3 <| c_seq fun K7 hK7 => ?_
 obtain ⟨R9, h, h27⟩ := h
 have h11 : ∀ (a : Act) (s8 : Bool) (w10 : World), R9 s8 w10 → Has 18 [] a [(4, (.bool s8))] → K7 a w10 := by
  clear h
  intro a s8 w10 h H
  replace h := h27 s8 w10 h
  exact hK7 _ _ <| c_ret <| e_ret1 H rfl rfl h
 clear h27
 replace H := H.weaken (L' := [(0, (.pointer c1)), (3, (.pointer (some (blk b4)))), (4, (.bool false))]) ⟨rfl, rfl, rfl, trivial⟩
 obtain ⟨l12, hc13, a14, h15, h⟩ := h
 revert H
 revert h
 subst h15
 intro h H
 obtain ⟨l16, hc17, h⟩ := h
 rcases Bool.eq_false_or_eq_true (decide ((l12.l : Int) = l16)) with h18 | h18
 ·replace h := h.1 h18
  obtain ⟨l19, hc20, h⟩ := h
  refine c_any (V := [(0, l12.v), (1, (.i (l12.l : Int))), (2, (.pointer (some a14))), (3, (.pointer (some a14))), (4, (.pointer (some (a14.add 2)))), (5, (.i l16)), (6, (.bool (decide ((l12.l : Int) = l16)))), (7, (.bool (decide ((l12.l : Int) = l16)))), (8, l19.v), (9, (.func (.func F_code_Code_shaped_c1) #[] #[(.pointer (some (blk b4)))]))]) (⟨[[], [0], [], [2], [3], [4], [1, 5], [6], [7], [7], [7, 8, 9], [7, 10], [7, 11], [0, 1, 2, 3, 4, 5, 6, 7, 8, 9, 10, 11, 12]], [some 5, some 6, some 7, some 8, some 9, some 10, some 11, some 12, some 13, some 14, some 15, some 16, some 17, some 4], [10], [0, 0, 0, 0, 0, 0, 0, 0, 0, 0, 0, 1, 1, 1], [0, 0, 0, 0, 0, 0, 0, 0, 0, 0, 1, 1, 1, 1]⟩ : Rg) [(0, (.pointer (some a14))), (3, (.pointer (some (blk b4)))), (4, (.bool false))] mixed (by kernel_rfl) H <| Stg.eff [0, 1, 2, 3, 4, 5, 6, 7, 8, 9] (by kernel_rfl) rfl (.cons ?_ (.cons ?_ (.cons ?_ (.cons ?_ (.cons ?_ (.cons ?_ (.cons ?_ (.cons ?_ (.cons ?_ (.cons ?_ .nil)))))))))) ?_
  ·exact Aw rfl rfl <| ld rfl one_22 hc13 rfl <| An rfl
  ·exact Aw rfl rfl <| bl (vs := [l12.v]) rfl rfl (fun cs => b_lenS (z := l12) sl_22) <| An rfl
  ·exact Aw rfl rfl <| mv rfl rfl <| An rfl
  ·exact Aw rfl rfl <| nl rfl rfl <| An rfl
  ·exact Aw rfl rfl <| fd rfl fld_107_2 rfl <| An rfl
  ·exact Aw rfl rfl <| ld rfl one_3 hc17 rfl <| An rfl
  ·exact Aw rfl rfl <| bn rfl rfl r_eql rfl <| An rfl
  ·exact Aw rfl rfl <| mv rfl rfl <| An rfl
  ·refine Ans.mk rfl rfl fun a H => ?_
   replace H := H.ch (t := 12) (b := true) rfl h18
   exact ww H <| gld rfl rfl rfl one_22 hc20 rfl <| fun a H => Ans.fin H rfl
  ·refine Ans.mk rfl rfl fun a H => ?_
   replace H := H.ch (t := 12) (b := true) rfl h18
   exact s_mkf H (wantG H rfl rfl) (H.args (vs := [(.pointer (some (blk b4)))]) rfl) (lt_ rfl) fun a H => Ans.fin H rfl
  ·intro a H
   replace H := H.weaken (L' := [(12, (.bool (decide ((l12.l : Int) = l16)))), (13, l19.v), (14, (.func (.func F_code_Code_shaped_c1) #[] #[(.pointer (some (blk b4)))]))]) ⟨rfl, rfl, rfl, trivial⟩
   replace H := H.ch (t := 12) (b := true) rfl h18
   refine s_call H (wantG H rfl rfl) body_111 (H.args (vs := [l19.v, (.func (.func F_code_Code_shaped_c1) #[] #[(.pointer (some (blk b4)))])]) rfl) (lt_ rfl) h ?_ (fun c w' => eP c w' _)
   clear H h a
   rintro _ w21 a ⟨r22, rfl, h⟩ H
   refine c_nil <| effQ.go [(11, (.bool (!r22))), (12, (.bool (!r22))), (13, (.bool (!r22)))] H rfl rfl <| Stg.fin [11, 12, 13] (by kernel_rfl) (.cons ?_ (.cons ?_ (.cons ?_ .nil))) ?_
   ·refine Ans.mk rfl rfl fun a H => ?_
    replace H := H.ch (t := 12) (b := true) rfl h18
    exact s_un H (wantG H rfl rfl) rfl r_not (lt_ rfl) fun a H => Ans.fin H rfl
   ·refine Ans.mk rfl rfl fun a H => ?_
    replace H := H.ch (t := 12) (b := true) rfl h18
    exact ww H <| pT rfl rfl rfl <| fun a H => Ans.fin H rfl
   ·exact Aw rfl rfl <| ag rfl rfl <| An rfl
   ·intro a H
    replace H := H.weaken (L' := [(4, (.bool (!r22)))]) ⟨rfl, trivial⟩
    exact h11 _ _ _ h (H.weaken ⟨rfl, trivial⟩)
 ·replace h := h.2 h18
  refine c_any (V := [(0, l12.v), (1, (.i (l12.l : Int))), (2, (.pointer (some a14))), (3, (.pointer (some a14))), (4, (.pointer (some (a14.add 2)))), (5, (.i l16)), (6, (.bool (decide ((l12.l : Int) = l16)))), (7, (.bool (decide ((l12.l : Int) = l16)))), (8, undef), (9, undef)]) (⟨[[], [0], [], [2], [3], [4], [1, 5], [6], [7], [7], [7, 8, 9], [7, 10], [7, 11], [0, 1, 2, 3, 4, 5, 6, 7, 8, 9, 10, 11, 12]], [some 5, some 6, some 7, some 8, some 9, some 10, some 11, some 12, some 13, some 14, some 15, some 16, some 17, some 4], [10], [0, 0, 0, 0, 0, 0, 0, 0, 0, 0, 0, 1, 1, 1], [0, 0, 0, 0, 0, 0, 0, 0, 0, 0, 1, 1, 1, 1]⟩ : Rg) [(0, (.pointer (some a14))), (3, (.pointer (some (blk b4)))), (4, (.bool false))] mixed (by kernel_rfl) H <| Stg.eff [0, 1, 2, 3, 4, 5, 6, 7, 8, 9] (by kernel_rfl) rfl (.cons ?_ (.cons ?_ (.cons ?_ (.cons ?_ (.cons ?_ (.cons ?_ (.cons ?_ (.cons ?_ (.cons ?_ (.cons ?_ .nil)))))))))) ?_
  ·exact Aw rfl rfl <| ld rfl one_22 hc13 rfl <| An rfl
  ·exact Aw rfl rfl <| bl (vs := [l12.v]) rfl rfl (fun cs => b_lenS (z := l12) sl_22) <| An rfl
  ·exact Aw rfl rfl <| mv rfl rfl <| An rfl
  ·exact Aw rfl rfl <| nl rfl rfl <| An rfl
  ·exact Aw rfl rfl <| fd rfl fld_107_2 rfl <| An rfl
  ·exact Aw rfl rfl <| ld rfl one_3 hc17 rfl <| An rfl
  ·exact Aw rfl rfl <| bn rfl rfl r_eql rfl <| An rfl
  ·exact Aw rfl rfl <| mv rfl rfl <| An rfl
  ·exact .skip rfl rfl rfl rfl rfl rfl h18 rfl
  ·exact .skip rfl rfl rfl rfl rfl rfl h18 rfl
  ·intro a H
   replace H := H.weaken (L' := [(12, (.bool (decide ((l12.l : Int) = l16)))), (13, undef), (14, undef)]) ⟨rfl, rfl, rfl, trivial⟩
   replace H := H.ch (t := 12) (b := false) rfl h18
   refine ww H <| sk rfl rfl rfl rfl <| fun a H => c_nil <| effQ.go [(11, undef), (12, (.bool false)), (13, (.bool false))] H rfl rfl <| Stg.fin [11, 12, 13] (by kernel_rfl) (.cons ?_ (.cons ?_ (.cons ?_ .nil))) ?_
   ·exact .skip rfl rfl rfl rfl rfl rfl h18 rfl
   ·refine Ans.mk rfl rfl fun a H => ?_
    replace H := H.ch (t := 12) (b := false) rfl h18
    exact ww H <| pF rfl rfl rfl <| fun a H => Ans.fin H rfl
   ·exact Aw rfl rfl <| ag rfl rfl <| An rfl
   ·intro a H
    replace H := H.weaken (L' := [(4, (.bool false))]) ⟨rfl, trivial⟩
    exact h11 _ _ _ h (H.weaken ⟨rfl, trivial⟩)

theorem sim_code_Code_sum (c1 : Option Addr) (f2 r3 : Slc) (w : World) (Q : Ending → World → Prop) (h : vc_code_Code_sum c1 f2 r3 w Q) : Calls PP F_code_Code_sum #[(.pointer c1), f2.v, r3.v] w Q := by
 unfold vc_code_Code_sum at h
 have eP {L : List (Nat × Value)} (c : List PanicEntry) (w' : World) (a : Act) (h : Q (.panicked c) w') (H : Has 35 [] a L) : bodyPost PP Tryz.f80 Q (.panic c) a w' := e_panic H h
 refine enter (n := 35) Tryz.func80 rfl rfl (le_ rfl) fun a H => ?_
 obtain ⟨a6, h7, h8, h9, h⟩ := h
 refine sr fun K4 hK4 => ww H <| ag rfl rfl <| fun a H => nk hK4 <| sr fun K5 hK5 => ww H <| mv rfl rfl <| fun a H => s_idxS (s := r3) H rfl rfl rfl slc_22 h7 h8 h9 (lt_ rfl) fun a H => ?_
 obtain ⟨l10, hc11, s12, w13, h14, h⟩ := h
 refine ww H <| ld rfl one_49 hc11 rfl <| bl (vs := [l10.v]) rfl rfl (fun cs => b_lenS (z := l10) sl_49) <| fun a H => s_mk H rfl rfl rfl h14 (lt_ rfl) ?_
 clear H a h14
 intro a H
 refine ww H <| ag rfl rfl <| fun a H => nk hK5 <| c_seq fun K15 hK15 => sr fun K16 hK16 => ww H <| mv rfl rfl <| bl (vs := [r3.v]) rfl rfl (fun cs => b_lenS (z := r3) sl_22) <| mv rfl rfl <| fun a H => nk hK16 <| c_block ?_
 obtain ⟨I19, m20, h49, h50⟩ := h
 refine c_loop (σ := Int) (fun z w => I19 z w) (fun z w => m20 z w) (fun z => [(0, (.pointer c1)), (1, f2.v), (7, s12.v), (15, r3.v), (16, (.i (r3.l : Int))), (17, (.i z))]) 0 h49 (H.weaken ⟨rfl, rfl, rfl, rfl, rfl, rfl, trivial⟩) ?_
 clear H h49
 rintro s17 a w18 h H
 replace h := h50 s17 w18 h
 clear h50
 replace H : Has 35 [] a [(0, (.pointer c1)), (1, f2.v), (7, s12.v), (15, r3.v), (16, (.i (r3.l : Int))), (17, (.i s17))] := H
 refine sr fun K21 hK21 => ww H <| bn rfl rfl r_lss rfl <| fun a H => nk hK21 <| c_seq fun K22 hK22 => cd H rfl h (fun h23 h => ?_) (fun h23 h => ?_)
 ·obtain ⟨a26, h27, h28, h29, h⟩ := h
  refine c_skip <| hK22 _ _ <| c_seq fun K24 hK24 => c_block <| sr fun K25 hK25 => ww H <| mv rfl rfl <| fun a H => s_idxS (s := r3) H rfl rfl rfl slc_22 h27 h28 h29 (lt_ rfl) fun a H => ?_
  obtain ⟨l30, hc31, h⟩ := h
  refine ww H <| ld rfl one_49 hc31 rfl <| ag rfl rfl <| ag rfl rfl <| fun a H => nk hK25 <| ?_
  replace H := H.weaken (L' := [(0, (.pointer c1)), (1, f2.v), (7, s12.v), (8, (.i s17)), (9, l30.v), (15, r3.v), (16, (.i (r3.l : Int))), (17, (.i s17))]) ⟨rfl, rfl, rfl, rfl, rfl, rfl, rfl, rfl, trivial⟩
  obtain ⟨a32, h33, h⟩ := h
  revert H
  revert h
  subst h33
  intro h H
  obtain ⟨l34, hc35, a36, h37, h38, h39, l40, hc41, h⟩ := h
  refine c_any (V := [(0, (.pointer (some a32))), (1, (.pointer (some a32))), (2, (.pointer (some (a32.add 0)))), (3, (.pointer l34)), (4, s12.v), (5, f2.v), (6, (.i s17)), (7, (.pointer (some (a36.add (Int.toNat (s17) * 1))))), (8, (.int .u8 l40)), (9, l30.v)]) (⟨[[], [0], [1], [2], [], [], [], [5, 6], [7], [], [3, 4, 8, 9]], [some 22, some 23, some 24, some 25, some 26, some 27, some 28, some 29, some 30, some 31, some 32], [10], [0, 0, 0, 0, 0, 0, 0, 0, 0, 0, 0], [0, 0, 0, 0, 0, 0, 0, 0, 0, 0, 1]⟩ : Rg) [(0, (.pointer (some a32))), (1, f2.v), (7, s12.v), (8, (.i s17)), (9, l30.v), (15, r3.v), (16, (.i (r3.l : Int))), (17, (.i s17))] mixed (by kernel_rfl) H <| Stg.eff [0, 1, 2, 3, 4, 5, 6, 7, 8, 9] (by kernel_rfl) rfl (.cons ?_ (.cons ?_ (.cons ?_ (.cons ?_ (.cons ?_ (.cons ?_ (.cons ?_ (.cons ?_ (.cons ?_ (.cons ?_ .nil)))))))))) ?_
  ·exact Aw rfl rfl <| mv rfl rfl <| An rfl
  ·exact Aw rfl rfl <| nl rfl rfl <| An rfl
  ·exact Aw rfl rfl <| fd rfl fld_107_0 rfl <| An rfl
  ·exact Aw rfl rfl <| ld rfl one_103 hc35 rfl <| An rfl
  ·exact Aw rfl rfl <| mv rfl rfl <| An rfl
  ·exact Aw rfl rfl <| mv rfl rfl <| An rfl
  ·exact Aw rfl rfl <| mv rfl rfl <| An rfl
  ·exact Ans.mk rfl rfl fun a H => s_idxS (s := f2) H rfl rfl rfl slc_49 h37 h38 h39 (lt_ rfl) fun a H => Ans.fin H rfl
  ·exact Aw rfl rfl <| ld rfl one_5 hc41 rfl <| An rfl
  ·exact Aw rfl rfl <| mv rfl rfl <| An rfl
  ·refine cl1 h body_110 rfl rfl eP fun A43 w42 h => fun a H => c_nil <| effQ.go [] H rfl rfl <| Stg.fin [] (by kernel_rfl) .nil ?_
   ·intro a H
    replace H := H.weaken (L' := [(0, (.pointer (some a32))), (1, f2.v), (7, s12.v), (15, r3.v), (16, (.i (r3.l : Int))), (17, (.i s17))]) ⟨rfl, rfl, rfl, rfl, rfl, rfl, trivial⟩
    refine hK24 _ _ <| c_reg <| ww H <| bn rfl rfl r_add rfl <| mv rfl rfl <| fun a H => c_nil <| Exists.intro (wr .i64 (s17 + 1)) ⟨h.1, h.2, H.weaken ⟨rfl, rfl, rfl, rfl, rfl, rfl, trivial⟩⟩
 ·refine c_exit ?_
  first | (simp only [Exit.then, Exit.inBlock, ↓reduceIte]; fail_if_success simp only [Nat.reduceEqDiff]) | simp only [Exit.then, Exit.inBlock, ↓reduceIte, Nat.reduceEqDiff]
  exact hK15 _ _ <| sr fun K48 hK48 => ww H <| mv rfl rfl <| ag rfl rfl <| fun a H => nk hK48 <| c_ret <| e_ret1 H rfl rfl h

theorem sim_stripe_size (l1 k2 : Int) (w : World) (Q : Ending → World → Prop) (h : vc_stripe_size l1 k2 w Q) : Calls PP F_stripe_size #[(.i l1), (.i k2)] w Q := by
 unfold vc_stripe_size at h
 refine enter (n := 12) Tryz.func81 rfl rfl (le_ rfl) fun a H => ?_
 obtain ⟨h5, h⟩ := h
 exact sr fun K3 hK3 => ww H <| ag rfl rfl <| fun a H => nk hK3 <| sr fun K4 hK4 => ww H <| mv rfl rfl <| bn rfl rfl r_add rfl <| mv rfl rfl <| bn rfl rfl r_add rfl <| bn rfl rfl r_sub rfl <| mv rfl rfl <| bn rfl rfl (r_quo h5) rfl <| ag rfl rfl <| fun a H => nk hK4 <| c_ret <| e_ret1 H rfl rfl h

theorem sim_stripe_Cut (c1 : Option Addr) (v2 : Slc) (i3 : Int) (w : World) (Q : Ending → World → Prop) (h : vc_stripe_Cut c1 v2 i3 w Q) : Calls PP F_stripe_Cut #[(.pointer c1), v2.v, (.i i3)] w Q := by
 unfold vc_stripe_Cut at h
 have eP {L : List (Nat × Value)} (c : List PanicEntry) (w' : World) (a : Act) (h : Q (.panicked c) w') (H : Has 22 [] a L) : bodyPost PP Tryz.f85 Q (.panic c) a w' := e_panic H h
 refine enter (n := 22) Tryz.func85 rfl rfl (le_ rfl) fun a H => sr fun K4 hK4 => ww H <| ag rfl rfl <| ag rfl rfl <| fun a H => nk hK4 <| c_seq fun K5 hK5 => sr fun K6 hK6 => ww H <| mv rfl rfl <| bn rfl rfl (r_eqP0 ptr_42) rfl <| fun a H => nk hK6 <| cd H rfl h (fun h7 h => ?_) (fun h7 h => ?_)
 ·exact sr fun K8 hK8 => ww H <| ag rfl rfl <| ag rfl rfl <| fun a H => nk hK8 <| c_ret <| e_ret2 H rfl rfl rfl h
 ·refine c_skip <| hK5 _ _ <| c_seq fun K9 hK9 => sr fun K10 hK10 => ww H <| mv rfl rfl <| bl (vs := [v2.v]) rfl rfl (fun cs => b_lenS (z := v2) sl_49) <| bn rfl rfl r_gtr rfl <| fun a H => nk hK10 <| cd H rfl h (fun h11 h => ?_) (fun h11 h => ?_)
  ·exact sr fun K12 hK12 => ww H <| ag rfl rfl <| ag rfl rfl <| fun a H => nk hK12 <| c_ret <| e_ret2 H rfl rfl rfl h
  ·exact c_skip <| hK9 _ _ <| sr fun K13 hK13 => ww H <| mv rfl rfl <| mv rfl rfl <| mv rfl rfl <| cl1 h body_43 rfl rfl eP fun K15 w14 h => cl1 h body_42 rfl rfl eP fun c17 w16 h => mv rfl rfl <| cl2 h body_124 rfl rfl eP fun R19 R20 w18 h => ex rfl rfl rfl <| ex rfl rfl rfl <| ag rfl rfl <| ag rfl rfl <| fun a H => nk hK13 <| c_ret <| e_ret2 H rfl rfl rfl h

theorem sim_slices_MaxFunc (x1 : Slc) (c2 : Value) (w : World) (Q : Ending → World → Prop) (h : vc_slices_MaxFunc x1 c2 w Q) : Calls PP F_slices_MaxFunc #[x1.v, c2] w Q := by
 unfold vc_slices_MaxFunc at h
 have eP {L : List (Nat × Value)} (c : List PanicEntry) (w' : World) (a : Act) (h : Q (.panicked c) w') (H : Has 33 [] a L) : bodyPost PP Tryz.f86 Q (.panic c) a w' := e_panic H h
 refine enter (n := 33) Tryz.func86 rfl rfl (le_ rfl) fun a H => sr fun K3 hK3 => ww H <| al h zero_27 rfl rfl rfl fun b4 w5 n6 h => fun a H => nk hK3 <| c_seq fun K7 hK7 => ?_
 obtain ⟨R8, h, h80⟩ := h
 have h77 : ∀ (a : Act) (w9 : World), R8 w9 → Has 33 [] a [(0, x1.v), (1, c2), (4, (.pointer (some (blk b4))))] → K7 a w9 := by
  clear h
  intro a w9 h H
  replace h := h80 w9 h
  obtain ⟨a11, h12, h13, h14, h⟩ := h
  refine hK7 _ _ <| sr fun K10 hK10 => ww H <| mv rfl rfl <| fun a H => s_idxS (s := x1) H rfl rfl rfl slc_174 h12 h13 h14 (lt_ rfl) fun a H => ?_
  obtain ⟨C15, hc16, C17, hc18, h⟩ := h
  refine ww H <| lN (l := [(.i C15), (.i C17)]) rfl agg_27 rfl ⟨hc16, hc18, trivial⟩ rfl <| al h zero_27 rfl rfl rfl fun b19 w20 n21 h => sN h rfl rfl agg_27 rfl rfl fun w22 h => fun a H => nk hK10 <| c_seq fun K23 hK23 => sr fun K24 hK24 => ww H <| ag rfl rfl <| fun a H => nk hK24 <| c_block ?_
  obtain ⟨I27, m28, h75, h76⟩ := h
  refine c_loop (σ := Int) (fun z w => I27 z w) (fun z w => m28 z w) (fun z => [(0, x1.v), (1, c2), (4, (.pointer (some (blk b4)))), (5, (.pointer (some (blk b19)))), (6, (.i z))]) 1 h75 (H.weaken ⟨rfl, rfl, rfl, rfl, rfl, trivial⟩) ?_
  clear H h75
  rintro i25 a w26 h H
  replace h := h76 i25 w26 h
  clear h76
  replace H : Has 33 [] a [(0, x1.v), (1, c2), (4, (.pointer (some (blk b4)))), (5, (.pointer (some (blk b19)))), (6, (.i i25))] := H
  refine c_seq fun K29 hK29 => sr fun K30 hK30 => ww H <| mv rfl rfl <| mv rfl rfl <| bl (vs := [x1.v]) rfl rfl (fun cs => b_lenS (z := x1) sl_174) <| bn rfl rfl r_lss rfl <| fun a H => nk hK30 <| cd H rfl h (fun h31 h => ?_) (fun h31 h => ?_)
  ·refine c_skip <| hK29 _ _ <| c_seq fun K32 hK32 => ?_
   obtain ⟨R33, h, h64⟩ := h
   have h35 : ∀ (a : Act) (w34 : World), R33 w34 → Has 33 [] a [(0, x1.v), (1, c2), (4, (.pointer (some (blk b4)))), (5, (.pointer (some (blk b19)))), (6, (.i i25))] → K32 a w34 := by
    clear h
    intro a w34 h H
    replace h := h64 w34 h
    refine hK32 _ _ <| c_reg <| ww H <| mv rfl rfl <| bn rfl rfl r_add rfl <| ag rfl rfl <| fun a H => c_nil <| Exists.intro (wr .i64 (i25 + 1)) ⟨h.1, h.2, H.weaken ⟨rfl, rfl, rfl, rfl, rfl, trivial⟩⟩
   clear h64
   refine c_block <| c_seq fun K36 hK36 => ?_
   replace H := H.weaken (L' := [(0, x1.v), (1, c2), (4, (.pointer (some (blk b4)))), (5, (.pointer (some (blk b19)))), (6, (.i i25))]) ⟨rfl, rfl, rfl, rfl, rfl, trivial⟩
   obtain ⟨a37, h38, h39, h40, C41, hc42, C43, hc44, C45, hc46, C47, hc48, h⟩ := h
   refine c_any (V := [(0, c2), (1, x1.v), (2, (.i i25)), (3, (.pointer (some (a37.add (Int.toNat (i25) * 2))))), (4, (.agg #[(.i C41), (.i C43)])), (5, (.agg #[(.i C45), (.i C47)]))]) (⟨[[], [], [], [1, 2], [3], [], [0, 4, 5], [6]], [some 20, some 21, some 22, some 23, some 24, some 25, some 26, some 27], [6], [0, 0, 0, 0, 0, 0, 0, 1], [0, 0, 0, 0, 0, 0, 1, 1]⟩ : Rg) [(0, x1.v), (1, c2), (4, (.pointer (some (blk b4)))), (5, (.pointer (some (blk b19)))), (6, (.i i25))] mixed (by kernel_rfl) H <| Stg.eff [0, 1, 2, 3, 4, 5] (by kernel_rfl) rfl (.cons ?_ (.cons ?_ (.cons ?_ (.cons ?_ (.cons ?_ (.cons ?_ .nil)))))) ?_
   ·exact Aw rfl rfl <| mv rfl rfl <| An rfl
   ·exact Aw rfl rfl <| mv rfl rfl <| An rfl
   ·exact Aw rfl rfl <| mv rfl rfl <| An rfl
   ·exact Ans.mk rfl rfl fun a H => s_idxS (s := x1) H rfl rfl rfl slc_174 h38 h39 h40 (lt_ rfl) fun a H => Ans.fin H rfl
   ·exact Aw rfl rfl <| lN (l := [(.i C41), (.i C43)]) rfl agg_27 rfl ⟨hc42, hc44, trivial⟩ rfl <| An rfl
   ·exact Aw rfl rfl <| lN (l := [(.i C45), (.i C47)]) rfl agg_27 rfl ⟨hc46, hc48, trivial⟩ rfl <| An rfl
   ·intro a H
    replace H := H.weaken (L' := [(20, c2), (24, (.agg #[(.i C41), (.i C43)])), (25, (.agg #[(.i C45), (.i C47)]))]) ⟨rfl, rfl, rfl, trivial⟩
    refine s_callV H rfl rfl (H.args (vs := [(.agg #[(.i C41), (.i C43)]), (.agg #[(.i C45), (.i C47)])]) rfl) (lt_ rfl) h ?_ (fun c w' => eP c w' _)
    clear H h a
    rintro _ w49 a ⟨r50, rfl, h⟩ H
    refine c_nil <| effQ.go [(7, (.bool (decide (0 < r50))))] H rfl rfl <| Stg.fin [7] (by kernel_rfl) (.cons ?_ .nil) ?_
    ·exact Aw rfl rfl <| bn rfl rfl r_gtr rfl <| An rfl
    ·intro a H
     replace H := H.weaken (L' := [(0, x1.v), (1, c2), (4, (.pointer (some (blk b4)))), (5, (.pointer (some (blk b19)))), (6, (.i i25)), (27, (.bool (decide (0 < r50))))]) ⟨rfl, rfl, rfl, rfl, rfl, rfl, trivial⟩
     refine hK36 _ _ <| cd H rfl h (fun h51 h => ?_) (fun h51 h => ?_)
     ·obtain ⟨a52, h53, h54, h55, h⟩ := h
      refine c_reg <| ww H <| mv rfl rfl <| mv rfl rfl <| fun a H => s_idxS (s := x1) H rfl rfl rfl slc_174 h53 h54 h55 (lt_ rfl) fun a H => ?_
      obtain ⟨C56, hc57, C58, hc59, h⟩ := h
      exact ww H <| lN (l := [(.i C56), (.i C58)]) rfl agg_27 rfl ⟨hc57, hc59, trivial⟩ rfl <| sN h rfl rfl agg_27 rfl rfl fun w60 h => fun a H => c_nil <| h35 _ _ h (H.weaken ⟨rfl, rfl, rfl, rfl, rfl, trivial⟩)
     ·exact c_skip <| h35 _ _ h (H.weaken ⟨rfl, rfl, rfl, rfl, rfl, trivial⟩)
  ·refine c_exit ?_
   first | (simp only [Exit.then, Exit.inBlock, ↓reduceIte]; fail_if_success simp only [Nat.reduceEqDiff]) | simp only [Exit.then, Exit.inBlock, ↓reduceIte, Nat.reduceEqDiff]
   obtain ⟨C66, hc67, C68, hc69, h⟩ := h
   refine hK23 _ _ <| sr fun K65 hK65 => ww H <| lN (l := [(.i C66), (.i C68)]) rfl agg_27 rfl ⟨hc67, hc69, trivial⟩ rfl <| sN h rfl rfl agg_27 rfl rfl fun w70 h => fun a H => nk hK65 <| c_ret ?_
   obtain ⟨C71, hc72, C73, hc74, h⟩ := h
   exact e_ret1 H rfl ⟨_, rfl, run_loadN (l := [(.i C71), (.i C73)]) agg_27 rfl ⟨hc72, hc74, trivial⟩⟩ h
 clear h80
 refine sr fun K78 hK78 => ww H <| mv rfl rfl <| bl (vs := [x1.v]) rfl rfl (fun cs => b_lenS (z := x1) sl_174) <| bn rfl rfl r_lss rfl <| fun a H => nk hK78 <| cd H rfl h (fun h79 h => ?_) (fun h79 h => ?_)
 ·exact c_reg <| s_iface H rfl rfl ni_9 (lt_ rfl) fun a H => s_panic H rfl rfl (fun H => e_panic (P := PP) (fn := Tryz.f86) H h)
 ·exact c_skip <| h77 _ _ h (H.weaken ⟨rfl, rfl, rfl, trivial⟩)

theorem sim_client_Client_chosen (c1 : Option Addr) (C2 C3 : Int) (w : World) (Q : Ending → World → Prop) (h : vc_client_Client_chosen c1 C2 C3 w Q) : Calls PP F_client_Client_chosen #[(.pointer c1), (.agg #[(.i C2), (.i C3)])] w Q := by
 unfold vc_client_Client_chosen at h
 have eP {L : List (Nat × Value)} (c : List PanicEntry) (w' : World) (a : Act) (h : Q (.panicked c) w') (H : Has 83 [] a L) : bodyPost PP Tryz.f87 Q (.panic c) a w' := e_panic H h
 refine enter (n := 83) Tryz.func87 rfl rfl (le_ rfl) fun a H => sr fun K4 hK4 => ww H <| bx h rfl rfl rfl rfl fun b5 w6 n7 h => ag rfl rfl <| al h zero_60 rfl rfl rfl fun b8 w9 n10 h => fun a H => ?_
 obtain ⟨a12, h221, h⟩ := h
 refine ww H <| ag rfl rfl <| fun a H => nk hK4 <| sr fun K11 hK11 => ww H <| mv rfl rfl <| fun a H => ?_
 revert H
 revert h
 subst h221
 intro h H
 obtain ⟨l13, hc14, a17, h220, h⟩ := h
 refine ww H <| nl rfl rfl <| fd rfl fld_102_5 rfl <| ld rfl one_100 hc14 rfl <| ag rfl rfl <| fun a H => nk hK11 <| c_seq fun K15 hK15 => sr fun K16 hK16 => ww H <| mv rfl rfl <| fun a H => ?_
 revert H
 revert h
 subst h220
 intro h H
 obtain ⟨l18, hc19, h⟩ := h
 refine ww H <| nl rfl rfl <| fd rfl fld_116_1 rfl <| ld rfl one_4 hc19 rfl <| fun a H => s_un H rfl rfl r_not (lt_ rfl) fun a H => nk hK16 <| cd H rfl h (fun h20 h => ?_) (fun h20 h => ?_)
 ·refine c_seq fun K21 hK21 => sr fun K22 hK22 => ww H <| lN (l := [(.i C2), (.i C3)]) rfl agg_27 rfl ⟨(n10.old (n7.cell (i := 0) rfl)), (n10.old (n7.cell (i := 1) rfl)), trivial⟩ rfl <| cl1 h body_39 rfl rfl eP fun Z24 w23 h => fun a H => nk hK22 <| cd H rfl h (fun h25 h => ?_) (fun h25 h => ?_)
  ·refine sr fun K26 hK26 => ww H <| mv rfl rfl <| fun a H => s_build H rfl (by rw [H.parts (vs := []) rfl]; exact bd_27 _) (lt_ rfl) fun a H => s_call H rfl body_89 (H.args (vs := [(.pointer (some a12)), (.i 76), (.agg #[(.i 0), (.i 0)]), Slc.nil.v]) rfl) (lt_ rfl) h ?_ (fun c w' => eP c w' _)
   clear H h a
   rintro _ w27 a ⟨O28, P29, S30, C31, C32, V33, e34, rfl, h⟩ H
   refine ww H <| mv rfl rfl <| ex rfl rfl rfl <| ex rfl rfl rfl <| al h zero_60 rfl rfl rfl fun b35 w36 n37 h => sN h rfl rfl agg_60 rfl rfl fun w38 h => ag rfl rfl <| fun a H => nk hK26 <| c_seq fun K39 hK39 => ?_
   replace H := H.weaken (L' := [(4, Slc.nil.v), (5, (.pointer (some (blk b8)))), (6, (.bool false)), (8, (.pointer (some (blk b35)))), (9, (.bool e34))]) ⟨rfl, rfl, rfl, rfl, rfl, trivial⟩
   obtain ⟨O40, hc41, P42, hc43, S44, hc45, C46, hc47, C48, hc49, V50, hc51, h⟩ := h
   refine c_any (V := [(0, (.agg #[(.i O40), (.bool P42), (.i S44), (.i C46), (.i C48), V50.v])), (1, (.bool e34)), (2, Slc.nil.v)]) (⟨[[], [], [], [0, 2], [0, 1, 2, 3]], [some 31, some 32, some 4, none, some 6], [3], [0, 0, 0, 0, 1], [0, 1, 0, 1, 1]⟩ : Rg) [(4, Slc.nil.v), (5, (.pointer (some (blk b8)))), (6, (.bool false)), (8, (.pointer (some (blk b35)))), (9, (.bool e34))] mixed (by kernel_rfl) H <| Stg.eff [0, 1, 2] (by kernel_rfl) rfl (.cons ?_ (.cons ?_ (.cons ?_ .nil))) ?_
   ·exact Aw rfl rfl <| lN (l := [(.i O40), (.bool P42), (.i S44), (.i C46), (.i C48), V50.v]) rfl agg_60 rfl ⟨hc41, hc43, hc45, hc47, hc49, hc51, trivial⟩ rfl <| An rfl
   ·exact Aw rfl rfl <| mv rfl rfl <| An rfl
   ·exact Aw rfl rfl <| ag rfl rfl <| An rfl
   ·refine sN h rfl rfl agg_60 rfl rfl fun w52 h => fun a H => c_nil <| effQ.go0 [(4, (.bool e34))] H rfl rfl <| Stg.fin [1, 4] (by kernel_rfl) (.cons ?_ (.cons ?_ .nil)) ?_
    ·exact Aw rfl rfl <| mv rfl rfl <| An rfl
    ·exact Aw rfl rfl <| ag rfl rfl <| An rfl
    ·intro a H
     replace H := H.weaken (L' := [(4, Slc.nil.v), (5, (.pointer (some (blk b8)))), (6, (.bool e34))]) ⟨rfl, rfl, rfl, trivial⟩
     refine hK39 _ _ <| c_ret ?_
     obtain ⟨O53, hc54, P55, hc56, S57, hc58, C59, hc60, C61, hc62, V63, hc64, h⟩ := h
     exact e_ret3 H rfl rfl ⟨_, rfl, run_loadN (l := [(.i O53), (.bool P55), (.i S57), (.i C59), (.i C61), V63.v]) agg_60 rfl ⟨hc54, hc56, hc58, hc60, hc62, hc64, trivial⟩⟩ rfl h
  ·refine c_skip <| hK21 _ _ <| sr fun K69 hK69 => ww H <| mv rfl rfl <| fun a H => s_build H rfl (by rw [H.parts (vs := []) rfl]; exact bd_121 _) (lt_ rfl) fun a H => s_iface H rfl rfl ni_121 (lt_ rfl) fun a H => ?_
   obtain ⟨C70, hc71, C72, hc73, h⟩ := h
   refine ww H <| lN (l := [(.i C70), (.i C72)]) rfl agg_27 rfl ⟨hc71, hc73, trivial⟩ rfl <| cl1 h body_78 rfl rfl eP fun e75 w74 h => fun a H => s_build H rfl (by rw [H.parts (vs := []) rfl]; exact bd_60 _) (lt_ rfl) fun a H => ww H <| ag rfl rfl <| sN h rfl rfl agg_60 rfl rfl fun w76 h => ag rfl rfl <| fun a H => nk hK69 <| c_ret ?_
   obtain ⟨O77, hc78, P79, hc80, S81, hc82, C83, hc84, C85, hc86, V87, hc88, h⟩ := h
   exact e_ret3 H rfl rfl ⟨_, rfl, run_loadN (l := [(.i O77), (.bool P79), (.i S81), (.i C83), (.i C85), V87.v]) agg_60 rfl ⟨hc78, hc80, hc82, hc84, hc86, hc88, trivial⟩⟩ rfl h
 ·refine c_skip <| hK15 _ _ <| c_seq fun K97 hK97 => ?_
  replace H := H.weaken (L' := [(0, (.pointer (some a12))), (3, (.pointer (some (blk b5)))), (5, (.pointer (some (blk b8)))), (7, (.pointer (some a17)))]) ⟨rfl, rfl, rfl, rfl, trivial⟩
  obtain ⟨C100, C102, l105, l108, l111, h⟩ := h
  obtain ⟨R98, h218, h104, h107, h110, h113, h212, h213, h214, h215, h216⟩ := h
  refine c_anyF (V := [(0, (.agg #[(.i C100), (.i C102)])), (1, (.pointer (some a12))), (2, (.pointer (some a12))), (3, (.pointer (some (a12.add 6)))), (4, (.map l105)), (5, (.pointer (some a17))), (6, (.pointer (some a17))), (7, (.pointer (some (a17.add 2)))), (8, (.string l108)), (10, (.pointer (some a12))), (11, (.pointer (some a12))), (12, (.pointer (some (a12.add 3)))), (13, (.i l111))]) 4 (⟨⟨[[], [], [1], [2], [3], [], [5], [6], [7], [4, 8], [], [10], [11], [12], [0, 9, 13], [14], [15], [15], [], [0, 1, 2, 3, 4, 5, 6, 7, 8, 9, 10, 11, 12, 13, 14, 15, 16, 18], [0, 1, 2, 3, 4, 5, 6, 7, 8, 9, 10, 11, 12, 13, 14, 15, 16, 17, 18, 19]], [some 40, some 41, some 42, some 43, some 44, some 45, some 46, some 47, some 48, some 49, some 50, some 51, some 52, some 53, some 54, some 39, some 55, some 56, some 10, none, some 11], [9, 14, 18, 19], [], []⟩, [[], [], [], [], [], [], [], [], [], [], [], [], [], [], [9], [9, 14], [9, 14], [9, 14], [], [9, 14, 18], [9, 14, 18, 19]], [[14, 19], [9, 14, 19], [9, 14, 19], [9, 14, 19], [9, 14, 19], [9, 14, 19], [9, 14, 19], [9, 14, 19], [9, 14, 19], [14, 19], [14, 19], [14, 19], [14, 19], [14, 19], [19], [19], [19], [], [19], [], []]⟩ : Rh) [(0, (.pointer (some a12))), (3, (.pointer (some (blk b5)))), (5, (.pointer (some (blk b8)))), (7, (.pointer (some a17)))] mixed (by kernel_rfl) H fun F219 h217 => ?_
  clear H a
  have st_9_14_18_19 : ∀ (m114 : Int) (C118 : Int) (C119 : Int) (N120 : Int) (b125 : Nat) (w99 : World), R98 (some m114) (some (C118, C119, N120)) (some b125) (some ()) w99 → F219 0 [9, 14, 18, 19] [(0, (.agg #[(.i C100), (.i C102)])), (1, (.pointer (some a12))), (2, (.pointer (some a12))), (3, (.pointer (some (a12.add 6)))), (4, (.map l105)), (5, (.pointer (some a17))), (6, (.pointer (some a17))), (7, (.pointer (some (a17.add 2)))), (8, (.string l108)), (9, (.i m114)), (10, (.pointer (some a12))), (11, (.pointer (some a12))), (12, (.pointer (some (a12.add 3)))), (13, (.i l111)), (14, (.tuple #[(.agg #[(.i C118), (.i C119)]), (.i N120)])), (15, (.tuple #[(.agg #[(.i C118), (.i C119)]), (.i N120)])), (16, (.agg #[(.i C118), (.i C119)])), (17, (.i N120)), (18, (.pointer (some (blk b125)))), (19, undef), (20, (.i N120))] w99 := by
   intro m114 C118 C119 N120 b125 w99 hr
   rw [h217]
   refine StT.last [17, 20] (by kernel_rfl) (by kernel_rfl) (.cons ?_ (.cons ?_ .nil)) ?_
   ·refine Ans.mk rfl rfl fun a H => ?_
    replace H := H.weaken (L' := [(39, (.tuple #[(.agg #[(.i C118), (.i C119)]), (.i N120)]))]) ⟨rfl, trivial⟩
    refine ww H <| ex rfl rfl rfl <| fun a H => c_nil ⟨rfl, rfl, H.weaken (L' := [(56, (.i N120))]) ⟨rfl, trivial⟩⟩
   ·refine Ans.mk rfl rfl fun a H => ?_
    replace H := H.weaken (L' := [(56, (.i N120))]) ⟨rfl, trivial⟩
    refine ww H <| ag rfl rfl <| fun a H => c_nil ⟨rfl, rfl, H.weaken (L' := [(11, (.i N120))]) ⟨rfl, trivial⟩⟩
   ·intro a H
    have h := h216 m114 C118 C119 N120 b125 w99 hr
    replace H := H.weaken (L' := [(0, (.pointer (some a12))), (5, (.pointer (some (blk b8)))), (7, (.pointer (some a17))), (10, (.pointer (some (blk b125)))), (11, (.i N120))]) ⟨rfl, rfl, rfl, rfl, rfl, trivial⟩
    refine hK97 _ _ <| c_seq fun K133 hK133 => sr fun K134 hK134 => ww H <| mv rfl rfl <| bn rfl rfl r_neq rfl <| fun a H => nk hK134 <| cd H rfl h (fun h135 h => ?_) (fun h135 h => ?_)
    ·refine sr fun K136 hK136 => ww H <| mv rfl rfl <| fun a H => s_build H rfl (by rw [H.parts (vs := []) rfl]; exact bd_27 _) (lt_ rfl) fun a H => s_call H rfl body_89 (H.args (vs := [(.pointer (some a12)), (.i 42), (.agg #[(.i 0), (.i 0)]), Slc.nil.v]) rfl) (lt_ rfl) h ?_ (fun c w' => eP c w' _)
     clear H h a
     rintro _ w137 a ⟨O138, P139, S140, C141, C142, V143, e144, rfl, h⟩ H
     refine ww H <| mv rfl rfl <| ex rfl rfl rfl <| ex rfl rfl rfl <| al h zero_60 rfl rfl rfl fun b145 w146 n147 h => sN h rfl rfl agg_60 rfl rfl fun w148 h => ag rfl rfl <| fun a H => nk hK136 <| c_seq fun K149 hK149 => ?_
     replace H := H.weaken (L' := [(5, (.pointer (some (blk b8)))), (12, (.pointer (some (blk b145)))), (13, (.bool e144))]) ⟨rfl, rfl, rfl, trivial⟩
     obtain ⟨O150, hc151, P152, hc153, S154, hc155, C156, hc157, C158, hc159, V160, hc161, h⟩ := h
     refine c_any (V := [(0, (.agg #[(.i O150), (.bool P152), (.i S154), (.i C156), (.i C158), V160.v])), (1, (.bool e144)), (2, Slc.nil.v)]) (⟨[[], [], [], [0, 2], [0, 1, 2, 3]], [some 65, some 66, some 4, none, some 6], [3], [0, 0, 0, 0, 1], [0, 1, 0, 1, 1]⟩ : Rg) [(5, (.pointer (some (blk b8)))), (12, (.pointer (some (blk b145)))), (13, (.bool e144))] mixed (by kernel_rfl) H <| Stg.eff [0, 1, 2] (by kernel_rfl) rfl (.cons ?_ (.cons ?_ (.cons ?_ .nil))) ?_
     ·exact Aw rfl rfl <| lN (l := [(.i O150), (.bool P152), (.i S154), (.i C156), (.i C158), V160.v]) rfl agg_60 rfl ⟨hc151, hc153, hc155, hc157, hc159, hc161, trivial⟩ rfl <| An rfl
     ·exact Aw rfl rfl <| mv rfl rfl <| An rfl
     ·exact Aw rfl rfl <| ag rfl rfl <| An rfl
     ·refine sN h rfl rfl agg_60 rfl rfl fun w162 h => fun a H => c_nil <| effQ.go0 [(4, (.bool e144))] H rfl rfl <| Stg.fin [1, 4] (by kernel_rfl) (.cons ?_ (.cons ?_ .nil)) ?_
      ·exact Aw rfl rfl <| mv rfl rfl <| An rfl
      ·exact Aw rfl rfl <| ag rfl rfl <| An rfl
      ·intro a H
       replace H := H.weaken (L' := [(4, Slc.nil.v), (5, (.pointer (some (blk b8)))), (6, (.bool e144))]) ⟨rfl, rfl, rfl, trivial⟩
       refine hK149 _ _ <| c_ret ?_
       obtain ⟨O163, hc164, P165, hc166, S167, hc168, C169, hc170, C171, hc172, V173, hc174, h⟩ := h
       exact e_ret3 H rfl rfl ⟨_, rfl, run_loadN (l := [(.i O163), (.bool P165), (.i S167), (.i C169), (.i C171), V173.v]) agg_60 rfl ⟨hc164, hc166, hc168, hc170, hc172, hc174, trivial⟩⟩ rfl h
    ·refine c_skip <| hK133 _ _ <| c_seq fun K179 hK179 => ?_
     replace H := H.weaken (L' := [(0, (.pointer (some a12))), (5, (.pointer (some (blk b8)))), (7, (.pointer (some a17))), (10, (.pointer (some (blk b125))))]) ⟨rfl, rfl, rfl, rfl, trivial⟩
     obtain ⟨l180, hc181, l182, hc183, l184, hc185, h⟩ := h
     refine c_any (V := [(0, (.pointer (some a12))), (1, (.pointer (some a12))), (2, (.pointer (some (a12.add 6)))), (3, (.map l180)), (4, (.pointer (some a17))), (5, (.pointer (some a17))), (6, (.pointer (some (a17.add 2)))), (7, (.string l182)), (8, (.pointer (some ((blk b125).add 0)))), (9, (.i l184))]) (⟨[[], [0], [1], [2], [], [4], [5], [6], [], [8], [0, 1, 2, 3, 4, 5, 6, 7, 8, 9]], [some 67, some 68, some 69, some 70, some 71, some 72, some 73, some 74, some 75, some 76, none], [10], [0, 0, 0, 0, 0, 0, 0, 0, 0, 0, 0], [0, 0, 0, 0, 0, 0, 0, 0, 0, 0, 1]⟩ : Rg) [(0, (.pointer (some a12))), (5, (.pointer (some (blk b8)))), (7, (.pointer (some a17))), (10, (.pointer (some (blk b125))))] mixed (by kernel_rfl) H <| Stg.eff [0, 1, 2, 3, 4, 5, 6, 7, 8, 9] (by kernel_rfl) rfl (.cons ?_ (.cons ?_ (.cons ?_ (.cons ?_ (.cons ?_ (.cons ?_ (.cons ?_ (.cons ?_ (.cons ?_ (.cons ?_ .nil)))))))))) ?_
     ·exact Aw rfl rfl <| mv rfl rfl <| An rfl
     ·exact Aw rfl rfl <| nl rfl rfl <| An rfl
     ·exact Aw rfl rfl <| fd rfl fld_102_4 rfl <| An rfl
     ·exact Aw rfl rfl <| ld rfl one_99 hc181 rfl <| An rfl
     ·exact Aw rfl rfl <| mv rfl rfl <| An rfl
     ·exact Aw rfl rfl <| nl rfl rfl <| An rfl
     ·exact Aw rfl rfl <| fd rfl fld_116_2 rfl <| An rfl
     ·exact Aw rfl rfl <| ld rfl one_9 hc183 rfl <| An rfl
     ·exact Aw rfl rfl <| fd rfl fld_27_0 rfl <| An rfl
     ·exact Aw rfl rfl <| ld rfl one_2 hc185 rfl <| An rfl
     ·intro a H
      replace H := H.weaken (L' := [(70, (.map l180)), (74, (.string l182)), (76, (.i l184))]) ⟨rfl, rfl, rfl, trivial⟩
      obtain ⟨w186, h187, h⟩ := h
      refine s_mup H rfl rfl rfl rfl h187 ?_
      clear H h187
      intro H
      refine c_nil <| effQ.go0 [] H rfl rfl <| Stg.fin [] (by kernel_rfl) .nil ?_
      ·intro a H
       replace H := H.weaken (L' := [(0, (.pointer (some a12))), (5, (.pointer (some (blk b8)))), (10, (.pointer (some (blk b125))))]) ⟨rfl, rfl, rfl, trivial⟩
       refine hK179 _ _ <| sr fun K188 hK188 => ww H <| mv rfl rfl <| fun a H => s_build H rfl (by rw [H.parts (vs := []) rfl]; exact bd_170 _) (lt_ rfl) fun a H => s_iface H rfl rfl ni_170 (lt_ rfl) fun a H => ?_
       obtain ⟨C189, hc190, C191, hc192, h⟩ := h
       refine ww H <| lN (l := [(.i C189), (.i C191)]) rfl agg_27 rfl ⟨hc190, hc192, trivial⟩ rfl <| cl1 h body_78 rfl rfl eP fun e194 w193 h => fun a H => s_build H rfl (by rw [H.parts (vs := []) rfl]; exact bd_60 _) (lt_ rfl) fun a H => ww H <| ag rfl rfl <| sN h rfl rfl agg_60 rfl rfl fun w195 h => ag rfl rfl <| fun a H => nk hK188 <| c_ret ?_
       obtain ⟨O196, hc197, P198, hc199, S200, hc201, C202, hc203, C204, hc205, V206, hc207, h⟩ := h
       exact e_ret3 H rfl rfl ⟨_, rfl, run_loadN (l := [(.i O196), (.bool P198), (.i S200), (.i C202), (.i C204), V206.v]) agg_60 rfl ⟨hc197, hc199, hc201, hc203, hc205, hc207, trivial⟩⟩ rfl h
  have st_9_14_18 : ∀ (m114 : Int) (C118 : Int) (C119 : Int) (N120 : Int) (b125 : Nat) (w99 : World), R98 (some m114) (some (C118, C119, N120)) (some b125) none w99 → F219 1 [9, 14, 18] [(0, (.agg #[(.i C100), (.i C102)])), (1, (.pointer (some a12))), (2, (.pointer (some a12))), (3, (.pointer (some (a12.add 6)))), (4, (.map l105)), (5, (.pointer (some a17))), (6, (.pointer (some a17))), (7, (.pointer (some (a17.add 2)))), (8, (.string l108)), (9, (.i m114)), (10, (.pointer (some a12))), (11, (.pointer (some a12))), (12, (.pointer (some (a12.add 3)))), (13, (.i l111)), (14, (.tuple #[(.agg #[(.i C118), (.i C119)]), (.i N120)])), (15, (.tuple #[(.agg #[(.i C118), (.i C119)]), (.i N120)])), (16, (.agg #[(.i C118), (.i C119)])), (17, (.i N120)), (18, (.pointer (some (blk b125))))] w99 := by
   intro m114 C118 C119 N120 b125 w99 hr
   rw [h217]
   refine StT.more [15, 16, 17] [19] (by kernel_rfl) (by kernel_rfl) (by kernel_rfl) (.cons ?_ (.cons ?_ (.cons ?_ .nil))) (.cons ?_ .nil)
   ·refine Ans.mk rfl rfl fun a H => ?_
    replace H := H.weaken (L' := [(54, (.tuple #[(.agg #[(.i C118), (.i C119)]), (.i N120)]))]) ⟨rfl, trivial⟩
    refine ww H <| mv rfl rfl <| fun a H => c_nil ⟨rfl, rfl, H.weaken (L' := [(39, (.tuple #[(.agg #[(.i C118), (.i C119)]), (.i N120)]))]) ⟨rfl, trivial⟩⟩
   ·refine Ans.mk rfl rfl fun a H => ?_
    replace H := H.weaken (L' := [(39, (.tuple #[(.agg #[(.i C118), (.i C119)]), (.i N120)]))]) ⟨rfl, trivial⟩
    refine ww H <| ex rfl rfl rfl <| fun a H => c_nil ⟨rfl, rfl, H.weaken (L' := [(55, (.agg #[(.i C118), (.i C119)]))]) ⟨rfl, trivial⟩⟩
   ·refine Ans.mk rfl rfl fun a H => ?_
    replace H := H.weaken (L' := [(39, (.tuple #[(.agg #[(.i C118), (.i C119)]), (.i N120)]))]) ⟨rfl, trivial⟩
    refine ww H <| ex rfl rfl rfl <| fun a H => c_nil ⟨rfl, rfl, H.weaken (L' := [(56, (.i N120))]) ⟨rfl, trivial⟩⟩
   ·refine ⟨_, rfl, fun a H => ?_⟩
    replace H := H.weaken (L' := [(10, (.pointer (some (blk b125)))), (55, (.agg #[(.i C118), (.i C119)]))]) ⟨rfl, rfl, trivial⟩
    have h := h215 m114 C118 C119 N120 b125 w99 hr
    refine ww H <| sN h rfl rfl agg_27 rfl rfl fun w128 h => fun a H => c_nil <| effQ.ok (v := undef) (H.weaken (L' := []) trivial) ⟨[(0, (.agg #[(.i C100), (.i C102)])), (1, (.pointer (some a12))), (2, (.pointer (some a12))), (3, (.pointer (some (a12.add 6)))), (4, (.map l105)), (5, (.pointer (some a17))), (6, (.pointer (some a17))), (7, (.pointer (some (a17.add 2)))), (8, (.string l108)), (9, (.i m114)), (10, (.pointer (some a12))), (11, (.pointer (some a12))), (12, (.pointer (some (a12.add 3)))), (13, (.i l111)), (14, (.tuple #[(.agg #[(.i C118), (.i C119)]), (.i N120)])), (15, (.tuple #[(.agg #[(.i C118), (.i C119)]), (.i N120)])), (16, (.agg #[(.i C118), (.i C119)])), (17, (.i N120)), (18, (.pointer (some (blk b125)))), (19, undef), (20, (.i N120))], ⟨rfl, rfl, rfl, rfl, rfl, rfl, rfl, rfl, rfl, rfl, rfl, rfl, rfl, rfl, rfl, rfl, rfl, rfl, rfl, rfl, trivial⟩, ?_⟩
    have hx := st_9_14_18_19 m114 C118 C119 N120 b125 w128 h
    rw [h217] at hx
    exact hx
  have st_9_14 : ∀ (m114 : Int) (C118 : Int) (C119 : Int) (N120 : Int) (w99 : World), R98 (some m114) (some (C118, C119, N120)) none none w99 → F219 2 [9, 14] [(0, (.agg #[(.i C100), (.i C102)])), (1, (.pointer (some a12))), (2, (.pointer (some a12))), (3, (.pointer (some (a12.add 6)))), (4, (.map l105)), (5, (.pointer (some a17))), (6, (.pointer (some a17))), (7, (.pointer (some (a17.add 2)))), (8, (.string l108)), (9, (.i m114)), (10, (.pointer (some a12))), (11, (.pointer (some a12))), (12, (.pointer (some (a12.add 3)))), (13, (.i l111)), (14, (.tuple #[(.agg #[(.i C118), (.i C119)]), (.i N120)])), (15, (.tuple #[(.agg #[(.i C118), (.i C119)]), (.i N120)])), (16, (.agg #[(.i C118), (.i C119)])), (17, (.i N120))] w99 := by
   intro m114 C118 C119 N120 w99 hr
   rw [h217]
   refine StT.more [15, 16, 17] [18] (by kernel_rfl) (by kernel_rfl) (by kernel_rfl) (.cons ?_ (.cons ?_ (.cons ?_ .nil))) (.cons ?_ .nil)
   ·refine Ans.mk rfl rfl fun a H => ?_
    replace H := H.weaken (L' := [(54, (.tuple #[(.agg #[(.i C118), (.i C119)]), (.i N120)]))]) ⟨rfl, trivial⟩
    refine ww H <| mv rfl rfl <| fun a H => c_nil ⟨rfl, rfl, H.weaken (L' := [(39, (.tuple #[(.agg #[(.i C118), (.i C119)]), (.i N120)]))]) ⟨rfl, trivial⟩⟩
   ·refine Ans.mk rfl rfl fun a H => ?_
    replace H := H.weaken (L' := [(39, (.tuple #[(.agg #[(.i C118), (.i C119)]), (.i N120)]))]) ⟨rfl, trivial⟩
    refine ww H <| ex rfl rfl rfl <| fun a H => c_nil ⟨rfl, rfl, H.weaken (L' := [(55, (.agg #[(.i C118), (.i C119)]))]) ⟨rfl, trivial⟩⟩
   ·refine Ans.mk rfl rfl fun a H => ?_
    replace H := H.weaken (L' := [(39, (.tuple #[(.agg #[(.i C118), (.i C119)]), (.i N120)]))]) ⟨rfl, trivial⟩
    refine ww H <| ex rfl rfl rfl <| fun a H => c_nil ⟨rfl, rfl, H.weaken (L' := [(56, (.i N120))]) ⟨rfl, trivial⟩⟩
   ·refine ⟨_, rfl, fun a H => ?_⟩
    replace H := H.weaken (L' := []) trivial
    have h := h214 (some m114) (some (C118, C119, N120)) w99 hr
    refine ww H <| al h zero_27 rfl rfl rfl fun b125 w126 n127 h => fun a H => c_nil <| effQ.ok (v := (.pointer (some (blk b125)))) (H.weaken (L' := [(10, (.pointer (some (blk b125))))]) ⟨rfl, trivial⟩) ⟨[(0, (.agg #[(.i C100), (.i C102)])), (1, (.pointer (some a12))), (2, (.pointer (some a12))), (3, (.pointer (some (a12.add 6)))), (4, (.map l105)), (5, (.pointer (some a17))), (6, (.pointer (some a17))), (7, (.pointer (some (a17.add 2)))), (8, (.string l108)), (9, (.i m114)), (10, (.pointer (some a12))), (11, (.pointer (some a12))), (12, (.pointer (some (a12.add 3)))), (13, (.i l111)), (14, (.tuple #[(.agg #[(.i C118), (.i C119)]), (.i N120)])), (15, (.tuple #[(.agg #[(.i C118), (.i C119)]), (.i N120)])), (16, (.agg #[(.i C118), (.i C119)])), (17, (.i N120)), (18, (.pointer (some (blk b125))))], ⟨rfl, rfl, rfl, rfl, rfl, rfl, rfl, rfl, rfl, rfl, rfl, rfl, rfl, rfl, rfl, rfl, rfl, rfl, rfl, trivial⟩, ?_⟩
    have hx := st_9_14_18 m114 C118 C119 N120 b125 w126 h
    rw [h217] at hx
    exact hx
  have st_9_18 : ∀ (m114 : Int) (b125 : Nat) (w99 : World), R98 (some m114) none (some b125) none w99 → F219 2 [9, 18] [(0, (.agg #[(.i C100), (.i C102)])), (1, (.pointer (some a12))), (2, (.pointer (some a12))), (3, (.pointer (some (a12.add 6)))), (4, (.map l105)), (5, (.pointer (some a17))), (6, (.pointer (some a17))), (7, (.pointer (some (a17.add 2)))), (8, (.string l108)), (9, (.i m114)), (10, (.pointer (some a12))), (11, (.pointer (some a12))), (12, (.pointer (some (a12.add 3)))), (13, (.i l111)), (18, (.pointer (some (blk b125))))] w99 := by
   intro m114 b125 w99 hr
   rw [h217]
   refine StT.more [0, 10, 11, 12, 13] [14] (by kernel_rfl) (by kernel_rfl) (by kernel_rfl) (.cons ?_ (.cons ?_ (.cons ?_ (.cons ?_ (.cons ?_ .nil))))) (.cons ?_ .nil)
   ·refine Ans.mk rfl rfl fun a H => ?_
    replace H := H.weaken (L' := [(3, (.pointer (some (blk b5))))]) ⟨rfl, trivial⟩
    obtain ⟨hc101, hc103⟩ := h104 (some m114) (some b125) w99 hr
    refine ww H <| lN (l := [(.i C100), (.i C102)]) rfl agg_27 rfl ⟨hc101, hc103, trivial⟩ rfl <| fun a H => c_nil ⟨rfl, rfl, H.weaken (L' := [(40, (.agg #[(.i C100), (.i C102)]))]) ⟨rfl, trivial⟩⟩
   ·refine Ans.mk rfl rfl fun a H => ?_
    replace H := H.weaken (L' := [(0, (.pointer (some a12)))]) ⟨rfl, trivial⟩
    refine ww H <| mv rfl rfl <| fun a H => c_nil ⟨rfl, rfl, H.weaken (L' := [(50, (.pointer (some a12)))]) ⟨rfl, trivial⟩⟩
   ·refine Ans.mk rfl rfl fun a H => ?_
    replace H := H.weaken (L' := [(50, (.pointer (some a12)))]) ⟨rfl, trivial⟩
    refine ww H <| nl rfl rfl <| fun a H => c_nil ⟨rfl, rfl, H.weaken (L' := [(51, (.pointer (some a12)))]) ⟨rfl, trivial⟩⟩
   ·refine Ans.mk rfl rfl fun a H => ?_
    replace H := H.weaken (L' := [(51, (.pointer (some a12)))]) ⟨rfl, trivial⟩
    refine ww H <| fd rfl fld_102_1 rfl <| fun a H => c_nil ⟨rfl, rfl, H.weaken (L' := [(52, (.pointer (some (a12.add 3))))]) ⟨rfl, trivial⟩⟩
   ·refine Ans.mk rfl rfl fun a H => ?_
    replace H := H.weaken (L' := [(52, (.pointer (some (a12.add 3))))]) ⟨rfl, trivial⟩
    obtain hc112 := h113 (some m114) (some b125) w99 hr
    refine ww H <| ld rfl one_3 hc112 rfl <| fun a H => c_nil ⟨rfl, rfl, H.weaken (L' := [(53, (.i l111))]) ⟨rfl, trivial⟩⟩
   ·refine ⟨_, rfl, fun a H => ?_⟩
    replace H := H.weaken (L' := [(40, (.agg #[(.i C100), (.i C102)])), (49, (.i m114)), (53, (.i l111))]) ⟨rfl, rfl, rfl, trivial⟩
    have h := h213 m114 (some b125) w99 hr
    refine ww H <| cl3 h body_125 rfl rfl eP fun C118 C119 N120 w117 h => fun a H => c_nil <| effQ.ok (v := (.tuple #[(.agg #[(.i C118), (.i C119)]), (.i N120)])) (H.weaken (L' := [(54, (.tuple #[(.agg #[(.i C118), (.i C119)]), (.i N120)]))]) ⟨rfl, trivial⟩) ⟨[(0, (.agg #[(.i C100), (.i C102)])), (1, (.pointer (some a12))), (2, (.pointer (some a12))), (3, (.pointer (some (a12.add 6)))), (4, (.map l105)), (5, (.pointer (some a17))), (6, (.pointer (some a17))), (7, (.pointer (some (a17.add 2)))), (8, (.string l108)), (9, (.i m114)), (10, (.pointer (some a12))), (11, (.pointer (some a12))), (12, (.pointer (some (a12.add 3)))), (13, (.i l111)), (14, (.tuple #[(.agg #[(.i C118), (.i C119)]), (.i N120)])), (15, (.tuple #[(.agg #[(.i C118), (.i C119)]), (.i N120)])), (16, (.agg #[(.i C118), (.i C119)])), (17, (.i N120)), (18, (.pointer (some (blk b125))))], ⟨rfl, rfl, rfl, rfl, rfl, rfl, rfl, rfl, rfl, rfl, rfl, rfl, rfl, rfl, rfl, rfl, trivial⟩, ?_⟩
    have hx := st_9_14_18 m114 C118 C119 N120 b125 w117 h
    rw [h217] at hx
    exact hx
  have st_9 : ∀ (m114 : Int) (w99 : World), R98 (some m114) none none none w99 → F219 3 [9] [(0, (.agg #[(.i C100), (.i C102)])), (1, (.pointer (some a12))), (2, (.pointer (some a12))), (3, (.pointer (some (a12.add 6)))), (4, (.map l105)), (5, (.pointer (some a17))), (6, (.pointer (some a17))), (7, (.pointer (some (a17.add 2)))), (8, (.string l108)), (9, (.i m114)), (10, (.pointer (some a12))), (11, (.pointer (some a12))), (12, (.pointer (some (a12.add 3)))), (13, (.i l111))] w99 := by
   intro m114 w99 hr
   rw [h217]
   refine StT.more [0, 10, 11, 12, 13] [14, 18] (by kernel_rfl) (by kernel_rfl) (by kernel_rfl) (.cons ?_ (.cons ?_ (.cons ?_ (.cons ?_ (.cons ?_ .nil))))) (.cons ?_ (.cons ?_ .nil))
   ·refine Ans.mk rfl rfl fun a H => ?_
    replace H := H.weaken (L' := [(3, (.pointer (some (blk b5))))]) ⟨rfl, trivial⟩
    obtain ⟨hc101, hc103⟩ := h104 (some m114) none w99 hr
    refine ww H <| lN (l := [(.i C100), (.i C102)]) rfl agg_27 rfl ⟨hc101, hc103, trivial⟩ rfl <| fun a H => c_nil ⟨rfl, rfl, H.weaken (L' := [(40, (.agg #[(.i C100), (.i C102)]))]) ⟨rfl, trivial⟩⟩
   ·refine Ans.mk rfl rfl fun a H => ?_
    replace H := H.weaken (L' := [(0, (.pointer (some a12)))]) ⟨rfl, trivial⟩
    refine ww H <| mv rfl rfl <| fun a H => c_nil ⟨rfl, rfl, H.weaken (L' := [(50, (.pointer (some a12)))]) ⟨rfl, trivial⟩⟩
   ·refine Ans.mk rfl rfl fun a H => ?_
    replace H := H.weaken (L' := [(50, (.pointer (some a12)))]) ⟨rfl, trivial⟩
    refine ww H <| nl rfl rfl <| fun a H => c_nil ⟨rfl, rfl, H.weaken (L' := [(51, (.pointer (some a12)))]) ⟨rfl, trivial⟩⟩
   ·refine Ans.mk rfl rfl fun a H => ?_
    replace H := H.weaken (L' := [(51, (.pointer (some a12)))]) ⟨rfl, trivial⟩
    refine ww H <| fd rfl fld_102_1 rfl <| fun a H => c_nil ⟨rfl, rfl, H.weaken (L' := [(52, (.pointer (some (a12.add 3))))]) ⟨rfl, trivial⟩⟩
   ·refine Ans.mk rfl rfl fun a H => ?_
    replace H := H.weaken (L' := [(52, (.pointer (some (a12.add 3))))]) ⟨rfl, trivial⟩
    obtain hc112 := h113 (some m114) none w99 hr
    refine ww H <| ld rfl one_3 hc112 rfl <| fun a H => c_nil ⟨rfl, rfl, H.weaken (L' := [(53, (.i l111))]) ⟨rfl, trivial⟩⟩
   ·refine ⟨_, rfl, fun a H => ?_⟩
    replace H := H.weaken (L' := [(40, (.agg #[(.i C100), (.i C102)])), (49, (.i m114)), (53, (.i l111))]) ⟨rfl, rfl, rfl, trivial⟩
    have h := h213 m114 none w99 hr
    refine ww H <| cl3 h body_125 rfl rfl eP fun C118 C119 N120 w117 h => fun a H => c_nil <| effQ.ok (v := (.tuple #[(.agg #[(.i C118), (.i C119)]), (.i N120)])) (H.weaken (L' := [(54, (.tuple #[(.agg #[(.i C118), (.i C119)]), (.i N120)]))]) ⟨rfl, trivial⟩) ⟨[(0, (.agg #[(.i C100), (.i C102)])), (1, (.pointer (some a12))), (2, (.pointer (some a12))), (3, (.pointer (some (a12.add 6)))), (4, (.map l105)), (5, (.pointer (some a17))), (6, (.pointer (some a17))), (7, (.pointer (some (a17.add 2)))), (8, (.string l108)), (9, (.i m114)), (10, (.pointer (some a12))), (11, (.pointer (some a12))), (12, (.pointer (some (a12.add 3)))), (13, (.i l111)), (14, (.tuple #[(.agg #[(.i C118), (.i C119)]), (.i N120)])), (15, (.tuple #[(.agg #[(.i C118), (.i C119)]), (.i N120)])), (16, (.agg #[(.i C118), (.i C119)])), (17, (.i N120))], ⟨rfl, rfl, rfl, rfl, rfl, rfl, rfl, rfl, rfl, rfl, rfl, rfl, rfl, rfl, rfl, trivial⟩, ?_⟩
    have hx := st_9_14 m114 C118 C119 N120 w117 h
    rw [h217] at hx
    exact hx
   ·refine ⟨_, rfl, fun a H => ?_⟩
    replace H := H.weaken (L' := []) trivial
    have h := h214 (some m114) none w99 hr
    refine ww H <| al h zero_27 rfl rfl rfl fun b125 w126 n127 h => fun a H => c_nil <| effQ.ok (v := (.pointer (some (blk b125)))) (H.weaken (L' := [(10, (.pointer (some (blk b125))))]) ⟨rfl, trivial⟩) ⟨[(0, (.agg #[(.i C100), (.i C102)])), (1, (.pointer (some a12))), (2, (.pointer (some a12))), (3, (.pointer (some (a12.add 6)))), (4, (.map l105)), (5, (.pointer (some a17))), (6, (.pointer (some a17))), (7, (.pointer (some (a17.add 2)))), (8, (.string l108)), (9, (.i m114)), (10, (.pointer (some a12))), (11, (.pointer (some a12))), (12, (.pointer (some (a12.add 3)))), (13, (.i l111)), (18, (.pointer (some (blk b125))))], ⟨rfl, rfl, rfl, rfl, rfl, rfl, rfl, rfl, rfl, rfl, rfl, rfl, rfl, rfl, rfl, trivial⟩, ?_⟩
    have hx := st_9_18 m114 b125 w126 h
    rw [h217] at hx
    exact hx
  have st_18 : ∀ (b125 : Nat) (w99 : World), R98 none none (some b125) none w99 → F219 3 [18] [(0, (.agg #[(.i C100), (.i C102)])), (1, (.pointer (some a12))), (2, (.pointer (some a12))), (3, (.pointer (some (a12.add 6)))), (4, (.map l105)), (5, (.pointer (some a17))), (6, (.pointer (some a17))), (7, (.pointer (some (a17.add 2)))), (8, (.string l108)), (10, (.pointer (some a12))), (11, (.pointer (some a12))), (12, (.pointer (some (a12.add 3)))), (13, (.i l111)), (18, (.pointer (some (blk b125))))] w99 := by
   intro b125 w99 hr
   rw [h217]
   refine StT.more [0, 1, 2, 3, 4, 5, 6, 7, 8, 10, 11, 12, 13] [9] (by kernel_rfl) (by kernel_rfl) (by kernel_rfl) (.cons ?_ (.cons ?_ (.cons ?_ (.cons ?_ (.cons ?_ (.cons ?_ (.cons ?_ (.cons ?_ (.cons ?_ (.cons ?_ (.cons ?_ (.cons ?_ (.cons ?_ .nil))))))))))))) (.cons ?_ .nil)
   ·refine Ans.mk rfl rfl fun a H => ?_
    replace H := H.weaken (L' := [(3, (.pointer (some (blk b5))))]) ⟨rfl, trivial⟩
    obtain ⟨hc101, hc103⟩ := h104 none (some b125) w99 hr
    refine ww H <| lN (l := [(.i C100), (.i C102)]) rfl agg_27 rfl ⟨hc101, hc103, trivial⟩ rfl <| fun a H => c_nil ⟨rfl, rfl, H.weaken (L' := [(40, (.agg #[(.i C100), (.i C102)]))]) ⟨rfl, trivial⟩⟩
   ·refine Ans.mk rfl rfl fun a H => ?_
    replace H := H.weaken (L' := [(0, (.pointer (some a12)))]) ⟨rfl, trivial⟩
    refine ww H <| mv rfl rfl <| fun a H => c_nil ⟨rfl, rfl, H.weaken (L' := [(41, (.pointer (some a12)))]) ⟨rfl, trivial⟩⟩
   ·refine Ans.mk rfl rfl fun a H => ?_
    replace H := H.weaken (L' := [(41, (.pointer (some a12)))]) ⟨rfl, trivial⟩
    refine ww H <| nl rfl rfl <| fun a H => c_nil ⟨rfl, rfl, H.weaken (L' := [(42, (.pointer (some a12)))]) ⟨rfl, trivial⟩⟩
   ·refine Ans.mk rfl rfl fun a H => ?_
    replace H := H.weaken (L' := [(42, (.pointer (some a12)))]) ⟨rfl, trivial⟩
    refine ww H <| fd rfl fld_102_4 rfl <| fun a H => c_nil ⟨rfl, rfl, H.weaken (L' := [(43, (.pointer (some (a12.add 6))))]) ⟨rfl, trivial⟩⟩
   ·refine Ans.mk rfl rfl fun a H => ?_
    replace H := H.weaken (L' := [(43, (.pointer (some (a12.add 6))))]) ⟨rfl, trivial⟩
    obtain hc106 := h107 (some b125) w99 hr
    refine ww H <| ld rfl one_99 hc106 rfl <| fun a H => c_nil ⟨rfl, rfl, H.weaken (L' := [(44, (.map l105))]) ⟨rfl, trivial⟩⟩
   ·refine Ans.mk rfl rfl fun a H => ?_
    replace H := H.weaken (L' := [(7, (.pointer (some a17)))]) ⟨rfl, trivial⟩
    refine ww H <| mv rfl rfl <| fun a H => c_nil ⟨rfl, rfl, H.weaken (L' := [(45, (.pointer (some a17)))]) ⟨rfl, trivial⟩⟩
   ·refine Ans.mk rfl rfl fun a H => ?_
    replace H := H.weaken (L' := [(45, (.pointer (some a17)))]) ⟨rfl, trivial⟩
    refine ww H <| nl rfl rfl <| fun a H => c_nil ⟨rfl, rfl, H.weaken (L' := [(46, (.pointer (some a17)))]) ⟨rfl, trivial⟩⟩
   ·refine Ans.mk rfl rfl fun a H => ?_
    replace H := H.weaken (L' := [(46, (.pointer (some a17)))]) ⟨rfl, trivial⟩
    refine ww H <| fd rfl fld_116_2 rfl <| fun a H => c_nil ⟨rfl, rfl, H.weaken (L' := [(47, (.pointer (some (a17.add 2))))]) ⟨rfl, trivial⟩⟩
   ·refine Ans.mk rfl rfl fun a H => ?_
    replace H := H.weaken (L' := [(47, (.pointer (some (a17.add 2))))]) ⟨rfl, trivial⟩
    obtain hc109 := h110 (some b125) w99 hr
    refine ww H <| ld rfl one_9 hc109 rfl <| fun a H => c_nil ⟨rfl, rfl, H.weaken (L' := [(48, (.string l108))]) ⟨rfl, trivial⟩⟩
   ·refine Ans.mk rfl rfl fun a H => ?_
    replace H := H.weaken (L' := [(0, (.pointer (some a12)))]) ⟨rfl, trivial⟩
    refine ww H <| mv rfl rfl <| fun a H => c_nil ⟨rfl, rfl, H.weaken (L' := [(50, (.pointer (some a12)))]) ⟨rfl, trivial⟩⟩
   ·refine Ans.mk rfl rfl fun a H => ?_
    replace H := H.weaken (L' := [(50, (.pointer (some a12)))]) ⟨rfl, trivial⟩
    refine ww H <| nl rfl rfl <| fun a H => c_nil ⟨rfl, rfl, H.weaken (L' := [(51, (.pointer (some a12)))]) ⟨rfl, trivial⟩⟩
   ·refine Ans.mk rfl rfl fun a H => ?_
    replace H := H.weaken (L' := [(51, (.pointer (some a12)))]) ⟨rfl, trivial⟩
    refine ww H <| fd rfl fld_102_1 rfl <| fun a H => c_nil ⟨rfl, rfl, H.weaken (L' := [(52, (.pointer (some (a12.add 3))))]) ⟨rfl, trivial⟩⟩
   ·refine Ans.mk rfl rfl fun a H => ?_
    replace H := H.weaken (L' := [(52, (.pointer (some (a12.add 3))))]) ⟨rfl, trivial⟩
    obtain hc112 := h113 none (some b125) w99 hr
    refine ww H <| ld rfl one_3 hc112 rfl <| fun a H => c_nil ⟨rfl, rfl, H.weaken (L' := [(53, (.i l111))]) ⟨rfl, trivial⟩⟩
   ·refine ⟨_, rfl, fun a H => ?_⟩
    replace H := H.weaken (L' := [(44, (.map l105)), (48, (.string l108))]) ⟨rfl, rfl, trivial⟩
    have h := h212 (some b125) w99 hr
    obtain ⟨_, h116, m114, rfl, h⟩ := h
    refine s_lkp H rfl rfl rfl h116 (lt_ rfl) ?_
    clear H a h116
    intro a H
    refine c_nil <| effQ.ok (v := (.i m114)) (H.weaken (L' := [(49, (.i m114))]) ⟨rfl, trivial⟩) ⟨[(0, (.agg #[(.i C100), (.i C102)])), (1, (.pointer (some a12))), (2, (.pointer (some a12))), (3, (.pointer (some (a12.add 6)))), (4, (.map l105)), (5, (.pointer (some a17))), (6, (.pointer (some a17))), (7, (.pointer (some (a17.add 2)))), (8, (.string l108)), (9, (.i m114)), (10, (.pointer (some a12))), (11, (.pointer (some a12))), (12, (.pointer (some (a12.add 3)))), (13, (.i l111)), (18, (.pointer (some (blk b125))))], ⟨rfl, rfl, rfl, rfl, rfl, rfl, rfl, rfl, rfl, rfl, rfl, rfl, rfl, rfl, rfl, trivial⟩, ?_⟩
    have hx := st_9_18 m114 b125 w99 h
    rw [h217] at hx
    exact hx
  have st_ : ∀ (w99 : World), R98 none none none none w99 → F219 4 [] [(0, (.agg #[(.i C100), (.i C102)])), (1, (.pointer (some a12))), (2, (.pointer (some a12))), (3, (.pointer (some (a12.add 6)))), (4, (.map l105)), (5, (.pointer (some a17))), (6, (.pointer (some a17))), (7, (.pointer (some (a17.add 2)))), (8, (.string l108)), (10, (.pointer (some a12))), (11, (.pointer (some a12))), (12, (.pointer (some (a12.add 3)))), (13, (.i l111))] w99 := by
   intro w99 hr
   rw [h217]
   refine StT.more [0, 1, 2, 3, 4, 5, 6, 7, 8, 10, 11, 12, 13] [9, 18] (by kernel_rfl) (by kernel_rfl) (by kernel_rfl) (.cons ?_ (.cons ?_ (.cons ?_ (.cons ?_ (.cons ?_ (.cons ?_ (.cons ?_ (.cons ?_ (.cons ?_ (.cons ?_ (.cons ?_ (.cons ?_ (.cons ?_ .nil))))))))))))) (.cons ?_ (.cons ?_ .nil))
   ·refine Ans.mk rfl rfl fun a H => ?_
    replace H := H.weaken (L' := [(3, (.pointer (some (blk b5))))]) ⟨rfl, trivial⟩
    obtain ⟨hc101, hc103⟩ := h104 none none w99 hr
    refine ww H <| lN (l := [(.i C100), (.i C102)]) rfl agg_27 rfl ⟨hc101, hc103, trivial⟩ rfl <| fun a H => c_nil ⟨rfl, rfl, H.weaken (L' := [(40, (.agg #[(.i C100), (.i C102)]))]) ⟨rfl, trivial⟩⟩
   ·refine Ans.mk rfl rfl fun a H => ?_
    replace H := H.weaken (L' := [(0, (.pointer (some a12)))]) ⟨rfl, trivial⟩
    refine ww H <| mv rfl rfl <| fun a H => c_nil ⟨rfl, rfl, H.weaken (L' := [(41, (.pointer (some a12)))]) ⟨rfl, trivial⟩⟩
   ·refine Ans.mk rfl rfl fun a H => ?_
    replace H := H.weaken (L' := [(41, (.pointer (some a12)))]) ⟨rfl, trivial⟩
    refine ww H <| nl rfl rfl <| fun a H => c_nil ⟨rfl, rfl, H.weaken (L' := [(42, (.pointer (some a12)))]) ⟨rfl, trivial⟩⟩
   ·refine Ans.mk rfl rfl fun a H => ?_
    replace H := H.weaken (L' := [(42, (.pointer (some a12)))]) ⟨rfl, trivial⟩
    refine ww H <| fd rfl fld_102_4 rfl <| fun a H => c_nil ⟨rfl, rfl, H.weaken (L' := [(43, (.pointer (some (a12.add 6))))]) ⟨rfl, trivial⟩⟩
   ·refine Ans.mk rfl rfl fun a H => ?_
    replace H := H.weaken (L' := [(43, (.pointer (some (a12.add 6))))]) ⟨rfl, trivial⟩
    obtain hc106 := h107 none w99 hr
    refine ww H <| ld rfl one_99 hc106 rfl <| fun a H => c_nil ⟨rfl, rfl, H.weaken (L' := [(44, (.map l105))]) ⟨rfl, trivial⟩⟩
   ·refine Ans.mk rfl rfl fun a H => ?_
    replace H := H.weaken (L' := [(7, (.pointer (some a17)))]) ⟨rfl, trivial⟩
    refine ww H <| mv rfl rfl <| fun a H => c_nil ⟨rfl, rfl, H.weaken (L' := [(45, (.pointer (some a17)))]) ⟨rfl, trivial⟩⟩
   ·refine Ans.mk rfl rfl fun a H => ?_
    replace H := H.weaken (L' := [(45, (.pointer (some a17)))]) ⟨rfl, trivial⟩
    refine ww H <| nl rfl rfl <| fun a H => c_nil ⟨rfl, rfl, H.weaken (L' := [(46, (.pointer (some a17)))]) ⟨rfl, trivial⟩⟩
   ·refine Ans.mk rfl rfl fun a H => ?_
    replace H := H.weaken (L' := [(46, (.pointer (some a17)))]) ⟨rfl, trivial⟩
    refine ww H <| fd rfl fld_116_2 rfl <| fun a H => c_nil ⟨rfl, rfl, H.weaken (L' := [(47, (.pointer (some (a17.add 2))))]) ⟨rfl, trivial⟩⟩
   ·refine Ans.mk rfl rfl fun a H => ?_
    replace H := H.weaken (L' := [(47, (.pointer (some (a17.add 2))))]) ⟨rfl, trivial⟩
    obtain hc109 := h110 none w99 hr
    refine ww H <| ld rfl one_9 hc109 rfl <| fun a H => c_nil ⟨rfl, rfl, H.weaken (L' := [(48, (.string l108))]) ⟨rfl, trivial⟩⟩
   ·refine Ans.mk rfl rfl fun a H => ?_
    replace H := H.weaken (L' := [(0, (.pointer (some a12)))]) ⟨rfl, trivial⟩
    refine ww H <| mv rfl rfl <| fun a H => c_nil ⟨rfl, rfl, H.weaken (L' := [(50, (.pointer (some a12)))]) ⟨rfl, trivial⟩⟩
   ·refine Ans.mk rfl rfl fun a H => ?_
    replace H := H.weaken (L' := [(50, (.pointer (some a12)))]) ⟨rfl, trivial⟩
    refine ww H <| nl rfl rfl <| fun a H => c_nil ⟨rfl, rfl, H.weaken (L' := [(51, (.pointer (some a12)))]) ⟨rfl, trivial⟩⟩
   ·refine Ans.mk rfl rfl fun a H => ?_
    replace H := H.weaken (L' := [(51, (.pointer (some a12)))]) ⟨rfl, trivial⟩
    refine ww H <| fd rfl fld_102_1 rfl <| fun a H => c_nil ⟨rfl, rfl, H.weaken (L' := [(52, (.pointer (some (a12.add 3))))]) ⟨rfl, trivial⟩⟩
   ·refine Ans.mk rfl rfl fun a H => ?_
    replace H := H.weaken (L' := [(52, (.pointer (some (a12.add 3))))]) ⟨rfl, trivial⟩
    obtain hc112 := h113 none none w99 hr
    refine ww H <| ld rfl one_3 hc112 rfl <| fun a H => c_nil ⟨rfl, rfl, H.weaken (L' := [(53, (.i l111))]) ⟨rfl, trivial⟩⟩
   ·refine ⟨_, rfl, fun a H => ?_⟩
    replace H := H.weaken (L' := [(44, (.map l105)), (48, (.string l108))]) ⟨rfl, rfl, trivial⟩
    have h := h212 none w99 hr
    obtain ⟨_, h116, m114, rfl, h⟩ := h
    refine s_lkp H rfl rfl rfl h116 (lt_ rfl) ?_
    clear H a h116
    intro a H
    refine c_nil <| effQ.ok (v := (.i m114)) (H.weaken (L' := [(49, (.i m114))]) ⟨rfl, trivial⟩) ⟨[(0, (.agg #[(.i C100), (.i C102)])), (1, (.pointer (some a12))), (2, (.pointer (some a12))), (3, (.pointer (some (a12.add 6)))), (4, (.map l105)), (5, (.pointer (some a17))), (6, (.pointer (some a17))), (7, (.pointer (some (a17.add 2)))), (8, (.string l108)), (9, (.i m114)), (10, (.pointer (some a12))), (11, (.pointer (some a12))), (12, (.pointer (some (a12.add 3)))), (13, (.i l111))], ⟨rfl, rfl, rfl, rfl, rfl, rfl, rfl, rfl, rfl, rfl, rfl, rfl, rfl, rfl, trivial⟩, ?_⟩
    have hx := st_9 m114 w99 h
    rw [h217] at hx
    exact hx
   ·refine ⟨_, rfl, fun a H => ?_⟩
    replace H := H.weaken (L' := []) trivial
    have h := h214 none none w99 hr
    refine ww H <| al h zero_27 rfl rfl rfl fun b125 w126 n127 h => fun a H => c_nil <| effQ.ok (v := (.pointer (some (blk b125)))) (H.weaken (L' := [(10, (.pointer (some (blk b125))))]) ⟨rfl, trivial⟩) ⟨[(0, (.agg #[(.i C100), (.i C102)])), (1, (.pointer (some a12))), (2, (.pointer (some a12))), (3, (.pointer (some (a12.add 6)))), (4, (.map l105)), (5, (.pointer (some a17))), (6, (.pointer (some a17))), (7, (.pointer (some (a17.add 2)))), (8, (.string l108)), (10, (.pointer (some a12))), (11, (.pointer (some a12))), (12, (.pointer (some (a12.add 3)))), (13, (.i l111)), (18, (.pointer (some (blk b125))))], ⟨rfl, rfl, rfl, rfl, rfl, rfl, rfl, rfl, rfl, rfl, rfl, rfl, rfl, rfl, trivial⟩, ?_⟩
    have hx := st_18 b125 w126 h
    rw [h217] at hx
    exact hx
  exact st_ _ h218

theorem sim_client_operation_top (o1 : Option Addr) (w : World) (Q : Ending → World → Prop) (h : vc_client_operation_top o1 w Q) : Calls PP F_client_operation_top #[(.pointer o1)] w Q := by
 unfold vc_client_operation_top at h
 have eP {L : List (Nat × Value)} (c : List PanicEntry) (w' : World) (a : Act) (h : Q (.panicked c) w') (H : Has 11 [] a L) : bodyPost PP Tryz.f88 Q (.panic c) a w' := e_panic H h
 refine enter (n := 11) Tryz.func88 rfl rfl (le_ rfl) fun a H => sr fun K2 hK2 => ww H <| al h zero_27 rfl rfl rfl fun b3 w4 n5 h => fun a H => nk hK2 <| sr fun K6 hK6 => ww H <| al h zero_27 rfl rfl rfl fun b7 w8 n9 h => fun a H => ?_
 obtain ⟨a11, h29, h⟩ := h
 refine nk hK6 <| sr fun K10 hK10 => ww H <| mv rfl rfl <| fun a H => ?_
 revert H
 revert h
 subst h29
 intro h H
 obtain ⟨l12, hc13, h⟩ := h
 refine ww H <| nl rfl rfl <| fd rfl fld_116_6 rfl <| ld rfl one_114 hc13 rfl <| fun a H => s_mkf H rfl (H.args (vs := [(.pointer (some (blk b7)))]) rfl) (lt_ rfl) fun a H => s_call H rfl body_45 (H.args (vs := [(.pointer l12), (.func (.func F_client_operation_top_c1) #[] #[(.pointer (some (blk b7)))])]) rfl) (lt_ rfl) h ?_ (fun c w' => eP c w' _)
 clear H h a
 rintro _ w14 a ⟨rfl, h⟩ H
 obtain ⟨C16, hc17, C18, hc19, h⟩ := h
 refine nk hK10 <| sr fun K15 hK15 => ww H <| lN (l := [(.i C16), (.i C18)]) rfl agg_27 rfl ⟨hc17, hc19, trivial⟩ rfl <| sN h rfl rfl agg_27 rfl rfl fun w20 h => fun a H => nk hK15 <| c_ret ?_
 obtain ⟨C21, hc22, C23, hc24, h⟩ := h
 exact e_ret1 H rfl ⟨_, rfl, run_loadN (l := [(.i C21), (.i C23)]) agg_27 rfl ⟨hc22, hc24, trivial⟩⟩ h

theorem sim_client_Client_end (c1 : Option Addr) (s2 C3 C4 : Int) (v5 : Slc) (w : World) (Q : Ending → World → Prop) (h : vc_client_Client_end c1 s2 C3 C4 v5 w Q) : Calls PP F_client_Client_end #[(.pointer c1), (.i s2), (.agg #[(.i C3), (.i C4)]), v5.v] w Q := by
 unfold vc_client_Client_end at h
 refine enter (n := 30) Tryz.func89 rfl rfl (le_ rfl) fun a H => sr fun K6 hK6 => ww H <| bx h rfl rfl rfl rfl fun b7 w8 n9 h => al h zero_60 rfl rfl rfl fun b10 w11 n12 h => fun a H => ?_
 obtain ⟨a14, h45, h⟩ := h
 refine ww H <| ag rfl rfl <| fun a H => nk hK6 <| sr fun K13 hK13 => ww H <| mv rfl rfl <| fun a H => ?_
 revert H
 revert h
 subst h45
 intro h H
 obtain ⟨l15, hc16, h⟩ := h
 refine ww H <| nl rfl rfl <| fd rfl fld_102_5 rfl <| ld rfl one_100 hc16 rfl <| ag rfl rfl <| fun a H => nk hK13 <| sr fun K17 hK17 => ww H <| mv rfl rfl <| nl rfl rfl <| fd rfl fld_102_5 rfl <| st h rfl rfl one_100 rfl fun w18 w18S h => fun a H => nk hK17 <| c_seq fun K21 hK21 => ?_
 replace H := H.weaken (L' := [(1, (.i s2)), (3, v5.v), (6, (.pointer (some (blk b7)))), (8, (.pointer (some (blk b10)))), (9, (.bool false)), (10, (.pointer l15))]) ⟨rfl, rfl, rfl, rfl, rfl, rfl, trivial⟩
 obtain ⟨a22, h23, h⟩ := h
 revert H
 revert h
 subst h23
 intro h H
 obtain ⟨l24, hc25, l26, hc27, C28, hc29, C30, hc31, h⟩ := h
 refine c_any (V := [(0, (.pointer (some a22))), (1, (.pointer (some a22))), (2, (.pointer (some (a22.add 0)))), (3, (.i l24)), (4, (.pointer (some a22))), (5, (.pointer (some a22))), (6, (.pointer (some (a22.add 1)))), (7, (.bool l26)), (8, (.i s2)), (9, (.agg #[(.i C28), (.i C30)])), (10, v5.v), (11, (.agg #[(.i l24), (.bool l26), (.i s2), (.i C28), (.i C30), v5.v]))]) (⟨[[], [0], [1], [2], [], [4], [5], [6], [], [], [], [3, 7, 8, 9, 10], [0, 1, 2, 3, 4, 5, 6, 7, 8, 9, 10, 11], [0, 1, 2, 3, 4, 5, 6, 7, 8, 9, 10, 11, 12]], [some 18, some 19, some 20, some 21, some 22, some 23, some 24, some 25, some 26, some 27, some 28, some 29, none, some 9], [12], [0, 0, 0, 0, 0, 0, 0, 0, 0, 0, 0, 0, 0, 1], [0, 0, 0, 0, 0, 0, 0, 0, 0, 0, 0, 0, 1, 1]⟩ : Rg) [(1, (.i s2)), (3, v5.v), (6, (.pointer (some (blk b7)))), (8, (.pointer (some (blk b10)))), (9, (.bool false)), (10, (.pointer (some a22)))] mixed (by kernel_rfl) H <| Stg.eff [0, 1, 2, 3, 4, 5, 6, 7, 8, 9, 10, 11] (by kernel_rfl) rfl (.cons ?_ (.cons ?_ (.cons ?_ (.cons ?_ (.cons ?_ (.cons ?_ (.cons ?_ (.cons ?_ (.cons ?_ (.cons ?_ (.cons ?_ (.cons ?_ .nil)))))))))))) ?_
 ·exact Aw rfl rfl <| mv rfl rfl <| An rfl
 ·exact Aw rfl rfl <| nl rfl rfl <| An rfl
 ·exact Aw rfl rfl <| fd rfl fld_116_0 rfl <| An rfl
 ·exact Aw rfl rfl <| ld rfl one_2 hc25 rfl <| An rfl
 ·exact Aw rfl rfl <| mv rfl rfl <| An rfl
 ·exact Aw rfl rfl <| nl rfl rfl <| An rfl
 ·exact Aw rfl rfl <| fd rfl fld_116_1 rfl <| An rfl
 ·exact Aw rfl rfl <| ld rfl one_4 hc27 rfl <| An rfl
 ·exact Aw rfl rfl <| mv rfl rfl <| An rfl
 ·exact Aw rfl rfl <| lN (l := [(.i C28), (.i C30)]) rfl agg_27 rfl ⟨hc29, hc31, trivial⟩ rfl <| An rfl
 ·exact Aw rfl rfl <| mv rfl rfl <| An rfl
 ·exact Ans.mk rfl rfl fun a H => s_build H rfl (by rw [H.parts (vs := [(0, (.i l24)), (1, (.bool l26)), (2, (.i s2)), (3, (.agg #[(.i C28), (.i C30)])), (4, v5.v)]) rfl]; exact bd_60_ii640_b1_ii642_ii64ii643_s4 _ l24 l26 s2 C28 C30 v5) (lt_ rfl) fun a H => Ans.fin H rfl
 ·refine sN h rfl rfl agg_60 rfl rfl fun w32 h => fun a H => c_nil <| effQ.go0 [(13, (.bool true))] H rfl rfl <| Stg.fin [13] (by kernel_rfl) (.cons ?_ .nil) ?_
  ·exact Aw rfl rfl <| ag rfl rfl <| An rfl
  ·intro a H
   replace H := H.weaken (L' := [(8, (.pointer (some (blk b10)))), (9, (.bool true))]) ⟨rfl, rfl, trivial⟩
   refine hK21 _ _ <| c_ret ?_
   obtain ⟨O33, hc34, P35, hc36, S37, hc38, C39, hc40, C41, hc42, V43, hc44, h⟩ := h
   exact e_ret2 H rfl ⟨_, rfl, run_loadN (l := [(.i O33), (.bool P35), (.i S37), (.i C39), (.i C41), V43.v]) agg_60 rfl ⟨hc34, hc36, hc38, hc40, hc42, hc44, trivial⟩⟩ rfl h

theorem sim_cmp_isNaN_int64 (x1 : Int) (w : World) (Q : Ending → World → Prop) (h : vc_cmp_isNaN_int64 x1 w Q) : Calls PP F_cmp_isNaN_int64 #[(.i x1)] w Q := by
 unfold vc_cmp_isNaN_int64 at h
 exact enter (n := 6) Tryz.func91 rfl rfl (le_ rfl) fun a H => sr fun K2 hK2 => ww H <| ag rfl rfl <| fun a H => nk hK2 <| sr fun K3 hK3 => ww H <| mv rfl rfl <| mv rfl rfl <| bn rfl rfl r_neq rfl <| ag rfl rfl <| fun a H => nk hK3 <| c_ret <| e_ret1 H rfl rfl h

theorem sim_cmp_isNaN_int (x1 : Int) (w : World) (Q : Ending → World → Prop) (h : vc_cmp_isNaN_int x1 w Q) : Calls PP F_cmp_isNaN_int #[(.i x1)] w Q := by
 unfold vc_cmp_isNaN_int at h
 exact enter (n := 6) Tryz.func92 rfl rfl (le_ rfl) fun a H => sr fun K2 hK2 => ww H <| ag rfl rfl <| fun a H => nk hK2 <| sr fun K3 hK3 => ww H <| mv rfl rfl <| mv rfl rfl <| bn rfl rfl r_neq rfl <| ag rfl rfl <| fun a H => nk hK3 <| c_ret <| e_ret1 H rfl rfl h

end Go.Proofs.YtabifopphhpciaaGreatDoor
