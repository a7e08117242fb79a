/-
  The conditions give the machine's calls; printed by vcgen.py.
-/
import Derived.Test.YtabifopphhpciaaGreatDoorRecVc
import Derived.Test.YtabifopphhpciaaGreatDoorRecSim0
import Derived.Test.YtabifopphhpciaaGreatDoorRecSim1
import Derived.Test.YtabifopphhpciaaGreatDoorM3
import Derived.Test.YtabifopphhpciaaGreatDoorRecSim4
import Derived.Test.YtabifopphhpciaaGreatDoorM4
import Derived.Test.YtabifopphhpciaaGreatDoorM1
import Derived.Maps.RangeRun
import Derived.MapKept
import Derived.Shelf.SlMaps.Clone
import Derived.Sort.Row
import Derived.Sort.Grow
import Derived.Sort.EncStr
import Derived.Shelf.Sort.Plain
import Derived.Shelf.Slices.In.SortNone
namespace Go.Proofs.YtabifopphhpciaaGreatDoor
open Go Go.Vc
set_option maxRecDepth 100000
set_option maxHeartbeats 4000000
theorem sim_matrix_sized (f1 : Option Addr) (r2 c3 : Int) (w : World) (Q : Ending → World → Prop) (h : vc_matrix_sized f1 r2 c3 w Q) : Calls PP F_matrix_sized #[(.pointer f1), (.i r2), (.i c3)] w Q := by
 unfold vc_matrix_sized at h
 refine enter (n := 24) Tryz.func105 rfl rfl (le_ rfl) fun a H => sr fun K4 hK4 => ww H <| ag rfl rfl <| fun a H => nk hK4 <| c_seq fun K5 hK5 => c_block <| sr fun K6 hK6 => ww H <| mv rfl rfl <| bn rfl rfl (r_eqP0 ptr_103) rfl <| ag rfl rfl <| fun a H => nk hK6 <| cd H rfl h (fun h7 h => ?_) (fun h7 h => ?_)
 ·exact sr fun K8 hK8 => ww H <| ag rfl rfl <| fun a H => nk hK8 <| c_ret <| e_ret1 H rfl rfl h
 ·refine sr fun K9 hK9 => ww H <| mv rfl rfl <| bn rfl rfl r_lss rfl <| mv rfl rfl <| fun a H => g_join (n := 24) [(16, (.bool ((decide (r2 < 1)) || (decide (c3 < 1))))), (1, (.i r2)), (2, (.i c3))] (.succ (.succ (.succ (.zero _)))) ?_ ?_
  ·intro h11
   try clear h
   rcases Bool.eq_false_or_eq_true (decide (r2 < 1)) with h10 | h10
   ·replace H := H.ch (t := 13) (b := true) rfl h10
    exact ww H <| sk rfl rfl rfl rfl <| sk rfl rfl rfl rfl <| pT rfl rfl rfl <| fun a H => h11 _ (H.weaken ⟨by rw [h10]; rfl, rfl, rfl, trivial⟩)
   ·replace H := H.ch (t := 13) (b := false) rfl h10
    exact ww H <| gmv rfl rfl rfl rfl <| gbn rfl rfl rfl rfl r_lss rfl <| pF rfl rfl rfl <| fun a H => h11 _ (H.weaken ⟨by rw [h10]; rfl, rfl, rfl, trivial⟩)
  ·clear H a
   intro a H
   refine ww H <| ag rfl rfl <| fun a H => nk hK9 <| cd H rfl h (fun h12 h => ?_) (fun h12 h => ?_)
   ·exact sr fun K13 hK13 => ww H <| ag rfl rfl <| fun a H => nk hK13 <| c_ret <| e_ret1 H rfl rfl h
   ·refine sr fun K14 hK14 => ww H <| mv rfl rfl <| bn rfl rfl r_gtr rfl <| mv rfl rfl <| fun a H => g_join (n := 24) [(23, (.bool ((decide (256 < r2)) || (decide (256 < c3)))))] (.succ (.succ (.succ (.zero _)))) ?_ ?_
    ·intro h16
     try clear h
     rcases Bool.eq_false_or_eq_true (decide (256 < r2)) with h15 | h15
     ·replace H := H.ch (t := 20) (b := true) rfl h15
      exact ww H <| sk rfl rfl rfl rfl <| sk rfl rfl rfl rfl <| pT rfl rfl rfl <| fun a H => h16 _ (H.weaken ⟨by rw [h15]; rfl, trivial⟩)
     ·replace H := H.ch (t := 20) (b := false) rfl h15
      exact ww H <| gmv rfl rfl rfl rfl <| gbn rfl rfl rfl rfl r_gtr rfl <| pF rfl rfl rfl <| fun a H => h16 _ (H.weaken ⟨by rw [h15]; rfl, trivial⟩)
    ·clear H a
     intro a H
     refine ww H <| ag rfl rfl <| fun a H => nk hK14 <| cd H rfl h (fun h17 h => ?_) (fun h17 h => ?_)
     ·exact sr fun K18 hK18 => ww H <| ag rfl rfl <| fun a H => nk hK18 <| c_ret <| e_ret1 H rfl rfl h
     ·exact c_skip <| hK5 _ _ <| sr fun K19 hK19 => ww H <| ag rfl rfl <| fun a H => nk hK19 <| c_ret <| e_ret1 H rfl rfl h

theorem sim_matrix_blank (f1 : Option Addr) (r2 c3 : Int) (w : World) (Q : Ending → World → Prop) (h : vc_matrix_blank f1 r2 c3 w Q) : Calls PP F_matrix_blank #[(.pointer f1), (.i r2), (.i c3)] w Q := by
 unfold vc_matrix_blank at h
 refine enter (n := 32) Tryz.func106 rfl rfl (le_ rfl) fun a H => ?_
 obtain ⟨s6, w7, h8, h⟩ := h
 refine sr fun K4 hK4 => ww H <| ag rfl rfl <| fun a H => nk hK4 <| sr fun K5 hK5 => ww H <| mv rfl rfl <| mv rfl rfl <| fun a H => s_mk H rfl rfl rfl h8 (lt_ rfl) ?_
 clear H a h8
 intro a H
 refine s_build H rfl (by rw [H.parts (vs := [(0, (.pointer f1)), (1, s6.v)]) rfl]; exact bd_194_p0_s1 _ f1 s6) (lt_ rfl) fun a H => ww H <| bx h rfl rfl rfl rfl fun b9 w10 n11 h => ag rfl rfl <| fun a H => nk hK5 <| c_seq fun K12 hK12 => sr fun K13 hK13 => ww H <| mv rfl rfl <| nl rfl rfl <| fd rfl fld_194_1 rfl <| fun a H => s_load (v := s6.v) H rfl rfl one_22 (n11.cell (i := 1) rfl) (lt_ rfl) fun a H => ww H <| bl (vs := [s6.v]) rfl rfl (fun cs => b_lenS (z := s6) sl_22) <| mv rfl rfl <| fun a H => nk hK13 <| c_block ?_
 obtain ⟨I16, m17, h37, h38⟩ := h
 refine c_loop (σ := Int) (fun z w => I16 z w) (fun z w => m17 z w) (fun z => [(2, (.i c3)), (7, (.pointer (some (blk b9)))), (18, (.i (s6.l : Int))), (19, (.i z))]) 0 h37 (H.weaken ⟨rfl, rfl, rfl, rfl, trivial⟩) ?_
 clear H h37
 rintro s14 a w15 h H
 replace h := h38 s14 w15 h
 clear h38
 replace H : Has 32 [] a [(2, (.i c3)), (7, (.pointer (some (blk b9)))), (18, (.i (s6.l : Int))), (19, (.i s14))] := H
 refine sr fun K18 hK18 => ww H <| bn rfl rfl r_lss rfl <| fun a H => nk hK18 <| c_seq fun K19 hK19 => cd H rfl h (fun h20 h => ?_) (fun h20 h => ?_)
 ·refine c_skip <| hK19 _ _ <| c_seq fun K21 hK21 => c_block <| sr fun K22 hK22 => ww H <| mv rfl rfl <| ag rfl rfl <| fun a H => nk hK22 <| ?_
  replace H := H.weaken (L' := [(2, (.i c3)), (7, (.pointer (some (blk b9)))), (8, (.i s14)), (18, (.i (s6.l : Int))), (19, (.i s14))]) ⟨rfl, rfl, rfl, rfl, rfl, trivial⟩
  obtain ⟨l23, hc24, h⟩ := h
  refine c_any (V := [(0, (.pointer (some (blk b9)))), (1, (.pointer (some (blk b9)))), (2, (.pointer (some ((blk b9).add 1)))), (3, l23.v), (4, (.i s14)), (5, (.i c3))]) (⟨[[], [0], [1], [2], [], [], [5], [0, 1, 2, 3, 4, 5, 6], [0, 1, 2, 3, 4, 5, 6, 7]], [some 22, some 23, some 24, some 25, some 26, some 27, some 28, some 29, none], [6, 8], [0, 0, 0, 0, 0, 0, 0, 1, 1], [1, 1, 1, 1, 1, 0, 1, 1, 2]⟩ : Rg) [(2, (.i c3)), (7, (.pointer (some (blk b9)))), (8, (.i s14)), (18, (.i (s6.l : Int))), (19, (.i s14))] mixed (by kernel_rfl) H <| Stg.eff [0, 1, 2, 3, 4, 5] (by kernel_rfl) rfl (.cons ?_ (.cons ?_ (.cons ?_ (.cons ?_ (.cons ?_ (.cons ?_ .nil)))))) ?_
  ·exact Aw rfl rfl <| mv rfl rfl <| An rfl
  ·exact Aw rfl rfl <| nl rfl rfl <| An rfl
  ·exact Aw rfl rfl <| fd rfl fld_194_1 rfl <| An rfl
  ·exact Aw rfl rfl <| ld rfl one_22 hc24 rfl <| An rfl
  ·exact Aw rfl rfl <| mv rfl rfl <| An rfl
  ·exact Aw rfl rfl <| mv rfl rfl <| An rfl
  ·intro a H
   replace H := H.weaken (L' := [(27, (.i c3))]) ⟨rfl, trivial⟩
   obtain ⟨s25, w26, h27, h⟩ := h
   refine s_mk H rfl rfl rfl h27 (lt_ rfl) ?_
   clear H a h27
   intro a H
   obtain ⟨hc28, a29, h30, h31, h32, h⟩ := h
   refine c_nil <| effQ.go [(7, (.pointer (some (a29.add (Int.toNat (s14) * 1)))))] H rfl rfl <| Stg.eff [0, 1, 2, 3, 4, 7] (by kernel_rfl) rfl (.cons ?_ (.cons ?_ (.cons ?_ (.cons ?_ (.cons ?_ (.cons ?_ .nil)))))) ?_
   ·exact Aw rfl rfl <| mv rfl rfl <| An rfl
   ·exact Aw rfl rfl <| nl rfl rfl <| An rfl
   ·exact Aw rfl rfl <| fd rfl fld_194_1 rfl <| An rfl
   ·exact Aw rfl rfl <| ld rfl one_22 hc28 rfl <| An rfl
   ·exact Aw rfl rfl <| mv rfl rfl <| An rfl
   ·exact Ans.mk rfl rfl fun a H => s_idxS (s := l23) H rfl rfl rfl slc_22 h30 h31 h32 (lt_ rfl) fun a H => Ans.fin H rfl
   ·refine st h rfl rfl one_49 rfl fun w33 w33S h => fun a H => c_nil <| effQ.go0 [] H rfl rfl <| Stg.fin [] (by kernel_rfl) .nil ?_
    ·intro a H
     replace H := H.weaken (L' := [(2, (.i c3)), (7, (.pointer (some (blk b9)))), (18, (.i (s6.l : Int))), (19, (.i s14))]) ⟨rfl, rfl, rfl, rfl, trivial⟩
     refine hK21 _ _ <| c_reg <| ww H <| bn rfl rfl r_add rfl <| mv rfl rfl <| fun a H => c_nil <| Exists.intro (wr .i64 (s14 + 1)) ⟨h.1, h.2, H.weaken ⟨rfl, rfl, rfl, rfl, trivial⟩⟩
 ·refine c_exit ?_
  first | (simp only [Exit.then, Exit.inBlock, ↓reduceIte]; fail_if_success simp only [Nat.reduceEqDiff]) | simp only [Exit.then, Exit.inBlock, ↓reduceIte, Nat.reduceEqDiff]
  exact hK12 _ _ <| sr fun K36 hK36 => ww H <| mv rfl rfl <| ag rfl rfl <| fun a H => nk hK36 <| c_ret <| e_ret1 H rfl rfl h

theorem sim_gf_Field_Mul (f1 : Option Addr) (a2 b3 : Int) (w : World) (Q : Ending → World → Prop) (h : vc_gf_Field_Mul f1 a2 b3 w Q) : Calls PP F_gf_Field_Mul #[(.pointer f1), (.int .u8 a2), (.int .u8 b3)] w Q := by
 unfold vc_gf_Field_Mul at h
 refine enter (n := 35) Tryz.func107 rfl rfl (le_ rfl) fun a H => sr fun K4 hK4 => ww H <| ag rfl rfl <| fun a H => nk hK4 <| c_seq fun K5 hK5 => sr fun K6 hK6 => ww H <| mv rfl rfl <| bn rfl rfl (r_eqP0 ptr_103) rfl <| mv rfl rfl <| fun a H => g_join (n := 35) [(12, (.bool (f1.isNone || (decide (a2 = 0))))), (0, (.pointer f1)), (1, (.int .u8 a2)), (2, (.int .u8 b3))] (.succ (.succ (.succ (.zero _)))) ?_ ?_
 ·intro h8
  try clear h
  rcases Bool.eq_false_or_eq_true f1.isNone with h7 | h7
  ·replace H := H.ch (t := 9) (b := true) rfl h7
   exact ww H <| sk rfl rfl rfl rfl <| sk rfl rfl rfl rfl <| pT rfl rfl rfl <| fun a H => h8 _ (H.weaken ⟨by rw [h7]; rfl, rfl, rfl, rfl, trivial⟩)
  ·replace H := H.ch (t := 9) (b := false) rfl h7
   exact ww H <| gmv rfl rfl rfl rfl <| gbn rfl rfl rfl rfl r_eql rfl <| pF rfl rfl rfl <| fun a H => h8 _ (H.weaken ⟨by rw [h7]; rfl, rfl, rfl, rfl, trivial⟩)
 ·clear H a
  intro a H
  refine ww H <| mv rfl rfl <| fun a H => g_join (n := 35) [(16, (.bool ((f1.isNone || (decide (a2 = 0))) || (decide (b3 = 0))))), (0, (.pointer f1)), (1, (.int .u8 a2)), (2, (.int .u8 b3))] (.succ (.succ (.succ (.zero _)))) ?_ ?_
  ·intro h10
   try clear h
   rcases Bool.eq_false_or_eq_true (f1.isNone || (decide (a2 = 0))) with h9 | h9
   ·replace H := H.ch (t := 13) (b := true) rfl h9
    exact ww H <| sk rfl rfl rfl rfl <| sk rfl rfl rfl rfl <| pT rfl rfl rfl <| fun a H => h10 _ (H.weaken ⟨by rw [h9]; rfl, rfl, rfl, rfl, trivial⟩)
   ·replace H := H.ch (t := 13) (b := false) rfl h9
    exact ww H <| gmv rfl rfl rfl rfl <| gbn rfl rfl rfl rfl r_eql rfl <| pF rfl rfl rfl <| fun a H => h10 _ (H.weaken ⟨by rw [h9]; rfl, rfl, rfl, rfl, trivial⟩)
  ·clear H a
   intro a H
   refine nk hK6 <| cd H rfl h (fun h11 h => ?_) (fun h11 h => ?_)
   ·exact sr fun K12 hK12 => ww H <| ag rfl rfl <| fun a H => nk hK12 <| c_ret <| e_ret1 H rfl rfl h
   ·refine c_skip <| hK5 _ _ <| c_seq fun K13 hK13 => c_regD mixed (by kernel_rfl) ?_
    iterate 3 refine z_move H rfl rfl (lt_ rfl) fun a H => ?_
    obtain ⟨a15, h28, h⟩ := h
    revert H
    revert h
    subst h28
    intro h H
    refine z_nil H rfl rfl (lt_ rfl) fun a H => z_fld H rfl rfl fld_190_2 (lt_ rfl) fun a H => ?_
    obtain ⟨h16, h17, h⟩ := h
    refine z_idxA H rfl rfl rfl arr_188 h16 h17 (lt_ rfl) fun a H => ?_
    obtain ⟨l18, hc19, h⟩ := h
    refine z_load (v := (.i l18)) H rfl rfl one_3 hc19 (lt_ rfl) fun a H => z_move H rfl rfl (lt_ rfl) fun a H => z_move H rfl rfl (lt_ rfl) fun a H => z_nil H rfl rfl (lt_ rfl) fun a H => z_fld H rfl rfl fld_190_2 (lt_ rfl) fun a H => ?_
    obtain ⟨h20, h21, h⟩ := h
    refine z_idxA H rfl rfl rfl arr_188 h20 h21 (lt_ rfl) fun a H => ?_
    obtain ⟨l22, hc23, h⟩ := h
    refine z_load (v := (.i l22)) H rfl rfl one_3 hc23 (lt_ rfl) fun a H => z_bin H rfl rfl rfl r_add (lt_ rfl) fun a H => z_nil H rfl rfl (lt_ rfl) fun a H => z_fld H rfl rfl fld_190_1 (lt_ rfl) fun a H => ?_
    obtain ⟨h24, h25, h⟩ := h
    refine z_idxA H rfl rfl rfl arr_187 h24 h25 (lt_ rfl) fun a H => ?_
    obtain ⟨l26, hc27, h⟩ := h
    refine z_load (v := (.int .u8 l26)) H rfl rfl one_5 hc27 (lt_ rfl) fun a H => z_assign H rfl rfl (lt_ rfl) fun a H => wpQuiet_nil ?_
    rintro _ ⟨k14, rfl⟩
    replace h := h k14
    exact hK13 _ _ <| c_ret <| e_ret1 H rfl rfl h

theorem sim_matrix_eliminate (f1 : Option Addr) (r2 : Slc) (c3 : Int) (w : World) (Q : Ending → World → Prop) (h : vc_matrix_eliminate f1 r2 c3 w Q) : Calls PP F_matrix_eliminate #[(.pointer f1), r2.v, (.i c3)] w Q := by
 unfold vc_matrix_eliminate at h
 have eP {L : List (Nat × Value)} (c : List PanicEntry) (w' : World) (a : Act) (h : Q (.panicked c) w') (H : Has 87 [] a L) : bodyPost PP Tryz.f108 Q (.panic c) a w' := e_panic H h
 refine enter (n := 87) Tryz.func108 rfl rfl (le_ rfl) fun a H => sr fun K4 hK4 => ww H <| bx h rfl rfl rfl rfl fun b5 w6 n7 h => bx h rfl rfl rfl rfl fun b8 w9 n10 h => ag rfl rfl <| fun a H => nk hK4 <| c_scope <| sr fun K11 hK11 => ww H <| ag rfl rfl <| fun a H => nk hK11 <| sr fun K12 hK12 => s_mkf H rfl (H.args (vs := [(.pointer (some (blk b8)))]) rfl) (lt_ rfl) fun a H => ww H <| ag rfl rfl <| fun a H => nk hK12 <| sr fun K13 hK13 => s_mkf H rfl (H.args (vs := [(.pointer (some (blk b5))), (.pointer (some (blk b8)))]) rfl) (lt_ rfl) fun a H => ww H <| ag rfl rfl <| fun a H => nk hK13 <| sr fun K14 hK14 => s_mkf H rfl (H.args (vs := [(.pointer (some (blk b8))), (.pointer (some (blk b5)))]) rfl) (lt_ rfl) fun a H => ww H <| ag rfl rfl <| fun a H => nk hK14 <| c_seq fun K15 hK15 => c_label <| hK15 _ _ <| c_seq fun K16 hK16 => sr fun K17 hK17 => ww H <| mv rfl rfl <| mv rfl rfl <| fun a H => nk hK17 <| c_block ?_
 obtain ⟨I21, m22, h144, h145⟩ := h
 refine c_loop (σ := Slc × Int) (fun z w => I21 z.1 z.2 w) (fun z w => m22 z.1 z.2 w) (fun z => [(3, (.pointer (some (blk b5)))), (4, (.pointer (some (blk b8)))), (7, z.1.v), (8, (.func (.func F_matrix_eliminate_c1) #[] #[(.pointer (some (blk b8)))])), (9, (.func (.func F_matrix_eliminate_c2) #[] #[(.pointer (some (blk b5))), (.pointer (some (blk b8)))])), (10, (.func (.func F_matrix_eliminate_c3) #[] #[(.pointer (some (blk b8))), (.pointer (some (blk b5)))])), (20, (.i c3)), (21, (.i z.2))]) (Slc.nil, 0) h144 (H.weaken ⟨rfl, rfl, rfl, rfl, rfl, rfl, rfl, rfl, trivial⟩) ?_
 clear H h144
 rintro ⟨p18, s19⟩ a w20 h H
 replace h := h145 p18 s19 w20 h
 clear h145
 replace H : Has 87 [] a [(3, (.pointer (some (blk b5)))), (4, (.pointer (some (blk b8)))), (7, p18.v), (8, (.func (.func F_matrix_eliminate_c1) #[] #[(.pointer (some (blk b8)))])), (9, (.func (.func F_matrix_eliminate_c2) #[] #[(.pointer (some (blk b5))), (.pointer (some (blk b8)))])), (10, (.func (.func F_matrix_eliminate_c3) #[] #[(.pointer (some (blk b8))), (.pointer (some (blk b5)))])), (20, (.i c3)), (21, (.i s19))] := H
 refine sr fun K23 hK23 => ww H <| bn rfl rfl r_lss rfl <| fun a H => nk hK23 <| c_seq fun K24 hK24 => cd H rfl h (fun h25 h => ?_) (fun h25 h => ?_)
 ·refine c_skip <| hK24 _ _ <| c_seq fun K26 hK26 => ?_
  obtain ⟨R28, h, h142⟩ := h
  have h30 : ∀ (a : Act) (p27 : Slc) (w29 : World), R28 p27 w29 → Has 87 [] a [(3, (.pointer (some (blk b5)))), (4, (.pointer (some (blk b8)))), (7, p27.v), (8, (.func (.func F_matrix_eliminate_c1) #[] #[(.pointer (some (blk b8)))])), (9, (.func (.func F_matrix_eliminate_c2) #[] #[(.pointer (some (blk b5))), (.pointer (some (blk b8)))])), (10, (.func (.func F_matrix_eliminate_c3) #[] #[(.pointer (some (blk b8))), (.pointer (some (blk b5)))])), (20, (.i c3)), (21, (.i s19))] → K26 a w29 := by
   clear h
   intro a p27 w29 h H
   replace h := h142 p27 w29 h
   refine hK26 _ _ <| c_reg <| ww H <| bn rfl rfl r_add rfl <| mv rfl rfl <| fun a H => c_nil <| Exists.intro (p27, wr .i64 (s19 + 1)) ⟨h.1, h.2, H.weaken ⟨rfl, rfl, rfl, rfl, rfl, rfl, rfl, rfl, trivial⟩⟩
  clear h142
  refine c_block <| sr fun K31 hK31 => ww H <| mv rfl rfl <| ag rfl rfl <| fun a H => nk hK31 <| sr fun K32 hK32 => ww H <| mv rfl rfl <| bl (vs := [p18.v]) rfl rfl (fun cs => b_lenS (z := p18) sl_23) <| ag rfl rfl <| fun a H => nk hK32 <| c_seq fun K33 hK33 => sr fun K34 hK34 => ww H <| mv rfl rfl <| ag rfl rfl <| fun a H => nk hK34 <| c_block ?_
  obtain ⟨I37, m38, h140, h141⟩ := h
  refine c_loop (σ := Int) (fun z w => I37 z w) (fun z w => m38 z w) (fun z => [(3, (.pointer (some (blk b5)))), (4, (.pointer (some (blk b8)))), (7, p18.v), (8, (.func (.func F_matrix_eliminate_c1) #[] #[(.pointer (some (blk b8)))])), (9, (.func (.func F_matrix_eliminate_c2) #[] #[(.pointer (some (blk b5))), (.pointer (some (blk b8)))])), (10, (.func (.func F_matrix_eliminate_c3) #[] #[(.pointer (some (blk b8))), (.pointer (some (blk b5)))])), (11, (.i s19)), (12, (.i (p18.l : Int))), (13, (.i z)), (20, (.i c3)), (21, (.i s19))]) (p18.l : Int) h140 (H.weaken ⟨rfl, rfl, rfl, rfl, rfl, rfl, rfl, rfl, rfl, rfl, rfl, trivial⟩) ?_
  clear H h140
  rintro i35 a w36 h H
  replace h := h141 i35 w36 h
  clear h141
  replace H : Has 87 [] a [(3, (.pointer (some (blk b5)))), (4, (.pointer (some (blk b8)))), (7, p18.v), (8, (.func (.func F_matrix_eliminate_c1) #[] #[(.pointer (some (blk b8)))])), (9, (.func (.func F_matrix_eliminate_c2) #[] #[(.pointer (some (blk b5))), (.pointer (some (blk b8)))])), (10, (.func (.func F_matrix_eliminate_c3) #[] #[(.pointer (some (blk b8))), (.pointer (some (blk b5)))])), (11, (.i s19)), (12, (.i (p18.l : Int))), (13, (.i i35)), (20, (.i c3)), (21, (.i s19))] := H
  obtain ⟨l42, hc43, h⟩ := h
  refine c_seq fun K39 hK39 => c_block <| c_seq fun K40 hK40 => sr fun K41 hK41 => ww H <| mv rfl rfl <| ld rfl one_22 hc43 rfl <| bl (vs := [l42.v]) rfl rfl (fun cs => b_lenS (z := l42) sl_22) <| bn rfl rfl r_geq rfl <| fun a H => nk hK41 <| cd H rfl h (fun h44 h => ?_) (fun h44 h => ?_)
  ·refine c_exit ?_
   first | (simp only [Exit.then, Exit.inBlock, ↓reduceIte]; fail_if_success simp only [Nat.reduceEqDiff]) | simp only [Exit.then, Exit.inBlock, ↓reduceIte, Nat.reduceEqDiff]
   exact h30 _ _ _ h (H.weaken ⟨rfl, rfl, rfl, rfl, rfl, rfl, rfl, rfl, trivial⟩)
  ·obtain ⟨l46, hc47, a48, h49, h50, h51, h⟩ := h
   refine c_skip <| hK40 _ _ <| sr fun K45 hK45 => ww H <| ld rfl one_22 hc47 rfl <| mv rfl rfl <| fun a H => s_idxS (s := l46) H rfl rfl rfl slc_22 h49 h50 h51 (lt_ rfl) fun a H => ?_
   obtain ⟨l52, hc53, a54, h55, h56, h57, h⟩ := h
   refine ww H <| ld rfl one_49 hc53 rfl <| mv rfl rfl <| fun a H => s_idxS (s := l52) H rfl rfl rfl slc_49 h55 h56 h57 (lt_ rfl) fun a H => ?_
   obtain ⟨l58, hc59, h⟩ := h
   refine ww H <| ld rfl one_5 hc59 rfl <| bn rfl rfl r_neq rfl <| fun a H => nk hK45 <| cd H rfl h (fun h60 h => ?_) (fun h60 h => ?_)
   ·refine sr fun K61 hK61 => ww H <| mv rfl rfl <| mv rfl rfl <| mv rfl rfl <| fun a H => s_callV H rfl rfl (H.args (vs := [(.i (p18.l : Int)), (.i i35)]) rfl) (lt_ rfl) ⟨_, _, rfl, body_143, h⟩ ?_ (fun c w' => eP c w' _)
    clear H h a
    rintro _ w62 a ⟨rfl, h⟩ H
    refine nk hK61 <| c_exit ?_
    first | (simp only [Exit.then, Exit.inBlock, ↓reduceIte]; fail_if_success simp only [Nat.reduceEqDiff]) | simp only [Exit.then, Exit.inBlock, ↓reduceIte, Nat.reduceEqDiff]
    refine hK33 _ _ <| c_seq fun K63 hK63 => ?_
    replace H := H.weaken (L' := [(3, (.pointer (some (blk b5)))), (4, (.pointer (some (blk b8)))), (7, p18.v), (8, (.func (.func F_matrix_eliminate_c1) #[] #[(.pointer (some (blk b8)))])), (9, (.func (.func F_matrix_eliminate_c2) #[] #[(.pointer (some (blk b5))), (.pointer (some (blk b8)))])), (10, (.func (.func F_matrix_eliminate_c3) #[] #[(.pointer (some (blk b8))), (.pointer (some (blk b5)))])), (11, (.i s19)), (12, (.i (p18.l : Int))), (20, (.i c3)), (21, (.i s19))]) ⟨rfl, rfl, rfl, rfl, rfl, rfl, rfl, rfl, rfl, rfl, trivial⟩
    obtain ⟨l64, hc65, l66, hc67, a68, h69, h70, h71, l72, hc73, a74, h75, h76, h77, l78, hc79, h⟩ := h
    refine c_any (V := [(0, (.pointer l64)), (1, l66.v), (2, (.i (p18.l : Int))), (3, (.pointer (some (a68.add (Int.toNat ((p18.l : Int)) * 1))))), (4, l72.v), (5, (.i s19)), (6, (.pointer (some (a74.add (Int.toNat (s19) * 1))))), (7, (.int .u8 l78))]) (⟨[[], [], [], [1, 2], [3], [], [4, 5], [6], [0, 7], [8], [9], [9], [0, 1, 2, 3, 4, 5, 6, 7, 8, 9, 10], [0, 1, 2, 3, 4, 5, 6, 7, 8, 9, 10, 11, 12]], [some 46, some 47, some 48, some 49, some 50, some 51, some 52, some 53, some 54, some 45, some 55, some 56, some 14, some 15], [8], [0, 0, 0, 0, 0, 0, 0, 0, 0, 1, 1, 1, 1, 1], [0, 0, 0, 0, 0, 0, 0, 0, 1, 1, 1, 1, 1, 1]⟩ : Rg) [(3, (.pointer (some (blk b5)))), (4, (.pointer (some (blk b8)))), (7, p18.v), (8, (.func (.func F_matrix_eliminate_c1) #[] #[(.pointer (some (blk b8)))])), (9, (.func (.func F_matrix_eliminate_c2) #[] #[(.pointer (some (blk b5))), (.pointer (some (blk b8)))])), (10, (.func (.func F_matrix_eliminate_c3) #[] #[(.pointer (some (blk b8))), (.pointer (some (blk b5)))])), (11, (.i s19)), (12, (.i (p18.l : Int))), (20, (.i c3)), (21, (.i s19))] mixed (by kernel_rfl) H ?_
    refine Stg.eff [0, 1, 2, 3, 4, 5, 6, 7] (by kernel_rfl) rfl (.cons ?_ (.cons ?_ (.cons ?_ (.cons ?_ (.cons ?_ (.cons ?_ (.cons ?_ (.cons ?_ .nil)))))))) ?_
    ·exact Aw rfl rfl <| ld rfl one_103 hc65 rfl <| An rfl
    ·exact Aw rfl rfl <| ld rfl one_22 hc67 rfl <| An rfl
    ·exact Aw rfl rfl <| mv rfl rfl <| An rfl
    ·exact Ans.mk rfl rfl fun a H => s_idxS (s := l66) H rfl rfl rfl slc_22 h69 h70 h71 (lt_ rfl) fun a H => Ans.fin H rfl
    ·exact Aw rfl rfl <| ld rfl one_49 hc73 rfl <| An rfl
    ·exact Aw rfl rfl <| mv rfl rfl <| An rfl
    ·exact Ans.mk rfl rfl fun a H => s_idxS (s := l72) H rfl rfl rfl slc_49 h75 h76 h77 (lt_ rfl) fun a H => Ans.fin H rfl
    ·exact Aw rfl rfl <| ld rfl one_5 hc79 rfl <| An rfl
    ·refine cl2 h body_146 rfl rfl eP fun I81 I82 w80 h => fun a H => c_nil <| effQ.go [(9, (.tuple #[(.int .u8 I81), (.i I82)])), (10, (.int .u8 I81)), (11, (.i I82)), (12, (.int .u8 I81)), (13, (.i I82))] H rfl rfl <| Stg.fin [9, 10, 11, 12, 13] (by kernel_rfl) (.cons ?_ (.cons ?_ (.cons ?_ (.cons ?_ (.cons ?_ .nil))))) ?_
     ·exact Aw rfl rfl <| mv rfl rfl <| An rfl
     ·exact Aw rfl rfl <| ex rfl rfl rfl <| An rfl
     ·exact Aw rfl rfl <| ex rfl rfl rfl <| An rfl
     ·exact Aw rfl rfl <| ag rfl rfl <| An rfl
     ·exact Aw rfl rfl <| ag rfl rfl <| An rfl
     ·intro a H
      replace H := H.weaken (L' := [(3, (.pointer (some (blk b5)))), (4, (.pointer (some (blk b8)))), (7, p18.v), (8, (.func (.func F_matrix_eliminate_c1) #[] #[(.pointer (some (blk b8)))])), (9, (.func (.func F_matrix_eliminate_c2) #[] #[(.pointer (some (blk b5))), (.pointer (some (blk b8)))])), (10, (.func (.func F_matrix_eliminate_c3) #[] #[(.pointer (some (blk b8))), (.pointer (some (blk b5)))])), (11, (.i s19)), (12, (.i (p18.l : Int))), (14, (.int .u8 I81)), (20, (.i c3)), (21, (.i s19))]) ⟨rfl, rfl, rfl, rfl, rfl, rfl, rfl, rfl, rfl, rfl, rfl, trivial⟩
      refine hK63 _ _ <| sr fun K83 hK83 => ww H <| mv rfl rfl <| mv rfl rfl <| mv rfl rfl <| fun a H => s_callV H rfl rfl (H.args (vs := [(.i (p18.l : Int)), (.int .u8 I81)]) rfl) (lt_ rfl) ⟨_, _, rfl, body_145, h⟩ ?_ (fun c w' => eP c w' _)
      clear H h a
      rintro _ w84 a ⟨rfl, h⟩ H
      obtain ⟨l87, hc88, h⟩ := h
      refine nk hK83 <| c_seq fun K85 hK85 => sr fun K86 hK86 => ww H <| ld rfl one_22 hc88 rfl <| bl (vs := [l87.v]) rfl rfl (fun cs => b_lenS (z := l87) sl_22) <| mv rfl rfl <| fun a H => nk hK86 <| c_block ?_
      obtain ⟨I91, m92, h128, h129⟩ := h
      refine c_loop (σ := Int) (fun z w => I91 z w) (fun z w => m92 z w) (fun z => [(3, (.pointer (some (blk b5)))), (4, (.pointer (some (blk b8)))), (7, p18.v), (8, (.func (.func F_matrix_eliminate_c1) #[] #[(.pointer (some (blk b8)))])), (9, (.func (.func F_matrix_eliminate_c2) #[] #[(.pointer (some (blk b5))), (.pointer (some (blk b8)))])), (10, (.func (.func F_matrix_eliminate_c3) #[] #[(.pointer (some (blk b8))), (.pointer (some (blk b5)))])), (11, (.i s19)), (12, (.i (p18.l : Int))), (20, (.i c3)), (21, (.i s19)), (62, (.i (l87.l : Int))), (63, (.i z))]) 0 h128 (H.weaken ⟨rfl, rfl, rfl, rfl, rfl, rfl, rfl, rfl, rfl, rfl, rfl, rfl, trivial⟩) ?_
      clear H h128
      rintro s89 a w90 h H
      replace h := h129 s89 w90 h
      clear h129
      replace H : Has 87 [] a [(3, (.pointer (some (blk b5)))), (4, (.pointer (some (blk b8)))), (7, p18.v), (8, (.func (.func F_matrix_eliminate_c1) #[] #[(.pointer (some (blk b8)))])), (9, (.func (.func F_matrix_eliminate_c2) #[] #[(.pointer (some (blk b5))), (.pointer (some (blk b8)))])), (10, (.func (.func F_matrix_eliminate_c3) #[] #[(.pointer (some (blk b8))), (.pointer (some (blk b5)))])), (11, (.i s19)), (12, (.i (p18.l : Int))), (20, (.i c3)), (21, (.i s19)), (62, (.i (l87.l : Int))), (63, (.i s89))] := H
      refine sr fun K93 hK93 => ww H <| bn rfl rfl r_lss rfl <| fun a H => nk hK93 <| c_seq fun K94 hK94 => cd H rfl h (fun h95 h => ?_) (fun h95 h => ?_)
      ·refine c_skip <| hK94 _ _ <| c_seq fun K96 hK96 => ?_
       obtain ⟨R97, h, h121⟩ := h
       have h99 : ∀ (a : Act) (w98 : World), R97 w98 → Has 87 [] a [(3, (.pointer (some (blk b5)))), (4, (.pointer (some (blk b8)))), (7, p18.v), (8, (.func (.func F_matrix_eliminate_c1) #[] #[(.pointer (some (blk b8)))])), (9, (.func (.func F_matrix_eliminate_c2) #[] #[(.pointer (some (blk b5))), (.pointer (some (blk b8)))])), (10, (.func (.func F_matrix_eliminate_c3) #[] #[(.pointer (some (blk b8))), (.pointer (some (blk b5)))])), (11, (.i s19)), (12, (.i (p18.l : Int))), (20, (.i c3)), (21, (.i s19)), (62, (.i (l87.l : Int))), (63, (.i s89))] → K96 a w98 := by
        clear h
        intro a w98 h H
        replace h := h121 w98 h
        refine hK96 _ _ <| c_reg <| ww H <| bn rfl rfl r_add rfl <| mv rfl rfl <| fun a H => c_nil <| Exists.intro (wr .i64 (s89 + 1)) ⟨h.1, h.2, H.weaken ⟨rfl, rfl, rfl, rfl, rfl, rfl, rfl, rfl, rfl, rfl, rfl, rfl, trivial⟩⟩
       clear h121
       refine c_block <| sr fun K100 hK100 => ww H <| mv rfl rfl <| ag rfl rfl <| fun a H => nk hK100 <| sr fun K101 hK101 => ww H <| mv rfl rfl <| mv rfl rfl <| bn rfl rfl r_neq rfl <| fun a H => nk hK101 <| cd H rfl h (fun h102 h => ?_) (fun h102 h => ?_)
       ·obtain ⟨l103, hc104, a105, h106, h107, h108, h⟩ := h
        refine c_reg <| ww H <| mv rfl rfl <| mv rfl rfl <| ld rfl one_22 hc104 rfl <| mv rfl rfl <| fun a H => s_idxS (s := l103) H rfl rfl rfl slc_22 h106 h107 h108 (lt_ rfl) fun a H => ?_
        obtain ⟨l109, hc110, a111, h112, h113, h114, h⟩ := h
        refine ww H <| ld rfl one_49 hc110 rfl <| mv rfl rfl <| fun a H => s_idxS (s := l109) H rfl rfl rfl slc_49 h112 h113 h114 (lt_ rfl) fun a H => ?_
        obtain ⟨l115, hc116, h⟩ := h
        refine ww H <| ld rfl one_5 hc116 rfl <| mv rfl rfl <| fun a H => s_callV H rfl rfl (H.args (vs := [(.i s89), (.int .u8 l115), (.i (p18.l : Int))]) rfl) (lt_ rfl) ⟨_, _, rfl, body_144, h⟩ ?_ (fun c w' => eP c w' _)
        clear H h a
        rintro _ w117 a ⟨rfl, h⟩ H
        exact c_nil <| h99 _ _ h (H.weaken ⟨rfl, rfl, rfl, rfl, rfl, rfl, rfl, rfl, rfl, rfl, rfl, rfl, trivial⟩)
       ·exact c_skip <| h99 _ _ h (H.weaken ⟨rfl, rfl, rfl, rfl, rfl, rfl, rfl, rfl, rfl, rfl, rfl, rfl, trivial⟩)
      ·refine c_exit ?_
       first | (simp only [Exit.then, Exit.inBlock, ↓reduceIte]; fail_if_success simp only [Nat.reduceEqDiff]) | simp only [Exit.then, Exit.inBlock, ↓reduceIte, Nat.reduceEqDiff]
       refine hK85 _ _ <| c_reg <| ww H <| mv rfl rfl <| mv rfl rfl <| fun a H => ?_
       replace h := h.get
       obtain ⟨b122, w123, n124, h⟩ := h
       refine s_bslc H rfl (by rw [H.parts (vs := [(0, (.i s19))]) rfl]; exact bs_23_1_ii640 w90 s19) (lt_ rfl) ?_
       rw [← n124.at_]
       clear H a
       intro a H
       refine n124.go ?_
       obtain ⟨s125, w126, h127, h⟩ := h
       refine s_blt H rfl (H.args (vs := [p18.v, (Slc.v (Slc.mk (some (blk b122)) 1 1))]) rfl) (lt_ rfl) (fun cs => b_app (z := s125) h127) ?_
       clear H a h127
       intro a H
       exact ww H <| ag rfl rfl <| fun a H => c_nil <| h30 _ _ _ h (H.weaken ⟨rfl, rfl, rfl, rfl, rfl, rfl, rfl, rfl, trivial⟩)
   ·refine c_skip <| hK39 _ _ <| c_reg <| ww H <| mv rfl rfl <| bn rfl rfl r_add rfl <| ag rfl rfl <| fun a H => c_nil <| Exists.intro (wr .i64 (i35 + 1)) ⟨h.1, h.2, H.weaken ⟨rfl, rfl, rfl, rfl, rfl, rfl, rfl, rfl, rfl, rfl, rfl, trivial⟩⟩
 ·refine c_exit ?_
  first | (simp only [Exit.then, Exit.inBlock, ↓reduceIte]; fail_if_success simp only [Nat.reduceEqDiff]) | simp only [Exit.then, Exit.inBlock, ↓reduceIte, Nat.reduceEqDiff]
  exact hK16 _ _ <| sr fun K143 hK143 => ww H <| mv rfl rfl <| ag rfl rfl <| fun a H => nk hK143 <| c_ret <| e_ret1 H rfl rfl h

theorem sim_gf_Field_Poly (f1 : Option Addr) (w : World) (Q : Ending → World → Prop) (h : vc_gf_Field_Poly f1 w Q) : Calls PP F_gf_Field_Poly #[(.pointer f1)] w Q := by
 unfold vc_gf_Field_Poly at h
 refine enter (n := 9) Tryz.func109 rfl rfl (le_ rfl) fun a H => sr fun K2 hK2 => ww H <| ag rfl rfl <| fun a H => nk hK2 <| c_seq fun K3 hK3 => sr fun K4 hK4 => ww H <| mv rfl rfl <| bn rfl rfl (r_eqP0 ptr_103) rfl <| fun a H => nk hK4 <| cd H rfl h (fun h5 h => ?_) (fun h5 h => ?_)
 ·exact sr fun K6 hK6 => ww H <| ag rfl rfl <| fun a H => nk hK6 <| c_ret <| e_ret1 H rfl rfl h
 ·obtain ⟨a8, h11, h⟩ := h
  refine c_skip <| hK3 _ _ <| sr fun K7 hK7 => ww H <| mv rfl rfl <| fun a H => ?_
  revert H
  revert h
  subst h11
  intro h H
  obtain ⟨l9, hc10, h⟩ := h
  exact ww H <| nl rfl rfl <| fd rfl fld_190_0 rfl <| ld rfl one_3 hc10 rfl <| ag rfl rfl <| fun a H => nk hK7 <| c_ret <| e_ret1 H rfl rfl h
end Go.Proofs.YtabifopphhpciaaGreatDoor

namespace Go.Proofs.YtabifopphhpciaaGreatDoor
open Go Go.Vc
set_option maxRecDepth 100000
set_option maxHeartbeats 4000000
theorem sim_gf_Field_AddMul (f1 : Option Addr) (d2 : Slc) (c3 : Int) (s4 : Slc) (w : World) (Q : Ending → World → Prop) (h : vc_gf_Field_AddMul f1 d2 c3 s4 w Q) : Calls PP F_gf_Field_AddMul #[(.pointer f1), d2.v, (.int .u8 c3), s4.v] w Q := by
 unfold vc_gf_Field_AddMul at h
 have eP {L : List (Nat × Value)} (c : List PanicEntry) (w' : World) (a : Act) (h : Q (.panicked c) w') (H : Has 39 [] a L) : bodyPost PP Tryz.f110 Q (.panic c) a w' := e_panic H h
 refine enter (n := 39) Tryz.func110 rfl rfl (le_ rfl) fun a H => sr fun K5 hK5 => ww H <| ag rfl rfl <| fun a H => nk hK5 <| c_seq fun K6 hK6 => sr fun K7 hK7 => ww H <| mv rfl rfl <| bn rfl rfl (r_eqP0 ptr_103) rfl <| fun a H => nk hK7 <| cd H rfl h (fun h8 h => ?_) (fun h8 h => ?_)
 ·exact sr fun K9 hK9 => ww H <| ag rfl rfl <| fun a H => nk hK9 <| c_ret <| e_ret1 H rfl rfl h
 ·refine c_skip <| hK6 _ _ <| c_seq fun K10 hK10 => sr fun K11 hK11 => ww H <| mv rfl rfl <| bl (vs := [d2.v]) rfl rfl (fun cs => b_lenS (z := d2) sl_49) <| mv rfl rfl <| bl (vs := [s4.v]) rfl rfl (fun cs => b_lenS (z := s4) sl_49) <| bn rfl rfl r_neq rfl <| fun a H => nk hK11 <| cd H rfl h (fun h12 h => ?_) (fun h12 h => ?_)
  ·exact sr fun K13 hK13 => ww H <| ag rfl rfl <| fun a H => nk hK13 <| c_ret <| e_ret1 H rfl rfl h
  ·obtain ⟨s15, w16, h17, h⟩ := h
   refine c_skip <| hK10 _ _ <| sr fun K14 hK14 => ww H <| mv rfl rfl <| fun a H => s_blt H rfl (H.args (vs := [Slc.nil.v, s4.v]) rfl) (lt_ rfl) (fun cs => b_app (z := s15) h17) ?_
   clear H a h17
   intro a H
   refine ww H <| ag rfl rfl <| fun a H => nk hK14 <| c_seq fun K18 hK18 => sr fun K19 hK19 => ww H <| mv rfl rfl <| bl (vs := [s15.v]) rfl rfl (fun cs => b_lenS (z := s15) sl_49) <| mv rfl rfl <| fun a H => nk hK19 <| c_block ?_
   obtain ⟨I22, m23, h56, h57⟩ := h
   refine c_loop (σ := Int) (fun z w => I22 z w) (fun z w => m23 z w) (fun z => [(0, (.pointer f1)), (1, d2.v), (2, (.int .u8 c3)), (21, s15.v), (22, (.i (s15.l : Int))), (23, (.i z))]) 0 h56 (H.weaken ⟨rfl, rfl, rfl, rfl, rfl, rfl, trivial⟩) ?_
   clear H h56
   rintro s20 a w21 h H
   replace h := h57 s20 w21 h
   clear h57
   replace H : Has 39 [] a [(0, (.pointer f1)), (1, d2.v), (2, (.int .u8 c3)), (21, s15.v), (22, (.i (s15.l : Int))), (23, (.i s20))] := H
   refine sr fun K24 hK24 => ww H <| bn rfl rfl r_lss rfl <| fun a H => nk hK24 <| c_seq fun K25 hK25 => cd H rfl h (fun h26 h => ?_) (fun h26 h => ?_)
   ·obtain ⟨a29, h30, h31, h32, h⟩ := h
    refine c_skip <| hK25 _ _ <| c_seq fun K27 hK27 => c_block <| sr fun K28 hK28 => ww H <| mv rfl rfl <| fun a H => s_idxS (s := s15) H rfl rfl rfl slc_49 h30 h31 h32 (lt_ rfl) fun a H => ?_
    obtain ⟨l33, hc34, h⟩ := h
    refine ww H <| ld rfl one_5 hc34 rfl <| ag rfl rfl <| ag rfl rfl <| fun a H => nk hK28 <| ?_
    replace H := H.weaken (L' := [(0, (.pointer f1)), (1, d2.v), (2, (.int .u8 c3)), (10, (.i s20)), (11, (.int .u8 l33)), (21, s15.v), (22, (.i (s15.l : Int))), (23, (.i s20))]) ⟨rfl, rfl, rfl, rfl, rfl, rfl, rfl, rfl, trivial⟩
    obtain ⟨a35, h36, h37, h38, l39, hc40, h⟩ := h
    refine c_any (V := [(0, d2.v), (1, (.i s20)), (2, (.pointer (some (a35.add (Int.toNat (s20) * 1))))), (3, (.int .u8 l39)), (4, (.pointer f1)), (5, (.int .u8 c3)), (6, (.int .u8 l33))]) (⟨[[], [], [0, 1], [2], [], [], [], [4, 5, 6], [3, 7], [0, 1, 2, 3, 4, 5, 6, 7, 8], [0, 1, 2, 3, 4, 5, 6, 7, 8, 9]], [some 28, some 29, some 30, some 31, some 32, some 33, some 34, some 35, some 36, some 37, none], [7, 10], [0, 0, 0, 0, 0, 0, 0, 0, 1, 1, 1], [1, 1, 1, 1, 0, 0, 0, 1, 1, 1, 2]⟩ : Rg) [(0, (.pointer f1)), (1, d2.v), (2, (.int .u8 c3)), (10, (.i s20)), (11, (.int .u8 l33)), (21, s15.v), (22, (.i (s15.l : Int))), (23, (.i s20))] mixed (by kernel_rfl) H <| Stg.eff [0, 1, 2, 3, 4, 5, 6] (by kernel_rfl) rfl (.cons ?_ (.cons ?_ (.cons ?_ (.cons ?_ (.cons ?_ (.cons ?_ (.cons ?_ .nil))))))) ?_
    ·exact Aw rfl rfl <| mv rfl rfl <| An rfl
    ·exact Aw rfl rfl <| mv rfl rfl <| An rfl
    ·exact Ans.mk rfl rfl fun a H => s_idxS (s := d2) H rfl rfl rfl slc_49 h36 h37 h38 (lt_ rfl) fun a H => Ans.fin H rfl
    ·exact Aw rfl rfl <| ld rfl one_5 hc40 rfl <| An rfl
    ·exact Aw rfl rfl <| mv rfl rfl <| An rfl
    ·exact Aw rfl rfl <| mv rfl rfl <| An rfl
    ·exact Aw rfl rfl <| mv rfl rfl <| An rfl
    ·refine cl1 h body_107 rfl rfl eP fun M42 w41 h => fun a H => ?_
     obtain ⟨hc43, a44, h45, h46, h47, h⟩ := h
     refine c_nil <| effQ.go [(8, (.int .u8 (xorI .u8 l39 M42))), (9, (.pointer (some (a44.add (Int.toNat (s20) * 1)))))] H rfl rfl <| Stg.eff [0, 1, 2, 3, 8, 9] (by kernel_rfl) rfl (.cons ?_ (.cons ?_ (.cons ?_ (.cons ?_ (.cons ?_ (.cons ?_ .nil)))))) ?_
     ·exact Aw rfl rfl <| mv rfl rfl <| An rfl
     ·exact Aw rfl rfl <| mv rfl rfl <| An rfl
     ·exact Ans.mk rfl rfl fun a H => s_idxS (s := d2) H rfl rfl rfl slc_49 h36 h37 h38 (lt_ rfl) fun a H => Ans.fin H rfl
     ·exact Aw rfl rfl <| ld rfl one_5 hc43 rfl <| An rfl
     ·exact Aw rfl rfl <| bn rfl rfl r_xor rfl <| An rfl
     ·exact Ans.mk rfl rfl fun a H => s_idxS (s := d2) H rfl rfl rfl slc_49 h45 h46 h47 (lt_ rfl) fun a H => Ans.fin H rfl
     ·refine st h rfl rfl one_5 rfl fun w48 w48S h => fun a H => c_nil <| effQ.go0 [] H rfl rfl <| Stg.fin [] (by kernel_rfl) .nil ?_
      ·intro a H
       replace H := H.weaken (L' := [(0, (.pointer f1)), (1, d2.v), (2, (.int .u8 c3)), (21, s15.v), (22, (.i (s15.l : Int))), (23, (.i s20))]) ⟨rfl, rfl, rfl, rfl, rfl, rfl, trivial⟩
       refine hK27 _ _ <| c_reg <| ww H <| bn rfl rfl r_add rfl <| mv rfl rfl <| fun a H => c_nil <| Exists.intro (wr .i64 (s20 + 1)) ⟨h.1, h.2, H.weaken ⟨rfl, rfl, rfl, rfl, rfl, rfl, trivial⟩⟩
   ·refine c_exit ?_
    first | (simp only [Exit.then, Exit.inBlock, ↓reduceIte]; fail_if_success simp only [Nat.reduceEqDiff]) | simp only [Exit.then, Exit.inBlock, ↓reduceIte, Nat.reduceEqDiff]
    exact hK18 _ _ <| sr fun K55 hK55 => ww H <| ag rfl rfl <| fun a H => nk hK55 <| c_ret <| e_ret1 H rfl rfl h

theorem sim_slices_ContainsFunc_byte_byte_111 (s1 : Slc) (f2 : Value) (w : World) (Q : Ending → World → Prop) (h : vc_slices_ContainsFunc_byte_byte_111 s1 f2 w Q) : Calls PP F_slices_ContainsFunc_byte_byte_111 #[s1.v, f2] w Q := by
 unfold vc_slices_ContainsFunc_byte_byte_111 at h
 have eP {L : List (Nat × Value)} (c : List PanicEntry) (w' : World) (a : Act) (h : Q (.panicked c) w') (H : Has 9 [] a L) : bodyPost PP Tryz.f111 Q (.panic c) a w' := e_panic H h
 exact enter (n := 9) Tryz.func111 rfl rfl (le_ rfl) fun a H => sr fun K3 hK3 => ww H <| ag rfl rfl <| fun a H => nk hK3 <| sr fun K4 hK4 => ww H <| mv rfl rfl <| mv rfl rfl <| cl1 h body_147 rfl rfl eP fun r6 w5 h => bn rfl rfl r_geq rfl <| ag rfl rfl <| fun a H => nk hK4 <| c_ret <| e_ret1 H rfl rfl h

theorem sim_code_Code_shaped_c1 (r1 : Slc) (c2 : Addr) (w : World) (Q : Ending → World → Prop) (h : vc_code_Code_shaped_c1 r1 c2 w Q) : Calls PP F_code_Code_shaped_c1 #[r1.v, (.pointer (some c2))] w Q := by
 unfold vc_code_Code_shaped_c1 at h
 refine enter (n := 11) Tryz.func112 rfl rfl (le_ rfl) fun a H => ?_
 obtain ⟨l5, hc6, a7, h8, h9, h10, h⟩ := h
 refine sr fun K3 hK3 => ww H <| ag rfl rfl <| fun a H => nk hK3 <| sr fun K4 hK4 => ww H <| mv rfl rfl <| bl (vs := [r1.v]) rfl rfl (fun cs => b_lenS (z := r1) sl_49) <| ld rfl one_22 hc6 rfl <| fun a H => s_idxS (s := l5) H rfl rfl rfl slc_22 h8 h9 h10 (lt_ rfl) fun a H => ?_
 obtain ⟨l11, hc12, h⟩ := h
 exact ww H <| ld rfl one_49 hc12 rfl <| bl (vs := [l11.v]) rfl rfl (fun cs => b_lenS (z := l11) sl_49) <| bn rfl rfl r_neq rfl <| ag rfl rfl <| fun a H => nk hK4 <| c_ret <| e_ret1 H rfl rfl h

theorem sim_code_Code_Row (c1 : Option Addr) (d2 : Slc) (i3 : Int) (w : World) (Q : Ending → World → Prop) (h : vc_code_Code_Row c1 d2 i3 w Q) : Calls PP F_code_Code_Row #[(.pointer c1), d2.v, (.i i3)] w Q := by
 unfold vc_code_Code_Row at h
 have eP {L : List (Nat × Value)} (c : List PanicEntry) (w' : World) (a : Act) (h : Q (.panicked c) w') (H : Has 34 [] a L) : bodyPost PP Tryz.f124 Q (.panic c) a w' := e_panic H h
 refine enter (n := 34) Tryz.func124 rfl rfl (le_ rfl) fun a H => sr fun K4 hK4 => ww H <| ag rfl rfl <| ag rfl rfl <| fun a H => nk hK4 <| c_seq fun K5 hK5 => sr fun K6 hK6 => ww H <| mv rfl rfl <| bn rfl rfl (r_eqP0 ptr_42) rfl <| fun a H => nk hK6 <| cd H rfl h (fun h7 h => ?_) (fun h7 h => ?_)
 ·exact sr fun K8 hK8 => ww H <| ag rfl rfl <| ag rfl rfl <| fun a H => nk hK8 <| c_ret <| e_ret2 H rfl rfl rfl h
 ·obtain ⟨x17, h18, h19, h⟩ := h
  refine c_skip <| hK5 _ _ <| c_seq fun K9 hK9 => sr fun K10 hK10 => ww H <| mv rfl rfl <| bn rfl rfl r_lss rfl <| mv rfl rfl <| fun a H => g_join (n := 34) [(19, (.bool x17)), (0, (.pointer c1)), (1, d2.v), (2, (.i i3))] (.succ (.succ (.succ (.succ (.succ (.succ (.succ (.zero _)))))))) ?_ ?_
  ·intro h12
   try clear h
   rcases Bool.eq_false_or_eq_true (decide (i3 < 0)) with h11 | h11
   ·replace H := H.ch (t := 12) (b := true) rfl h11
    refine ww H <| sk rfl rfl rfl rfl <| sk rfl rfl rfl rfl <| sk rfl rfl rfl rfl <| sk rfl rfl rfl rfl <| sk rfl rfl rfl rfl <| sk rfl rfl rfl rfl <| pT rfl rfl rfl <| fun a H => ?_
    replace h := h19 h11
    subst h
    exact h12 _ (H.weaken ⟨rfl, rfl, rfl, rfl, trivial⟩)
   ·replace H := H.ch (t := 12) (b := false) rfl h11
    replace h := h18 h11
    obtain ⟨a13, h16, h⟩ := h
    refine ww H <| gmv rfl rfl rfl rfl <| gmv rfl rfl rfl rfl <| fun a H => ?_
    revert H
    revert h
    subst h16
    intro h H
    obtain ⟨l14, hc15, h⟩ := h
    refine ww H <| gnl rfl rfl rfl rfl <| gfd rfl rfl rfl fld_107_1 rfl <| gld rfl rfl rfl one_3 hc15 rfl <| gbn rfl rfl rfl rfl r_geq rfl <| pF rfl rfl rfl <| fun a H => ?_
    subst h
    exact h12 _ (H.weaken ⟨rfl, rfl, rfl, rfl, trivial⟩)
  ·clear H a
   clear h18 h19
   intro a H
   refine nk hK10 <| cd H rfl h (fun h20 h => ?_) (fun h20 h => ?_)
   ·exact sr fun K21 hK21 => ww H <| ag rfl rfl <| ag rfl rfl <| fun a H => nk hK21 <| c_ret <| e_ret2 H rfl rfl rfl h
   ·refine c_skip <| hK9 _ _ <| c_seq fun K22 hK22 => sr fun K23 hK23 => ww H <| mv rfl rfl <| mv rfl rfl <| cl1 h body_79 rfl rfl eP fun s25 w24 h => fun a H => s_un H rfl rfl r_not (lt_ rfl) fun a H => nk hK23 <| cd H rfl h (fun h26 h => ?_) (fun h26 h => ?_)
    ·exact sr fun K27 hK27 => ww H <| ag rfl rfl <| ag rfl rfl <| fun a H => nk hK27 <| c_ret <| e_ret2 H rfl rfl rfl h
    ·obtain ⟨a29, h44, h⟩ := h
     refine c_skip <| hK22 _ _ <| sr fun K28 hK28 => ww H <| mv rfl rfl <| mv rfl rfl <| fun a H => ?_
     revert H
     revert h
     subst h44
     intro h H
     obtain ⟨l30, hc31, a32, h33, h34, h35, h⟩ := h
     refine ww H <| nl rfl rfl <| fd rfl fld_107_3 rfl <| ld rfl one_22 hc31 rfl <| mv rfl rfl <| fun a H => s_idxS (s := l30) H rfl rfl rfl slc_22 h33 h34 h35 (lt_ rfl) fun a H => ?_
     obtain ⟨l36, hc37, h⟩ := h
     exact ww H <| ld rfl one_49 hc37 rfl <| mv rfl rfl <| cl1 h body_80 rfl rfl eP fun s39 w38 h => ag rfl rfl <| ag rfl rfl <| fun a H => nk hK28 <| c_ret <| e_ret2 H rfl rfl rfl h

theorem sim_tag_Next (C1 C2 u3 c4 : Int) (w : World) (Q : Ending → World → Prop) (h : vc_tag_Next C1 C2 u3 c4 w Q) : Calls PP F_tag_Next #[(.agg #[(.i C1), (.i C2)]), (.i u3), (.i c4)] w Q := by
 unfold vc_tag_Next at h
 have eP {L : List (Nat × Value)} (c : List PanicEntry) (w' : World) (a : Act) (h : Q (.panicked c) w') (H : Has 51 [] a L) : bodyPost PP Tryz.f125 Q (.panic c) a w' := e_panic H h
 refine enter (n := 51) Tryz.func125 rfl rfl (le_ rfl) fun a H => sr fun K5 hK5 => ww H <| bx h rfl rfl rfl rfl fun b6 w7 n8 h => al h zero_27 rfl rfl rfl fun b9 w10 n11 h => ag rfl rfl <| fun a H => nk hK5 <| c_seq fun K12 hK12 => sr fun K13 hK13 => ww H <| lN (l := [(.i C1), (.i C2)]) rfl agg_27 rfl ⟨(n11.old (n8.cell (i := 0) rfl)), (n11.old (n8.cell (i := 1) rfl)), trivial⟩ rfl <| cl1 h body_15 rfl rfl eP fun V15 w14 h => fun a H => s_un H rfl rfl r_not (lt_ rfl) fun a H => nk hK13 <| cd H rfl h (fun h16 h => ?_) (fun h16 h => ?_)
 ·refine sr fun K17 hK17 => s_build H rfl (by rw [H.parts (vs := []) rfl]; exact bd_27 _) (lt_ rfl) fun a H => ww H <| sN h rfl rfl agg_27 rfl rfl fun w18 h => ag rfl rfl <| fun a H => nk hK17 <| c_ret ?_
  obtain ⟨C19, hc20, C21, hc22, h⟩ := h
  exact e_ret2 H rfl ⟨_, rfl, run_loadN (l := [(.i C19), (.i C21)]) agg_27 rfl ⟨hc20, hc22, trivial⟩⟩ rfl h
 ·refine c_skip <| hK12 _ _ <| c_seq fun K23 hK23 => sr fun K24 hK24 => ww H <| mv rfl rfl <| bn rfl rfl r_lss rfl <| mv rfl rfl <| fun a H => g_join (n := 51) [(18, (.bool ((decide (u3 < 0)) || (decide (4611686018427387903 < u3))))), (1, (.i u3)), (2, (.i c4)), (3, (.pointer (some (blk b6)))), (6, (.pointer (some (blk b9))))] (.succ (.succ (.succ (.zero _)))) ?_ ?_
  ·intro h26
   try clear h
   rcases Bool.eq_false_or_eq_true (decide (u3 < 0)) with h25 | h25
   ·replace H := H.ch (t := 15) (b := true) rfl h25
    exact ww H <| sk rfl rfl rfl rfl <| sk rfl rfl rfl rfl <| pT rfl rfl rfl <| fun a H => h26 _ (H.weaken ⟨by rw [h25]; rfl, rfl, rfl, rfl, rfl, trivial⟩)
   ·replace H := H.ch (t := 15) (b := false) rfl h25
    exact ww H <| gmv rfl rfl rfl rfl <| gbn rfl rfl rfl rfl r_gtr rfl <| pF rfl rfl rfl <| fun a H => h26 _ (H.weaken ⟨by rw [h25]; rfl, rfl, rfl, rfl, rfl, trivial⟩)
  ·clear H a
   intro a H
   refine ww H <| mv rfl rfl <| fun a H => g_join (n := 51) [(22, (.bool (((decide (u3 < 0)) || (decide (4611686018427387903 < u3))) || (decide (c4 < 1))))), (1, (.i u3)), (2, (.i c4)), (3, (.pointer (some (blk b6)))), (6, (.pointer (some (blk b9))))] (.succ (.succ (.succ (.zero _)))) ?_ ?_
   ·intro h28
    try clear h
    rcases Bool.eq_false_or_eq_true ((decide (u3 < 0)) || (decide (4611686018427387903 < u3))) with h27 | h27
    ·replace H := H.ch (t := 19) (b := true) rfl h27
     exact ww H <| sk rfl rfl rfl rfl <| sk rfl rfl rfl rfl <| pT rfl rfl rfl <| fun a H => h28 _ (H.weaken ⟨by rw [h27]; rfl, rfl, rfl, rfl, rfl, trivial⟩)
    ·replace H := H.ch (t := 19) (b := false) rfl h27
     exact ww H <| gmv rfl rfl rfl rfl <| gbn rfl rfl rfl rfl r_lss rfl <| pF rfl rfl rfl <| fun a H => h28 _ (H.weaken ⟨by rw [h27]; rfl, rfl, rfl, rfl, rfl, trivial⟩)
   ·clear H a
    intro a H
    refine ww H <| mv rfl rfl <| fun a H => g_join (n := 51) [(26, (.bool ((((decide (u3 < 0)) || (decide (4611686018427387903 < u3))) || (decide (c4 < 1))) || (decide (65535 < c4))))), (1, (.i u3)), (2, (.i c4)), (3, (.pointer (some (blk b6)))), (6, (.pointer (some (blk b9))))] (.succ (.succ (.succ (.zero _)))) ?_ ?_
    ·intro h30
     try clear h
     rcases Bool.eq_false_or_eq_true (((decide (u3 < 0)) || (decide (4611686018427387903 < u3))) || (decide (c4 < 1))) with h29 | h29
     ·replace H := H.ch (t := 23) (b := true) rfl h29
      exact ww H <| sk rfl rfl rfl rfl <| sk rfl rfl rfl rfl <| pT rfl rfl rfl <| fun a H => h30 _ (H.weaken ⟨by rw [h29]; rfl, rfl, rfl, rfl, rfl, trivial⟩)
     ·replace H := H.ch (t := 23) (b := false) rfl h29
      exact ww H <| gmv rfl rfl rfl rfl <| gbn rfl rfl rfl rfl r_gtr rfl <| pF rfl rfl rfl <| fun a H => h30 _ (H.weaken ⟨by rw [h29]; rfl, rfl, rfl, rfl, rfl, trivial⟩)
    ·clear H a
     intro a H
     refine nk hK24 <| cd H rfl h (fun h31 h => ?_) (fun h31 h => ?_)
     ·refine sr fun K32 hK32 => s_build H rfl (by rw [H.parts (vs := []) rfl]; exact bd_27 _) (lt_ rfl) fun a H => ww H <| sN h rfl rfl agg_27 rfl rfl fun w33 h => ag rfl rfl <| fun a H => nk hK32 <| c_ret ?_
      obtain ⟨C34, hc35, C36, hc37, h⟩ := h
      exact e_ret2 H rfl ⟨_, rfl, run_loadN (l := [(.i C34), (.i C36)]) agg_27 rfl ⟨hc35, hc37, trivial⟩⟩ rfl h
     ·obtain ⟨l39, hc40, h⟩ := h
      refine c_skip <| hK23 _ _ <| sr fun K38 hK38 => ww H <| fd rfl fld_27_0 rfl <| ld rfl one_2 hc40 rfl <| mv rfl rfl <| bn rfl rfl r_add rfl <| bl (vs := [(.i l39), (.i (wr .i64 (u3 + 1)))]) rfl rfl (fun cs => b_max) <| ag rfl rfl <| fun a H => nk hK38 <| c_seq fun K41 hK41 => ?_
      obtain ⟨R43, h, h72⟩ := h
      have h60 : ∀ (a : Act) (c42 : Int) (w44 : World), R43 c42 w44 → Has 51 [] a [(2, (.i c4)), (6, (.pointer (some (blk b9)))), (8, (.i c42))] → K41 a w44 := by
       clear h
       intro a c42 w44 h H
       replace h := h72 c42 w44 h
       refine hK41 _ _ <| c_seq fun K45 hK45 => sr fun K46 hK46 => ww H <| mv rfl rfl <| bn rfl rfl r_gtr rfl <| fun a H => nk hK46 <| cd H rfl h (fun h47 h => ?_) (fun h47 h => ?_)
       ·refine sr fun K48 hK48 => s_build H rfl (by rw [H.parts (vs := []) rfl]; exact bd_27 _) (lt_ rfl) fun a H => ww H <| sN h rfl rfl agg_27 rfl rfl fun w49 h => ag rfl rfl <| fun a H => nk hK48 <| c_ret ?_
        obtain ⟨C50, hc51, C52, hc53, h⟩ := h
        exact e_ret2 H rfl ⟨_, rfl, run_loadN (l := [(.i C50), (.i C52)]) agg_27 rfl ⟨hc51, hc53, trivial⟩⟩ rfl h
       ·refine c_skip <| hK45 _ _ <| sr fun K54 hK54 => ww H <| mv rfl rfl <| mv rfl rfl <| fun a H => s_build H rfl (by rw [H.parts (vs := [(0, (.i c42)), (1, (.i c4))]) rfl]; exact bd_27_ii640_ii641 _ c42 c4) (lt_ rfl) fun a H => ww H <| sN h rfl rfl agg_27 rfl rfl fun w55 h => ag rfl rfl <| fun a H => nk hK54 <| c_ret ?_
        obtain ⟨C56, hc57, C58, hc59, h⟩ := h
        exact e_ret2 H rfl ⟨_, rfl, run_loadN (l := [(.i C56), (.i C58)]) agg_27 rfl ⟨hc57, hc59, trivial⟩⟩ rfl h
      clear h72
      obtain ⟨l62, hc63, x68, h69, h70, h⟩ := h
      refine sr fun K61 hK61 => ww H <| mv rfl rfl <| fd rfl fld_27_0 rfl <| ld rfl one_2 hc63 rfl <| bn rfl rfl r_eql rfl <| mv rfl rfl <| fun a H => g_join (n := 51) [(42, (.bool x68)), (2, (.i c4)), (6, (.pointer (some (blk b9)))), (8, (.i (maxI l39 (wr .i64 (u3 + 1)))))] (.succ (.succ (.succ (.succ (.succ (.zero _)))))) ?_ ?_
      ·intro h65
       try clear h
       rcases Bool.eq_false_or_eq_true (decide ((maxI l39 (wr .i64 (u3 + 1))) = l62)) with h64 | h64
       ·replace H := H.ch (t := 37) (b := true) rfl h64
        replace h := h69 h64
        obtain ⟨l66, hc67, h⟩ := h
        refine ww H <| gmv rfl rfl rfl rfl <| gfd rfl rfl rfl fld_27_1 rfl <| gld rfl rfl rfl one_3 hc67 rfl <| gbn rfl rfl rfl rfl r_leq rfl <| pT rfl rfl rfl <| fun a H => ?_
        subst h
        exact h65 _ (H.weaken ⟨rfl, rfl, rfl, rfl, trivial⟩)
       ·replace H := H.ch (t := 37) (b := false) rfl h64
        refine ww H <| sk rfl rfl rfl rfl <| sk rfl rfl rfl rfl <| sk rfl rfl rfl rfl <| sk rfl rfl rfl rfl <| pF rfl rfl rfl <| fun a H => ?_
        replace h := h70 h64
        subst h
        exact h65 _ (H.weaken ⟨rfl, rfl, rfl, rfl, trivial⟩)
      ·clear H a
       clear h69 h70
       intro a H
       refine nk hK61 <| cd H rfl h (fun h71 h => ?_) (fun h71 h => ?_)
       ·exact c_reg <| ww H <| mv rfl rfl <| bn rfl rfl r_add rfl <| ag rfl rfl <| fun a H => c_nil <| h60 _ _ _ h (H.weaken ⟨rfl, rfl, rfl, trivial⟩)
       ·exact c_skip <| h60 _ _ _ h (H.weaken ⟨rfl, rfl, rfl, trivial⟩)

theorem sim_client_operation_top_c1 (p1 C2 C3 : Int) (h4 : Bool) (d5 : Slc) (c6 : Addr) (w : World) (Q : Ending → World → Prop) (h : vc_client_operation_top_c1 p1 C2 C3 h4 d5 c6 w Q) : Calls PP F_client_operation_top_c1 #[(.i p1), (.agg #[(.i C2), (.i C3), (.bool h4), d5.v]), (.pointer (some c6))] w Q := by
 unfold vc_client_operation_top_c1 at h
 have eP {L : List (Nat × Value)} (c : List PanicEntry) (w' : World) (a : Act) (h : Q (.panicked c) w') (H : Has 11 [] a L) : bodyPost PP Tryz.f126 Q (.panic c) a w' := e_panic H h
 refine enter (n := 11) Tryz.func126 rfl rfl (le_ rfl) fun a H => sr fun K7 hK7 => ww H <| bx h rfl rfl rfl rfl fun b8 w9 n10 h => fun a H => ?_
 obtain ⟨C12, hc13, C14, hc15, h⟩ := h
 refine ww H <| ag rfl rfl <| fun a H => nk hK7 <| sr fun K11 hK11 => ww H <| lN (l := [(.i C12), (.i C14)]) rfl agg_27 rfl ⟨hc13, hc15, trivial⟩ rfl <| fd rfl fld_119_0 rfl <| lN (l := [(.i C2), (.i C3)]) rfl agg_27 rfl ⟨(n10.cell (i := 0) rfl), (n10.cell (i := 1) rfl), trivial⟩ rfl <| fun a H => ?_
 replace h := h.get
 obtain ⟨b16, w17, n18, h⟩ := h
 refine s_bslc H rfl (by rw [H.parts (vs := [(0, (.agg #[(.i C12), (.i C14)])), (1, (.agg #[(.i C2), (.i C3)]))]) rfl]; exact bs_174_2_ii64ii640_ii64ii641 w9 C12 C14 C2 C3) (lt_ rfl) ?_
 rw [← n18.at_]
 clear H a
 intro a H
 exact n18.go <| ww H <| cl2 h body_51 rfl rfl eP fun C20 C21 w19 h => sN h rfl rfl agg_27 rfl rfl fun w22 h => fun a H => nk hK11 <| sr fun K23 hK23 => ww H <| ag rfl rfl <| fun a H => nk hK23 <| c_ret <| e_ret1 H rfl rfl h

end Go.Proofs.YtabifopphhpciaaGreatDoor

namespace Go.Proofs.YtabifopphhpciaaGreatDoor
open Go Go.Vc
set_option maxRecDepth 100000
set_option maxHeartbeats 4000000
theorem sim_matrix_eliminate_c1 (i1 j2 : Int) (c3 : Addr) (w : World) (Q : Ending → World → Prop) (h : vc_matrix_eliminate_c1 i1 j2 c3 w Q) : Calls PP F_matrix_eliminate_c1 #[(.i i1), (.i j2), (.pointer (some c3))] w Q := by
 unfold vc_matrix_eliminate_c1 at h
 refine enter (n := 19) Tryz.func143 rfl rfl (le_ rfl) fun a H => ?_
 replace H := H.weaken (L' := [(0, (.i i1)), (1, (.i j2)), (2, (.pointer (some c3)))]) ⟨rfl, rfl, rfl, trivial⟩
 obtain ⟨l4, hc5, l6, hc7, l8, hc9, a10, h11, h12, h13, l14, hc15, l16, hc17, a18, h19, h20, h21, l22, hc23, a24, h25, h26, h27, h⟩ := h
 refine c_any (V := [(0, l4.v), (1, (.i i1)), (2, l6.v), (3, (.i j2)), (4, l8.v), (5, (.i j2)), (6, (.pointer (some (a10.add (Int.toNat (j2) * 1))))), (7, l14.v), (8, l16.v), (9, (.i i1)), (10, (.pointer (some (a18.add (Int.toNat (i1) * 1))))), (11, l22.v), (12, (.pointer (some (a24.add (Int.toNat (i1) * 1)))))]) (⟨[[], [], [], [], [], [], [4, 5], [6], [], [], [8, 9], [10], [0, 1, 4, 5, 6, 7, 11], [0, 1, 4, 5, 6, 7, 11, 12], [0, 1, 2, 3, 4, 5, 6, 7, 8, 9, 10, 11, 12, 13], [0, 1, 2, 3, 4, 5, 6, 7, 8, 9, 10, 11, 12, 13, 14]], [some 5, some 6, some 7, some 8, some 9, some 10, some 11, some 12, some 13, some 14, some 15, some 16, some 17, none, some 18, none], [13, 15], [0, 0, 0, 0, 0, 0, 0, 0, 0, 0, 0, 0, 0, 0, 1, 1], [0, 0, 1, 1, 0, 0, 0, 0, 0, 0, 0, 0, 0, 1, 1, 2]⟩ : Rg) [(0, (.i i1)), (1, (.i j2)), (2, (.pointer (some c3)))] mixed (by kernel_rfl) H <| Stg.eff [0, 1, 2, 3, 4, 5, 6, 7, 8, 9, 10, 11, 12] (by kernel_rfl) rfl (.cons ?_ (.cons ?_ (.cons ?_ (.cons ?_ (.cons ?_ (.cons ?_ (.cons ?_ (.cons ?_ (.cons ?_ (.cons ?_ (.cons ?_ (.cons ?_ (.cons ?_ .nil))))))))))))) ?_
 ·exact Aw rfl rfl <| ld rfl one_22 hc5 rfl <| An rfl
 ·exact Aw rfl rfl <| mv rfl rfl <| An rfl
 ·exact Aw rfl rfl <| ld rfl one_22 hc7 rfl <| An rfl
 ·exact Aw rfl rfl <| mv rfl rfl <| An rfl
 ·exact Aw rfl rfl <| ld rfl one_22 hc9 rfl <| An rfl
 ·exact Aw rfl rfl <| mv rfl rfl <| An rfl
 ·exact Ans.mk rfl rfl fun a H => s_idxS (s := l8) H rfl rfl rfl slc_22 h11 h12 h13 (lt_ rfl) fun a H => Ans.fin H rfl
 ·exact Aw rfl rfl <| ld rfl one_49 hc15 rfl <| An rfl
 ·exact Aw rfl rfl <| ld rfl one_22 hc17 rfl <| An rfl
 ·exact Aw rfl rfl <| mv rfl rfl <| An rfl
 ·exact Ans.mk rfl rfl fun a H => s_idxS (s := l16) H rfl rfl rfl slc_22 h19 h20 h21 (lt_ rfl) fun a H => Ans.fin H rfl
 ·exact Aw rfl rfl <| ld rfl one_49 hc23 rfl <| An rfl
 ·exact Ans.mk rfl rfl fun a H => s_idxS (s := l4) H rfl rfl rfl slc_22 h25 h26 h27 (lt_ rfl) fun a H => Ans.fin H rfl
 ·refine st h rfl rfl one_49 rfl fun w28 w28S h => fun a H => ?_
  obtain ⟨hc31, a32, h33, h34, h35, h⟩ := h
  refine c_nil <| effQ.go0 [(14, (.pointer (some (a32.add (Int.toNat (j2) * 1)))))] H rfl rfl <| Stg.eff [2, 3, 14] (by kernel_rfl) rfl (.cons ?_ (.cons ?_ (.cons ?_ .nil))) ?_
  ·exact Aw rfl rfl <| ld rfl one_22 hc31 rfl <| An rfl
  ·exact Aw rfl rfl <| mv rfl rfl <| An rfl
  ·exact Ans.mk rfl rfl fun a H => s_idxS (s := l6) H rfl rfl rfl slc_22 h33 h34 h35 (lt_ rfl) fun a H => Ans.fin H rfl
  ·refine st h rfl rfl one_49 rfl fun w36 w36S h => fun a H => c_nil <| effQ.go0 [] H rfl rfl <| Stg.fin [] (by kernel_rfl) .nil ?_
   ·intro a H
    replace H := H.weaken (L' := []) trivial
    exact e_ret0 H rfl h

theorem sim_matrix_eliminate_c2 (t1 c2 f3 : Int) (c4 c5 : Addr) (w : World) (Q : Ending → World → Prop) (h : vc_matrix_eliminate_c2 t1 c2 f3 c4 c5 w Q) : Calls PP F_matrix_eliminate_c2 #[(.i t1), (.int .u8 c2), (.i f3), (.pointer (some c4)), (.pointer (some c5))] w Q := by
 unfold vc_matrix_eliminate_c2 at h
 have eP {L : List (Nat × Value)} (c : List PanicEntry) (w' : World) (a : Act) (h : Q (.panicked c) w') (H : Has 19 [] a L) : bodyPost PP Tryz.f144 Q (.panic c) a w' := e_panic H h
 refine enter (n := 19) Tryz.func144 rfl rfl (le_ rfl) fun a H => ?_
 replace H := H.weaken (L' := [(0, (.i t1)), (1, (.int .u8 c2)), (2, (.i f3)), (3, (.pointer (some c4))), (4, (.pointer (some c5)))]) ⟨rfl, rfl, rfl, rfl, rfl, trivial⟩
 obtain ⟨l6, hc7, l8, hc9, a10, h11, h12, h13, l14, hc15, l16, hc17, a18, h19, h20, h21, l22, hc23, h⟩ := h
 refine c_any (V := [(0, (.pointer l6)), (1, l8.v), (2, (.i t1)), (3, (.pointer (some (a10.add (Int.toNat (t1) * 1))))), (4, l14.v), (5, (.int .u8 c2)), (6, l16.v), (7, (.i f3)), (8, (.pointer (some (a18.add (Int.toNat (f3) * 1))))), (9, l22.v)]) (⟨[[], [], [], [1, 2], [3], [], [], [], [6, 7], [8], [0, 4, 5, 9]], [some 8, some 9, some 10, some 11, some 12, some 13, some 14, some 15, some 16, some 17, some 18], [10], [0, 0, 0, 0, 0, 0, 0, 0, 0, 0, 0], [0, 0, 0, 0, 0, 0, 0, 0, 0, 0, 1]⟩ : Rg) [(0, (.i t1)), (1, (.int .u8 c2)), (2, (.i f3)), (3, (.pointer (some c4))), (4, (.pointer (some c5)))] mixed (by kernel_rfl) H <| Stg.eff [0, 1, 2, 3, 4, 5, 6, 7, 8, 9] (by kernel_rfl) rfl (.cons ?_ (.cons ?_ (.cons ?_ (.cons ?_ (.cons ?_ (.cons ?_ (.cons ?_ (.cons ?_ (.cons ?_ (.cons ?_ .nil)))))))))) ?_
 ·exact Aw rfl rfl <| ld rfl one_103 hc7 rfl <| An rfl
 ·exact Aw rfl rfl <| ld rfl one_22 hc9 rfl <| An rfl
 ·exact Aw rfl rfl <| mv rfl rfl <| An rfl
 ·exact Ans.mk rfl rfl fun a H => s_idxS (s := l8) H rfl rfl rfl slc_22 h11 h12 h13 (lt_ rfl) fun a H => Ans.fin H rfl
 ·exact Aw rfl rfl <| ld rfl one_49 hc15 rfl <| An rfl
 ·exact Aw rfl rfl <| mv rfl rfl <| An rfl
 ·exact Aw rfl rfl <| ld rfl one_22 hc17 rfl <| An rfl
 ·exact Aw rfl rfl <| mv rfl rfl <| An rfl
 ·exact Ans.mk rfl rfl fun a H => s_idxS (s := l16) H rfl rfl rfl slc_22 h19 h20 h21 (lt_ rfl) fun a H => Ans.fin H rfl
 ·exact Aw rfl rfl <| ld rfl one_49 hc23 rfl <| An rfl
 ·refine cl1 h body_110 rfl rfl eP fun A25 w24 h => fun a H => c_nil <| effQ.go [] H rfl rfl <| Stg.fin [] (by kernel_rfl) .nil ?_
  ·intro a H
   replace H := H.weaken (L' := []) trivial
   exact e_ret0 H rfl h

theorem sim_matrix_eliminate_c3 (i1 c2 : Int) (c3 c4 : Addr) (w : World) (Q : Ending → World → Prop) (h : vc_matrix_eliminate_c3 i1 c2 c3 c4 w Q) : Calls PP F_matrix_eliminate_c3 #[(.i i1), (.int .u8 c2), (.pointer (some c3)), (.pointer (some c4))] w Q := by
 unfold vc_matrix_eliminate_c3 at h
 have eP {L : List (Nat × Value)} (c : List PanicEntry) (w' : World) (a : Act) (h : Q (.panicked c) w') (H : Has 29 [] a L) : bodyPost PP Tryz.f145 Q (.panic c) a w' := e_panic H h
 refine enter (n := 29) Tryz.func145 rfl rfl (le_ rfl) fun a H => ?_
 obtain ⟨l6, hc7, a8, h9, h10, h11, h⟩ := h
 refine sr fun K5 hK5 => ww H <| ld rfl one_22 hc7 rfl <| mv rfl rfl <| fun a H => s_idxS (s := l6) H rfl rfl rfl slc_22 h9 h10 h11 (lt_ rfl) fun a H => ?_
 obtain ⟨l12, hc13, h⟩ := h
 refine ww H <| ld rfl one_49 hc13 rfl <| bl (vs := [l12.v]) rfl rfl (fun cs => b_lenS (z := l12) sl_49) <| mv rfl rfl <| fun a H => nk hK5 <| c_block ?_
 obtain ⟨I16, m17, h54, h55⟩ := h
 refine c_loop (σ := Int) (fun z w => I16 z w) (fun z w => m17 z w) (fun z => [(0, (.i i1)), (1, (.int .u8 c2)), (2, (.pointer (some c3))), (3, (.pointer (some c4))), (11, l12.v), (12, (.i (l12.l : Int))), (13, (.i z))]) 0 h54 (H.weaken ⟨rfl, rfl, rfl, rfl, rfl, rfl, rfl, trivial⟩) ?_
 clear H h54
 rintro s14 a w15 h H
 replace h := h55 s14 w15 h
 clear h55
 replace H : Has 29 [] a [(0, (.i i1)), (1, (.int .u8 c2)), (2, (.pointer (some c3))), (3, (.pointer (some c4))), (11, l12.v), (12, (.i (l12.l : Int))), (13, (.i s14))] := H
 refine sr fun K18 hK18 => ww H <| bn rfl rfl r_lss rfl <| fun a H => nk hK18 <| c_seq fun K19 hK19 => cd H rfl h (fun h20 h => ?_) (fun h20 h => ?_)
 ·obtain ⟨a23, h24, h25, h26, h⟩ := h
  refine c_skip <| hK19 _ _ <| c_seq fun K21 hK21 => c_block <| sr fun K22 hK22 => ww H <| mv rfl rfl <| fun a H => s_idxS (s := l12) H rfl rfl rfl slc_49 h24 h25 h26 (lt_ rfl) fun a H => ?_
  obtain ⟨l27, hc28, h⟩ := h
  refine ww H <| ld rfl one_5 hc28 rfl <| ag rfl rfl <| ag rfl rfl <| fun a H => nk hK22 <| ?_
  replace H := H.weaken (L' := [(0, (.i i1)), (1, (.int .u8 c2)), (2, (.pointer (some c3))), (3, (.pointer (some c4))), (6, (.i s14)), (7, (.int .u8 l27)), (11, l12.v), (12, (.i (l12.l : Int))), (13, (.i s14))]) ⟨rfl, rfl, rfl, rfl, rfl, rfl, rfl, rfl, rfl, trivial⟩
  obtain ⟨l29, hc30, a31, h32, h33, h34, l35, hc36, l37, hc38, h⟩ := h
  refine c_any (V := [(0, l29.v), (1, (.i i1)), (2, (.pointer (some (a31.add (Int.toNat (i1) * 1))))), (3, l35.v), (4, (.i s14)), (5, (.pointer l37)), (6, (.int .u8 l27)), (7, (.int .u8 c2))]) (⟨[[], [], [0, 1], [2], [], [], [], [], [5, 6, 7], [0, 1, 2, 3, 4, 5, 6, 7, 8], [0, 1, 2, 3, 4, 5, 6, 7, 8, 9]], [some 18, some 19, some 20, some 21, some 22, some 23, some 24, some 25, some 26, some 27, none], [8, 10], [0, 0, 0, 0, 0, 0, 0, 0, 0, 1, 1], [1, 1, 1, 1, 1, 0, 0, 0, 1, 1, 2]⟩ : Rg) [(0, (.i i1)), (1, (.int .u8 c2)), (2, (.pointer (some c3))), (3, (.pointer (some c4))), (6, (.i s14)), (7, (.int .u8 l27)), (11, l12.v), (12, (.i (l12.l : Int))), (13, (.i s14))] mixed (by kernel_rfl) H <| Stg.eff [0, 1, 2, 3, 4, 5, 6, 7] (by kernel_rfl) rfl (.cons ?_ (.cons ?_ (.cons ?_ (.cons ?_ (.cons ?_ (.cons ?_ (.cons ?_ (.cons ?_ .nil)))))))) ?_
  ·exact Aw rfl rfl <| ld rfl one_22 hc30 rfl <| An rfl
  ·exact Aw rfl rfl <| mv rfl rfl <| An rfl
  ·exact Ans.mk rfl rfl fun a H => s_idxS (s := l29) H rfl rfl rfl slc_22 h32 h33 h34 (lt_ rfl) fun a H => Ans.fin H rfl
  ·exact Aw rfl rfl <| ld rfl one_49 hc36 rfl <| An rfl
  ·exact Aw rfl rfl <| mv rfl rfl <| An rfl
  ·exact Aw rfl rfl <| ld rfl one_103 hc38 rfl <| An rfl
  ·exact Aw rfl rfl <| mv rfl rfl <| An rfl
  ·exact Aw rfl rfl <| mv rfl rfl <| An rfl
  ·refine cl1 h body_107 rfl rfl eP fun M40 w39 h => fun a H => ?_
   obtain ⟨hc41, hc42, a43, h44, h45, h46, h⟩ := h
   refine c_nil <| effQ.go [(9, (.pointer (some (a43.add (Int.toNat (s14) * 1)))))] H rfl rfl <| Stg.eff [0, 1, 2, 3, 4, 9] (by kernel_rfl) rfl (.cons ?_ (.cons ?_ (.cons ?_ (.cons ?_ (.cons ?_ (.cons ?_ .nil)))))) ?_
   ·exact Aw rfl rfl <| ld rfl one_22 hc41 rfl <| An rfl
   ·exact Aw rfl rfl <| mv rfl rfl <| An rfl
   ·exact Ans.mk rfl rfl fun a H => s_idxS (s := l29) H rfl rfl rfl slc_22 h32 h33 h34 (lt_ rfl) fun a H => Ans.fin H rfl
   ·exact Aw rfl rfl <| ld rfl one_49 hc42 rfl <| An rfl
   ·exact Aw rfl rfl <| mv rfl rfl <| An rfl
   ·exact Ans.mk rfl rfl fun a H => s_idxS (s := l35) H rfl rfl rfl slc_49 h44 h45 h46 (lt_ rfl) fun a H => Ans.fin H rfl
   ·refine st h rfl rfl one_5 rfl fun w47 w47S h => fun a H => c_nil <| effQ.go0 [] H rfl rfl <| Stg.fin [] (by kernel_rfl) .nil ?_
    ·intro a H
     replace H := H.weaken (L' := [(0, (.i i1)), (1, (.int .u8 c2)), (2, (.pointer (some c3))), (3, (.pointer (some c4))), (11, l12.v), (12, (.i (l12.l : Int))), (13, (.i s14))]) ⟨rfl, rfl, rfl, rfl, rfl, rfl, rfl, trivial⟩
     refine hK21 _ _ <| c_reg <| ww H <| bn rfl rfl r_add rfl <| mv rfl rfl <| fun a H => c_nil <| Exists.intro (wr .i64 (s14 + 1)) ⟨h.1, h.2, H.weaken ⟨rfl, rfl, rfl, rfl, rfl, rfl, rfl, trivial⟩⟩
 ·refine c_exit ?_
  first | (simp only [Exit.then, Exit.inBlock, ↓reduceIte]; fail_if_success simp only [Nat.reduceEqDiff]) | simp only [Exit.then, Exit.inBlock, ↓reduceIte, Nat.reduceEqDiff]
  exact e_ret0 H rfl h

theorem sim_gf_Field_Inv (f1 : Option Addr) (a2 : Int) (w : World) (Q : Ending → World → Prop) (h : vc_gf_Field_Inv f1 a2 w Q) : Calls PP F_gf_Field_Inv #[(.pointer f1), (.int .u8 a2)] w Q := by
 unfold vc_gf_Field_Inv at h
 refine enter (n := 22) Tryz.func146 rfl rfl (le_ rfl) fun a H => sr fun K3 hK3 => ww H <| ag rfl rfl <| ag rfl rfl <| fun a H => nk hK3 <| c_seq fun K4 hK4 => sr fun K5 hK5 => ww H <| mv rfl rfl <| bn rfl rfl (r_eqP0 ptr_103) rfl <| fun a H => nk hK5 <| cd H rfl h (fun h6 h => ?_) (fun h6 h => ?_)
 ·exact sr fun K7 hK7 => ww H <| ag rfl rfl <| ag rfl rfl <| fun a H => nk hK7 <| c_ret <| e_ret2 H rfl rfl rfl h
 ·refine c_skip <| hK4 _ _ <| c_seq fun K8 hK8 => sr fun K9 hK9 => ww H <| mv rfl rfl <| bn rfl rfl r_eql rfl <| fun a H => nk hK9 <| cd H rfl h (fun h10 h => ?_) (fun h10 h => ?_)
  ·exact sr fun K11 hK11 => ww H <| ag rfl rfl <| ag rfl rfl <| fun a H => nk hK11 <| c_ret <| e_ret2 H rfl rfl rfl h
  ·refine c_skip <| hK8 _ _ <| c_seq fun K12 hK12 => c_regD mixed (by kernel_rfl) ?_
   iterate 3 refine z_move H rfl rfl (lt_ rfl) fun a H => ?_
   obtain ⟨a14, h23, h⟩ := h
   revert H
   revert h
   subst h23
   intro h H
   refine z_nil H rfl rfl (lt_ rfl) fun a H => z_fld H rfl rfl fld_190_2 (lt_ rfl) fun a H => ?_
   obtain ⟨h15, h16, h⟩ := h
   refine z_idxA H rfl rfl rfl arr_188 h15 h16 (lt_ rfl) fun a H => ?_
   obtain ⟨l17, hc18, h⟩ := h
   refine z_load (v := (.i l17)) H rfl rfl one_3 hc18 (lt_ rfl) fun a H => z_bin H rfl rfl rfl r_sub (lt_ rfl) fun a H => z_nil H rfl rfl (lt_ rfl) fun a H => z_fld H rfl rfl fld_190_1 (lt_ rfl) fun a H => ?_
   obtain ⟨h19, h20, h⟩ := h
   refine z_idxA H rfl rfl rfl arr_187 h19 h20 (lt_ rfl) fun a H => ?_
   obtain ⟨l21, hc22, h⟩ := h
   refine z_load (v := (.int .u8 l21)) H rfl rfl one_5 hc22 (lt_ rfl) fun a H => z_assign H rfl rfl (lt_ rfl) fun a H => z_assign H rfl rfl (lt_ rfl) fun a H => wpQuiet_nil ?_
   rintro _ ⟨k13, rfl⟩
   replace h := h k13
   exact hK12 _ _ <| c_ret <| e_ret2 H rfl rfl rfl h

theorem sim_slices_IndexFunc_byte_byte_147 (s1 : Slc) (f2 : Value) (w : World) (Q : Ending → World → Prop) (h : vc_slices_IndexFunc_byte_byte_147 s1 f2 w Q) : Calls PP F_slices_IndexFunc_byte_byte_147 #[s1.v, f2] w Q := by
 unfold vc_slices_IndexFunc_byte_byte_147 at h
 have eP {L : List (Nat × Value)} (c : List PanicEntry) (w' : World) (a : Act) (h : Q (.panicked c) w') (H : Has 19 [] a L) : bodyPost PP Tryz.f147 Q (.panic c) a w' := e_panic H h
 refine enter (n := 19) Tryz.func147 rfl rfl (le_ rfl) fun a H => sr fun K3 hK3 => ww H <| ag rfl rfl <| fun a H => nk hK3 <| c_seq fun K4 hK4 => sr fun K5 hK5 => ww H <| mv rfl rfl <| bl (vs := [s1.v]) rfl rfl (fun cs => b_lenS (z := s1) sl_22) <| mv rfl rfl <| fun a H => nk hK5 <| c_block ?_
 obtain ⟨I8, m9, h30, h31⟩ := h
 refine c_loop (σ := Int) (fun z w => I8 z w) (fun z w => m9 z w) (fun z => [(0, s1.v), (1, f2), (7, (.i (s1.l : Int))), (8, (.i z))]) 0 h30 (H.weaken ⟨rfl, rfl, rfl, rfl, trivial⟩) ?_
 clear H h30
 rintro s6 a w7 h H
 replace h := h31 s6 w7 h
 clear h31
 replace H : Has 19 [] a [(0, s1.v), (1, f2), (7, (.i (s1.l : Int))), (8, (.i s6))] := H
 refine sr fun K10 hK10 => ww H <| bn rfl rfl r_lss rfl <| fun a H => nk hK10 <| c_seq fun K11 hK11 => cd H rfl h (fun h12 h => ?_) (fun h12 h => ?_)
 ·obtain ⟨a16, h17, h18, h19, h⟩ := h
  refine c_skip <| hK11 _ _ <| c_seq fun K13 hK13 => c_block <| sr fun K14 hK14 => ww H <| mv rfl rfl <| ag rfl rfl <| fun a H => nk hK14 <| sr fun K15 hK15 => ww H <| mv rfl rfl <| mv rfl rfl <| mv rfl rfl <| fun a H => s_idxS (s := s1) H rfl rfl rfl slc_22 h17 h18 h19 (lt_ rfl) fun a H => ?_
  obtain ⟨l20, hc21, h⟩ := h
  refine ww H <| ld rfl one_49 hc21 rfl <| fun a H => s_callV H rfl rfl (H.args (vs := [l20.v]) rfl) (lt_ rfl) h ?_ (fun c w' => eP c w' _)
  clear H h a
  rintro _ w22 a ⟨r23, rfl, h⟩ H
  refine nk hK15 <| cd H rfl h (fun h24 h => ?_) (fun h24 h => ?_)
  ·exact sr fun K25 hK25 => ww H <| mv rfl rfl <| ag rfl rfl <| fun a H => nk hK25 <| c_ret <| e_ret1 H rfl rfl h
  ·refine c_skip <| hK13 _ _ <| c_reg <| ww H <| bn rfl rfl r_add rfl <| mv rfl rfl <| fun a H => c_nil <| Exists.intro (wr .i64 (s6 + 1)) ⟨h.1, h.2, H.weaken ⟨rfl, rfl, rfl, rfl, trivial⟩⟩
 ·refine c_exit ?_
  first | (simp only [Exit.then, Exit.inBlock, ↓reduceIte]; fail_if_success simp only [Nat.reduceEqDiff]) | simp only [Exit.then, Exit.inBlock, ↓reduceIte, Nat.reduceEqDiff]
  exact hK4 _ _ <| sr fun K29 hK29 => ww H <| ag rfl rfl <| fun a H => nk hK29 <| c_ret <| e_ret1 H rfl rfl h

end Go.Proofs.YtabifopphhpciaaGreatDoor

namespace Go.Proofs.YtabifopphhpciaaGreatDoor
open Go Go.Vc
set_option maxRecDepth 100000
set_option maxHeartbeats 4000000
end Go.Proofs.YtabifopphhpciaaGreatDoor


namespace Go.Vc
open Go
section
variable {P : Program} {e size : Nat} {w w' : World} {s s' : Slc} {cs ds : List Value}
theorem Own.some_ (h : Own e size w s cs) (hz : cs ≠ []) : ∃ g cur, s.a = some (blk g) ∧ Blk w g e cur ∧ s.l ≤ s.c ∧ s.c ≤ maxLen ∧ cur.size = s.c * size ∧ cur.toList.take (s.l * size) = cs := by
  rcases h.2 with ⟨_, h2⟩ | ⟨g, cap, cur, h1, _, h3, h4, h5, h6, h7⟩
  · exact absurd (List.eq_nil_of_length_eq_zero (by rw [h.1, h2]; simp)) hz
  · injection h1 with h8 h9 h10
    subst h10
    exact ⟨g, cur, h8, h3, h4, h5, h6, h7⟩
theorem Own.sto (h : Own e size w s cs) {i : Nat} (hi : i < cs.length) {p : Addr} (hp : s.a = some p) {v : Value} {K : World → Prop} (k : ∀ w', Own e size w' s (cs.set i v) → Fr s.blks w w' → K w') : Sto w (p.add i) v K := by
  obtain ⟨g, cur, h1, h2, h3, h4, h5, h6⟩ := h.some_ (by intro h0; rw [h0] at hi; simp at hi)
  rw [h1] at hp
  injection hp with hp
  subst hp
  have hc : i < cur.size := by
    have := congrArg List.length h6
    simp at this
    omega
  refine h2.sto hc fun w' hB hF => k w' ⟨by rw [List.length_set]; exact h.1, .inr ⟨g, s.c, _, by simp only [Slc.v, h1], Nat.zero_le _, hB, h3, h4, by simpa using h5, ?_⟩⟩ ?_
  · rw [Array.toList_setIfInBounds, ← h6, List.take_set]
  · unfold Slc.blks
    rw [h1]
    exact hF
theorem Own.apart {e' size' : Nat} (h : Own e size w s cs) (h' : Own e' size' w s' ds) (hne : e ≠ e') : ∀ k ∈ s.blks, k ∉ s'.blks := by
  intro k hk hk'
  rcases h.2 with ⟨h1, _⟩ | ⟨g, cap, cur, h1, _, h3, _⟩
  · injection h1 with h8
    unfold Slc.blks at hk; rw [h8] at hk; simp at hk
  · injection h1 with h8
    unfold Slc.blks at hk; rw [h8] at hk; simp at hk
    subst hk
    exact h'.ne (t := e) h3 (Ne.symm hne) hk'
theorem Own.ahead {n : Nat} (h : Own e size w s cs) (ha : s'.a = s.a) (hc : s'.c = s.c) (hl : s'.l = n) (hn : n ≤ s.l) : Own e size w s' (cs.take (n * size)) := by
  subst hl
  obtain ⟨a, l, c⟩ := s
  obtain ⟨a', l', c'⟩ := s'
  simp only at ha hc hn
  subst ha hc
  have hlen := h.1
  simp only at hlen
  have hm : l' * size ≤ l * size := Nat.mul_le_mul_right _ hn
  refine ⟨by simp; omega, ?_⟩
  rcases h.2 with ⟨h1, h2⟩ | ⟨g, cap, cur, h1, h2, h3, h4, h5, h6, h7⟩
  · injection h1 with h8 h9 h10
    simp only at h2 h8 h10
    have : l' = 0 := by omega
    subst this h8 h10
    exact .inl ⟨rfl, rfl⟩
  · injection h1 with h8 h9 h10
    subst h10
    simp only at h8
    subst h8
    refine .inr ⟨g, _, cur, rfl, h2, h3, by simp only at h4; simp only; omega, h5, h6, ?_⟩
    simp only at h7 ⊢
    rw [← h7, List.take_take, Nat.min_eq_left hm]
end
end Go.Vc
namespace Go.Vc
open Go
theorem Blk.stoN {g : Nat} {t : TypeId} {K : World → Prop} : ∀ (l : List Value) (i : Nat) (cs : Array Value) (w : World), Blk w g t cs → i + l.length = cs.size → (∀ w', Blk w' g t (cs.toList.take i ++ l).toArray → Fr [g] w w' → K w') → StoN (Vc.blk g) i l w K
  | [], i, cs, w, h, hi, k => by
    refine k w ?_ (Fr.refl _ _)
    rw [List.append_nil, List.take_of_length_le (by simp at hi; simp; omega)]
    exact h
  | v :: r, i, cs, w, h, hi, k => by
    simp at hi
    refine ⟨by rw [h.cell (v := cs[i]) (Array.getElem?_eq_getElem (by omega))]; rfl, h.frz i, ?_⟩
    refine Blk.stoN r (i + 1) _ _ (h.set i v) (by simp; omega) fun w' hB hF => k w' ?_ ?_
    · have e : (cs.setIfInBounds i v).toList.take (i + 1) ++ r = cs.toList.take i ++ v :: r := by
        rw [Array.toList_setIfInBounds, List.take_succ_eq_append_getElem (by simp; omega), List.take_set_of_le (Nat.le_refl _)]
        simp
      rw [e] at hB
      exact hB
    · have := Fr.set w ((Vc.blk g).add i) v
      rw [show ((Vc.blk g).add i).block = g by rw [blk_add]] at this
      exact this.local_ hF fun _ hx => .inl hx
theorem Blk.stoAll {g : Nat} {t : TypeId} {cs : Array Value} {w : World} {l : List Value} {K : World → Prop} (h : Blk w g t cs) (hl : l.length = cs.size) (k : ∀ w', Blk w' g t l.toArray → Fr [g] w w' → K w') : StoN (Vc.blk g) 0 l w K :=
  Blk.stoN l 0 cs w h (by omega) fun w' hB hF => k w' (by simpa using hB) hF
end Go.Vc
namespace Go.Vc
open Go
section
variable {w w' : World} {g : Nat} {t : TypeId} {cs : Array Value} {S : List Nat}
end
end Go.Vc

namespace Go.Vc
open Go

structure Asn where
  p : World → (Nat → Prop) → Prop
  loc : ∀ {w w' : World} {S : Nat → Prop}, p w S → (∀ k, S k → w'.heap[k]? = w.heap[k]?) → p w' S
  lt : ∀ {w : World} {S : Nat → Prop}, p w S → ∀ k, S k → k < w.heap.size
namespace Asn
def emp : Asn := ⟨fun _ S => ∀ k, ¬ S k, fun h _ => h, fun h k hk => absurd hk (h k)⟩
def star (A B : Asn) : Asn where
  p w S := ∃ S1 S2 : Nat → Prop, (∀ k, S k ↔ S1 k ∨ S2 k) ∧ (∀ k, S1 k → ¬ S2 k) ∧ A.p w S1 ∧ B.p w S2
  loc := by
    rintro w w' S ⟨S1, S2, h1, h2, ha, hb⟩ h
    exact ⟨S1, S2, h1, h2, A.loc ha fun k hk => h k ((h1 k).2 (.inl hk)), B.loc hb fun k hk => h k ((h1 k).2 (.inr hk))⟩
  lt := by
    rintro w S ⟨S1, S2, h1, h2, ha, hb⟩ k hk
    rcases (h1 k).1 hk with h | h
    · exact A.lt ha k h
    · exact B.lt hb k h
def bk (g : Nat) (t : TypeId) (cs : Array Value) : Asn where
  p w S := (∀ k, S k ↔ k = g) ∧ Blk w g t cs
  loc := by
    rintro w w' S ⟨h1, h2⟩ h
    exact ⟨h1, (h g ((h1 g).2 rfl)).trans h2⟩
  lt := by
    rintro w S ⟨h1, h2⟩ k hk
    rw [(h1 k).1 hk]; exact h2.lt
theorem own_loc {e size : Nat} {w w' : World} {s : Slc} {cs : List Value} (h : Own e size w s cs) (hb : ∀ k ∈ s.blks, w'.heap[k]? = w.heap[k]?) : Own e size w' s cs := by
  refine ⟨h.1, ?_⟩
  rcases h.2 with h1 | ⟨g, cap, cur, h1, h2, h3, r⟩
  · exact .inl h1
  · refine .inr ⟨g, cap, cur, h1, h2, ?_, r⟩
    rw [hb g (by injection h1 with h4; unfold Slc.blks; rw [h4]; simp)]
    exact h3
def own (e size : Nat) (s : Slc) (cs : List Value) : Asn where
  p w S := (∀ k, S k ↔ k ∈ s.blks) ∧ Own e size w s cs
  loc := by
    rintro w w' S ⟨h1, h2⟩ h
    exact ⟨h1, own_loc h2 fun k hk => h k ((h1 k).2 hk)⟩
  lt := by
    rintro w S ⟨h1, h2⟩ k hk
    exact h2.lt k ((h1 k).1 hk)
def lift (φ : Prop) (A : Asn) : Asn := ⟨fun w S => φ ∧ A.p w S, fun h k => ⟨h.1, A.loc h.2 k⟩, fun h => A.lt h.2⟩
def ex {α : Type} (f : α → Asn) : Asn := ⟨fun w S => ∃ x, (f x).p w S, fun ⟨x, h⟩ k => ⟨x, (f x).loc h k⟩, fun ⟨x, h⟩ => (f x).lt h⟩
def obj {α : Type} (D : Nat → α → Asn) (p : Nat) (x : α) : Asn := D p x
def all {α : Type} (f : α → Asn) : List α → Asn
  | [] => emp
  | x :: r => star (f x) (all f r)

def Ent (A B : Asn) : Prop := ∀ w S, A.p w S → B.p w S
theorem Ent.refl (A : Asn) : Ent A A := fun _ _ h => h
theorem Ent.trans {A B C : Asn} (h : Ent A B) (k : Ent B C) : Ent A C := fun w S x => k w S (h w S x)
theorem Ent.star {A A' B B' : Asn} (h : Ent A A') (k : Ent B B') : Ent (star A B) (star A' B') := by
  rintro w S ⟨S1, S2, h1, h2, ha, hb⟩
  exact ⟨S1, S2, h1, h2, h _ _ ha, k _ _ hb⟩
theorem comm {A B : Asn} : Ent (star A B) (star B A) := by
  rintro w S ⟨S1, S2, h1, h2, ha, hb⟩
  exact ⟨S2, S1, fun k => (h1 k).trans Or.comm, fun k h h' => h2 k h' h, hb, ha⟩
theorem assoc {A B C : Asn} : Ent (star (star A B) C) (star A (star B C)) := by
  rintro w S ⟨S1, S2, h1, h2, ⟨T1, T2, g1, g2, ha, hb⟩, hc⟩
  refine ⟨T1, fun k => T2 k ∨ S2 k, fun k => ?_, fun k hk h => ?_, ha, T2, S2, fun k => Iff.rfl, fun k hk => h2 k ((g1 k).2 (.inr hk)), hb, hc⟩
  · rw [h1 k, g1 k, or_assoc]
  · rcases h with h | h
    · exact g2 k hk h
    · exact h2 k ((g1 k).2 (.inl hk)) h
theorem assoc' {A B C : Asn} : Ent (star A (star B C)) (star (star A B) C) := by
  rintro w S ⟨S1, S2, h1, h2, ha, T1, T2, g1, g2, hb, hc⟩
  refine ⟨fun k => S1 k ∨ T1 k, T2, fun k => ?_, fun k hk h => ?_, ⟨S1, T1, fun k => Iff.rfl, fun k hk h => h2 k hk ((g1 k).2 (.inl h)), ha, hb⟩, hc⟩
  · rw [h1 k, g1 k, or_assoc]
  · rcases hk with hk | hk
    · exact h2 k hk ((g1 k).2 (.inr h))
    · exact g2 k hk h
theorem left {A B C : Asn} : Ent (star A (star B C)) (star B (star A C)) := assoc'.trans ((Ent.star comm (Ent.refl C)).trans assoc)
theorem emp_r {A : Asn} : Ent A (star A emp) := fun w S h => ⟨S, fun _ => False, fun k => by simp, fun k _ h => h, h, fun _ h => h⟩
theorem emp_l {A : Asn} : Ent A (star emp A) := emp_r.trans comm
theorem emp_l' {A : Asn} : Ent (star emp A) A := by
  rintro w S ⟨S1, S2, h1, h2, ha, hb⟩
  have : S = S2 := funext fun k => propext ((h1 k).trans ⟨fun h => h.elim (fun h => absurd h (ha k)) id, .inr⟩)
  rw [this]; exact hb
theorem emp_r' {A : Asn} : Ent (star A emp) A := comm.trans emp_l'
end Asn
open Asn

structure Hp (w0 w : World) (A : Asn) : Prop where
  fr : Fr [] w0 w
  has : ∃ S : Nat → Prop, (∀ k, S k → w0.heap.size ≤ k) ∧ A.p w S

/-! ## The search -/
class Take (P A : Asn) (F : outParam Asn) : Prop where
  e : Ent A (star P F)
instance (priority := 2000) take_here (P F : Asn) : Take P (star P F) F := ⟨Ent.refl _⟩
instance (priority := 1500) take_assoc (P X Y Z F : Asn) [h : Take P (star X (star Y Z)) F] : Take P (star (star X Y) Z) F := ⟨assoc.trans h.e⟩
instance (priority := 1000) take_there (P B A F : Asn) [h : Take P A F] : Take P (star B A) (star B F) := ⟨(Ent.star (Ent.refl B) h.e).trans left⟩
instance (priority := 500) take_last (P : Asn) : Take P P emp := ⟨emp_r⟩
class TakeB (b : Nat) (A : Asn) (t : outParam TypeId) (cs : outParam (Array Value)) (F : outParam Asn) : Prop where
  e : Ent A (star (bk b t cs) F)
instance (priority := 2000) takeB_here (b : Nat) (t : TypeId) (cs : Array Value) (F : Asn) : TakeB b (star (bk b t cs) F) t cs F := ⟨Ent.refl _⟩
instance (priority := 1500) takeB_assoc (b : Nat) (t : TypeId) (cs : Array Value) (X Y Z F : Asn) [h : TakeB b (star X (star Y Z)) t cs F] : TakeB b (star (star X Y) Z) t cs F := ⟨assoc.trans h.e⟩
instance (priority := 1000) takeB_there (b : Nat) (t : TypeId) (cs : Array Value) (B A F : Asn) [h : TakeB b A t cs F] : TakeB b (star B A) t cs (star B F) := ⟨(Ent.star (Ent.refl B) h.e).trans left⟩
instance (priority := 500) takeB_last (b : Nat) (t : TypeId) (cs : Array Value) : TakeB b (bk b t cs) t cs emp := ⟨emp_r⟩
class TakeS (s : Slc) (A : Asn) (e : outParam Nat) (size : outParam Nat) (cs : outParam (List Value)) (F : outParam Asn) : Prop where
  e : Ent A (star (own e size s cs) F)
instance (priority := 2000) takeS_here (s : Slc) (e size : Nat) (cs : List Value) (F : Asn) : TakeS s (star (own e size s cs) F) e size cs F := ⟨Ent.refl _⟩
instance (priority := 1500) takeS_assoc (s : Slc) (e size : Nat) (cs : List Value) (X Y Z F : Asn) [h : TakeS s (star X (star Y Z)) e size cs F] : TakeS s (star (star X Y) Z) e size cs F := ⟨assoc.trans h.e⟩
instance (priority := 1000) takeS_there (s : Slc) (e size : Nat) (cs : List Value) (B A F : Asn) [h : TakeS s A e size cs F] : TakeS s (star B A) e size cs (star B F) := ⟨(Ent.star (Ent.refl B) h.e).trans left⟩
instance (priority := 500) takeS_last (s : Slc) (e size : Nat) (cs : List Value) : TakeS s (own e size s cs) e size cs emp := ⟨emp_r⟩
class TakeO {α : Type} (D : Nat → α → Asn) (p : Nat) (A : Asn) (x : outParam α) (F : outParam Asn) : Prop where
  e : Ent A (star (obj D p x) F)
instance (priority := 2000) takeO_here {α : Type} (D : Nat → α → Asn) (p : Nat) (x : α) (F : Asn) : TakeO D p (star (obj D p x) F) x F := ⟨Ent.refl _⟩
instance (priority := 1500) takeO_assoc {α : Type} (D : Nat → α → Asn) (p : Nat) (x : α) (X Y Z F : Asn) [h : TakeO D p (star X (star Y Z)) x F] : TakeO D p (star (star X Y) Z) x F := ⟨assoc.trans h.e⟩
instance (priority := 1000) takeO_there {α : Type} (D : Nat → α → Asn) (p : Nat) (x : α) (B A F : Asn) [h : TakeO D p A x F] : TakeO D p (star B A) x (star B F) := ⟨(Ent.star (Ent.refl B) h.e).trans left⟩
instance (priority := 500) takeO_last {α : Type} (D : Nat → α → Asn) (p : Nat) (x : α) : TakeO D p (obj D p x) x emp := ⟨emp_r⟩

section
variable {w0 w w' : World} {A B F P : Asn}
theorem Hp.ent (H : Hp w0 w A) (h : Ent A B) : Hp w0 w B := ⟨H.fr, let ⟨S, h1, h2⟩ := H.has; ⟨S, h1, h _ _ h2⟩⟩
theorem Hp.take (P : Asn) [h : Take P A F] (H : Hp w0 w A) : Hp w0 w (star P F) := H.ent h.e
theorem Hp.blk (b : Nat) {t : TypeId} {cs : Array Value} [h : TakeB b A t cs F] (H : Hp w0 w A) : Hp w0 w (star (bk b t cs) F) := H.ent h.e
theorem Hp.own (s : Slc) {e size : Nat} {cs : List Value} [h : TakeS s A e size cs F] (H : Hp w0 w A) : Hp w0 w (star (Asn.own e size s cs) F) := H.ent h.e
theorem Hp.obj {α : Type} (D : Nat → α → Asn) (p : Nat) {x : α} [h : TakeO D p A x F] (H : Hp w0 w A) : Hp w0 w (star (Asn.obj D p x) F) := H.ent h.e
theorem Hp.start (w : World) : Hp w w emp := ⟨Fr.refl _ _, fun _ => False, fun _ h => h.elim, fun _ h => h⟩
theorem Hp.fr0 (H : Hp w0 w A) (f : Fr [] w w') : Hp w0 w' A := by
  obtain ⟨S, h1, h2⟩ := H.has
  exact ⟨H.fr.then_ f, S, h1, A.loc h2 fun k hk => f.block k (A.lt h2 k hk) (by simp)⟩
theorem Hp.drew (H : Hp w0 w A) (n : Nat) : Hp w0 (w.drewN n) A := by
  obtain ⟨S, h1, h2⟩ := H.has
  exact ⟨H.fr.drewN n, S, h1, A.loc h2 fun k hk => rfl⟩
theorem Hp.drop (H : Hp w0 w (star P F)) : Hp w0 w F := by
  obtain ⟨S, h1, S1, S2, g1, g2, ha, hb⟩ := H.has
  exact ⟨H.fr, S2, fun k hk => h1 k ((g1 k).2 (.inr hk)), hb⟩
theorem Hp.ex {α : Type} {f : α → Asn} (H : Hp w0 w (star (Asn.ex f) F)) : ∃ x, Hp w0 w (star (f x) F) := by
  obtain ⟨fr, S, h1, S1, S2, g1, g2, ⟨x, ha⟩, hb⟩ := H
  exact ⟨x, fr, S, h1, S1, S2, g1, g2, ha, hb⟩
theorem Hp.exI {α : Type} {f : α → Asn} (x : α) (H : Hp w0 w (star (f x) F)) : Hp w0 w (star (Asn.ex f) F) := by
  obtain ⟨fr, S, h1, S1, S2, g1, g2, ha, hb⟩ := H
  exact ⟨fr, S, h1, S1, S2, g1, g2, ⟨x, ha⟩, hb⟩
theorem Hp.lift {φ : Prop} (H : Hp w0 w (star (Asn.lift φ P) F)) : φ ∧ Hp w0 w (star P F) := by
  obtain ⟨fr, S, h1, S1, S2, g1, g2, ⟨h, ha⟩, hb⟩ := H
  exact ⟨h, fr, S, h1, S1, S2, g1, g2, ha, hb⟩
theorem Hp.liftI {φ : Prop} (h : φ) (H : Hp w0 w (star P F)) : Hp w0 w (star (Asn.lift φ P) F) := by
  obtain ⟨fr, S, h1, S1, S2, g1, g2, ha, hb⟩ := H
  exact ⟨fr, S, h1, S1, S2, g1, g2, ⟨h, ha⟩, hb⟩
theorem Hp.assoc {X Y Z : Asn} (H : Hp w0 w (star (star X Y) Z)) : Hp w0 w (star X (star Y Z)) := H.ent Asn.assoc
theorem Hp.assoc' {X Y Z : Asn} (H : Hp w0 w (star X (star Y Z))) : Hp w0 w (star (star X Y) Z) := H.ent Asn.assoc'
theorem Hp.swap {X Y Z : Asn} (H : Hp w0 w (star X (star Y Z))) : Hp w0 w (star Y (star X Z)) := H.ent Asn.left
theorem Hp.from {w1 : World} (f : Fr [] w0 w1) (H : Hp w1 w A) : Hp w0 w A := ⟨f.then_ H.fr, let ⟨S, h1, h2⟩ := H.has; ⟨S, fun k hk => Nat.le_trans f.size (h1 k hk), h2⟩⟩
theorem Hp.beside {w1 : World} (H : Hp w0 w1 F) (K : Hp w1 w P) : Hp w0 w (star P F) := by
  have hF := H.fr0 K.fr
  obtain ⟨S, h1, h2⟩ := H.has
  obtain ⟨T, k1, k2⟩ := K.has
  refine ⟨hF.fr, fun k => T k ∨ S k, fun k hk => ?_, T, S, fun k => Iff.rfl, fun k hk hs => ?_, k2, F.loc h2 fun k hk => K.fr.block k (F.lt h2 k hk) (by simp)⟩
  · rcases hk with hk | hk
    · exact Nat.le_trans H.fr.size (k1 k hk)
    · exact h1 k hk
  · have := k1 k hk
    have := F.lt h2 k hs
    omega
theorem Hp.join {w1 : World} (H : Hp w0 w1 F) (K : Hp w1 w (star P Asn.emp)) : Hp w0 w (star P F) := H.beside (K.ent emp_r')
theorem Hp.step {P' : Asn} (H : Hp w0 w (star P F)) (h : ∀ S, (∀ k, S k → w0.heap.size ≤ k) → P.p w S → ∃ (l : List Nat) (S' : Nat → Prop), (∀ k ∈ l, S k) ∧ Fr l w w' ∧ P'.p w' S' ∧ ∀ k, S' k → S k ∨ w.heap.size ≤ k) : Hp w0 w' (star P' F) := by
  obtain ⟨fr, S, h1, S1, S2, g1, g2, ha, hb⟩ := H
  obtain ⟨l, S', k1, k2, k3, k4⟩ := h S1 (fun k hk => h1 k ((g1 k).2 (.inl hk))) ha
  refine ⟨fr.local_ k2 fun k hk => .inr (h1 k ((g1 k).2 (.inl (k1 k hk)))), fun k => S' k ∨ S2 k, fun k hk => ?_, S', S2, fun k => Iff.rfl, fun k hk hs => ?_, k3, F.loc hb fun k hk => k2.block k (F.lt hb k hk) fun hx => g2 k (k1 k hx) hk⟩
  · rcases hk with hk | hk
    · rcases k4 k hk with h | h
      · exact h1 k ((g1 k).2 (.inl h))
      · exact Nat.le_trans fr.size h
    · exact h1 k ((g1 k).2 (.inr hk))
  · rcases k4 k hk with h | h
    · exact g2 k h hs
    · have := F.lt hb k hs
      omega
end

/-! ## The steps -/
section
variable {w0 w : World} {A F : Asn}
theorem Hp.new (H : Hp w0 w A) {cs : Array Value} {t : TypeId} {K : Nat → World → Prop} (k : ∀ b w', Hp w0 w' (star (bk b t cs) A) → K b w') : New w cs t K :=
  New.intro fun b w' nb => k b w' (H.beside ⟨nb.fr, fun x => x = b, fun x hx => by rw [hx, nb.at_]; exact Nat.le_refl _, fun _ => Iff.rfl, nb.blk⟩)
section
variable {b : Nat} {t : TypeId} {cs : Array Value} [h : TakeB b A t cs F]
include h
theorem Hp.isBlk (H : Hp w0 w A) : Blk w b t cs := by
  obtain ⟨_, S, _, S1, S2, _, _, ⟨_, ha⟩, _⟩ := H.blk b
  exact ha
theorem Hp.cell (H : Hp w0 w A) {i : Nat} {v : Value} (hv : cs[i]? = some v) : w.cell? ((Vc.blk b).add i) = some v := H.isBlk.cell hv
theorem Hp.cell2 (H : Hp w0 w A) {i j : Nat} {v : Value} (hv : cs[i + j]? = some v) : w.cell? (((Vc.blk b).add i).add j) = some v := H.isBlk.cell2 hv
theorem Hp.set {w' : World} {cs' : Array Value} (H : Hp w0 w A) (hB : Blk w' b t cs') (f : Fr [b] w w') : Hp w0 w' (star (bk b t cs') F) :=
  (H.blk b).step fun S hS hp => ⟨[b], S, fun k hk => (hp.1 k).2 (by simpa using hk), f, ⟨hp.1, hB⟩, fun k hk => .inl hk⟩
theorem Hp.sto (H : Hp w0 w A) {i : Nat} (hi : i < cs.size) {v : Value} {K : World → Prop} (k : ∀ w', Hp w0 w' (star (bk b t (cs.setIfInBounds i v)) F) → K w') : Sto w ((Vc.blk b).add i) v K :=
  H.isBlk.sto hi fun w' hB f => k w' (H.set hB f)
theorem Hp.sto2 (H : Hp w0 w A) {i j : Nat} (hi : i + j < cs.size) {v : Value} {K : World → Prop} (k : ∀ w', Hp w0 w' (star (bk b t (cs.setIfInBounds (i + j) v)) F) → K w') : Sto w (((Vc.blk b).add i).add j) v K :=
  H.isBlk.sto2 hi fun w' hB f => k w' (H.set hB f)
theorem Hp.stoAll (H : Hp w0 w A) {vs : List Value} (hs : vs.length = cs.size) {K : World → Prop} (k : ∀ w', Hp w0 w' (star (bk b t vs.toArray) F) → K w') : StoN (Vc.blk b) 0 vs w K :=
  H.isBlk.stoAll hs fun w' hB f => k w' (H.set hB f)
end
section
variable {s : Slc} {e size : Nat} {cs : List Value} [h : TakeS s A e size cs F]
include h
theorem Hp.isOwn (H : Hp w0 w A) : Own e size w s cs := by
  obtain ⟨_, S, _, S1, S2, _, _, ⟨_, ha⟩, _⟩ := H.own s
  exact ha
theorem Hp.cel (H : Hp w0 w A) : Cel w s size cs := H.isOwn.cel
theorem Hp.app {P : Program} {t bytes ty : Nat} {z : Value} (T : SlT P t e size bytes z) {y : Slc} {ys : List Value} {K : Slc → World → Prop} (H : Hp w0 w A) (hy : Cel w y size ys)
    (h1 : ∀ u ∈ ys, u.oneCell' = true) (hm : s.l + y.l ≤ maxLen) (hb : (s.l + y.l) * bytes ≤ 140737488355328)
    (k : ∀ s' w', Hp w0 w' (star (Asn.own e size s' (cs ++ ys)) F) → s'.l = s.l + y.l → K s' w') : App P t t ty w s.v y.v K :=
  App.own T H.isOwn hy h1 hm hb fun s' w' hO hl f hblk => k s' w' ((H.own s).step fun S hS hp => ⟨s.blks, fun x => x ∈ s'.blks, fun k hk => (hp.1 k).2 hk, f, ⟨fun _ => Iff.rfl, hO⟩, fun k hk => by
    rcases hblk k hk with h | h
    · exact .inl ((hp.1 k).2 h)
    · exact .inr (by omega)⟩) hl
theorem Hp.stoS (H : Hp w0 w A) {i : Nat} (hi : i < cs.length) {p : Addr} (hp : s.a = some p) {v : Value} {K : World → Prop} (k : ∀ w', Hp w0 w' (star (Asn.own e size s (cs.set i v)) F) → K w') : Sto w (p.add i) v K :=
  H.isOwn.sto hi hp fun w' hO f => k w' ((H.own s).step fun S _hS hq => ⟨s.blks, S, fun k hk => (hq.1 k).2 hk, f, ⟨hq.1, hO⟩, fun _k hk => .inl hk⟩)
end
theorem Hp.row (H : Hp w0 w A) {e n : Nat} {b : Nat} {w' : World} {l : List Value} {size : Nat} {cs : Array Value} (nb : NewBlk w cs e b w') (hc : cs = l.toArray) (hn : n * size = l.length) (hm : n ≤ maxLen) : Hp w0 w' (star (Asn.own e size ⟨some (Vc.blk b), n, n⟩ l) A) :=
  H.beside ⟨nb.fr, fun x => x = b, fun x hx => by rw [hx, nb.at_]; exact Nat.le_refl _, fun x => by simp [Slc.blks], by subst hc; exact Own.made nb.blk hn hm⟩
theorem Hp.newRow (H : Hp w0 w A) {e n size : Nat} (l : List Value) {cs : Array Value} {K : Nat → World → Prop} (hc : cs = l.toArray) (hn : n * size = l.length) (hm : n ≤ maxLen) (k : ∀ b w', Hp w0 w' (star (Asn.own e size ⟨some (Vc.blk b), n, n⟩ l) A) → K b w') : New w cs e K :=
  New.intro fun b w' nb => k b w' (H.row nb hc hn hm)
theorem Hp.nilRow (H : Hp w0 w A) (e size : Nat) : Hp w0 w (star (Asn.own e size Slc.nil []) A) := by
  obtain ⟨fr, S, h1, h2⟩ := H
  exact ⟨fr, S, h1, fun _ => False, S, fun k => by simp, fun k h => h.elim, ⟨fun k => by simp [Slc.blks], Own.nil _ _ _⟩, h2⟩
end
theorem StoN.two {p : Addr} {v1 v2 : Value} {w : World} {K : World → Prop} (h : Sto w (p.add 0) v1 fun w' => Sto w' (p.add 1) v2 K) : StoN p 0 [v1, v2] w K := h
theorem ToStrD.rule {P : Program} {t1 t2 e : Nat} {w : World} {s : Slc} {bs : List UInt8} {K : ByteArray → Prop} (h1 : P.underlying t1 = some (.slice e)) (h2 : P.underlying t2 = some .string) (h3 : P.underlying e = some (.int .u8)) (hb : Byt w s bs) (k : K ⟨bs.toArray⟩) : ToStrD P t1 t2 w s.v K :=
  ⟨⟨bs.toArray⟩, fun n => by
    obtain ⟨z, hr, rfl⟩ := ToStr.rule (K := fun z => z = ⟨bs.toArray⟩) h1 h2 h3 (hb.fr0 ((Hp.start w).drew n).fr) rfl
    exact hr, k⟩
end Go.Vc

namespace Go.Vc
structure Tg where
  n : Int
  c : Int
deriving DecidableEq
def Tg.zero : Tg := ⟨0, 0⟩
abbrev Tg.cells (t : Tg) : List Value := [.int .i64 t.n, .int .i64 t.c]
abbrev Tg.v (t : Tg) : Value := .agg #[.int .i64 t.n, .int .i64 t.c]
def Tg.proper (t : Tg) : Bool := decide (1 ≤ t.n) && decide (t.n ≤ 4611686018427387903) && decide (1 ≤ t.c) && decide (t.c ≤ 65535)
def Tg.valid (t : Tg) : Bool := decide (t = Tg.zero) || t.proper
def cmpI (x y : Int) : Int := if x < y then -1 else if y < x then 1 else 0
def Tg.cmp (a b : Tg) : Int := if cmpI a.n b.n ≠ 0 then cmpI a.n b.n else cmpI a.c b.c
def Tg.max (a b : Tg) : Tg := if 0 < b.cmp a then b else a
theorem cmpI_cases (x y : Int) : (x < y ∧ cmpI x y = -1) ∨ (y < x ∧ cmpI x y = 1) ∨ (x = y ∧ cmpI x y = 0) := by
  unfold cmpI
  by_cases h : x < y
  · exact .inl ⟨h, if_pos h⟩
  · by_cases k : y < x
    · exact .inr (.inl ⟨k, by rw [if_neg h, if_pos k]⟩)
    · exact .inr (.inr ⟨by omega, by rw [if_neg h, if_neg k]⟩)
def Tg.next (t : Tg) (used client : Int) : Tg :=
  let m := if t.n ≤ used + 1 then used + 1 else t.n
  ⟨if m = t.n ∧ client ≤ t.c then m + 1 else m, client⟩
end Go.Vc
namespace Go.Proofs.YtabifopphhpciaaGreatDoor
open Go Go.Vc Go.Vc.Asn
section
variable {w0 w : World} {F : Asn} {s : Slc} {t u : Tg}
theorem nw {cs : Array Value} {e : TypeId} {K : Nat → World → Prop} {w : World} (k : ∀ b w', Hp w w' (star (bk b e cs) emp) → Fr [] w w' → K b w') : New w cs e K := (Hp.start w).new fun b w' H => k b w' H H.fr
theorem zero_c : Calls PP F_tag_Zero #[t.v] w (Rt fun v w' => v = .bool (decide (t = Tg.zero)) ∧ Fr [] w w') := by
  refine sim_tag_Zero _ _ _ _ ?_
  unfold vc_tag_Zero
  refine nw fun b w1 _ f => Rt.ok ⟨?_, f⟩
  obtain ⟨n, c⟩ := t
  simp [Tg.zero]
theorem proper_c : Calls PP F_tag_proper #[t.v] w (Rt fun v w' => v = .bool t.proper ∧ Fr [] w w') := by
  refine sim_tag_proper _ _ _ _ ?_
  unfold vc_tag_proper
  exact nw fun b w1 _ f => Rt.ok ⟨rfl, f⟩
theorem valid_c : Calls PP F_tag_Valid #[t.v] w (Rt fun v w' => v = .bool t.valid ∧ Fr [] w w') := by
  refine sim_tag_Valid _ _ _ _ ?_
  unfold vc_tag_Valid
  refine nw fun b w1 H f => call (zero_c (t := t)) ?_
  rintro _ w2 ⟨rfl, f2⟩
  refine ⟨_, rfl, fun x w' => x = t.valid ∧ Fr [] w w', ⟨fun h => ?_, fun h => ?_⟩, ?_⟩
  · have H2 := H.fr0 f2
    refine ⟨_, H2.cell (b := b) (i := 0) rfl, _, H2.cell (b := b) (i := 1) rfl, call (proper_c (t := t)) ?_⟩
    rintro _ w3 ⟨rfl, f3⟩
    refine ⟨_, rfl, ?_, f.then_ (f2.then_ f3)⟩
    unfold Tg.valid
    rw [h, Bool.false_or]
  · refine ⟨?_, f.then_ f2⟩
    unfold Tg.valid
    rw [h, Bool.true_or]
  · rintro _ w3 ⟨rfl, f3⟩
    exact Rt.ok ⟨rfl, f3⟩
theorem nan64_c {x : Int} : Calls PP F_cmp_isNaN_int64 #[.int .i64 x] w (Rt fun v w' => v = .bool false ∧ w' = w) := by
  refine sim_cmp_isNaN_int64 _ _ _ ?_
  unfold vc_cmp_isNaN_int64
  exact Rt.ok ⟨by simp, rfl⟩
theorem nan_c {x : Int} : Calls PP F_cmp_isNaN_int #[.int .i64 x] w (Rt fun v w' => v = .bool false ∧ w' = w) := by
  refine sim_cmp_isNaN_int _ _ _ ?_
  unfold vc_cmp_isNaN_int
  exact Rt.ok ⟨by simp, rfl⟩
theorem cmp64_c {x y : Int} : Calls PP F_cmp_Compare_int64 #[.int .i64 x, .int .i64 y] w (Rt fun v w' => v = .int .i64 (cmpI x y) ∧ w' = w) := by
  refine sim_cmp_Compare_int64 _ _ _ _ ?_
  unfold vc_cmp_Compare_int64
  refine call nan64_c ?_
  rintro _ _ ⟨rfl, rfl⟩
  refine ⟨_, rfl, call nan64_c ?_⟩
  rintro _ _ ⟨rfl, rfl⟩
  refine ⟨_, rfl, fun h => absurd h (by simp), fun _ => ⟨fun h => absurd h (by simp), fun _ => ⟨fun h => ?_, fun h => ⟨fun k => ?_, fun k => ?_⟩⟩⟩⟩ <;> refine Rt.ok ⟨?_, rfl⟩ <;> rcases cmpI_cases x y with ⟨h1, h2⟩ | ⟨h1, h2⟩ | ⟨h1, h2⟩ <;> rw [h2] <;> simp at h <;> first | (simp at k; omega) | omega | rfl
theorem cmpi_c {x y : Int} : Calls PP F_cmp_Compare_int #[.int .i64 x, .int .i64 y] w (Rt fun v w' => v = .int .i64 (cmpI x y) ∧ w' = w) := by
  refine sim_cmp_Compare_int _ _ _ _ ?_
  unfold vc_cmp_Compare_int
  refine call nan_c ?_
  rintro _ _ ⟨rfl, rfl⟩
  refine ⟨_, rfl, call nan_c ?_⟩
  rintro _ _ ⟨rfl, rfl⟩
  refine ⟨_, rfl, fun h => absurd h (by simp), fun _ => ⟨fun h => absurd h (by simp), fun _ => ⟨fun h => ?_, fun h => ⟨fun k => ?_, fun k => ?_⟩⟩⟩⟩ <;> refine Rt.ok ⟨?_, rfl⟩ <;> rcases cmpI_cases x y with ⟨h1, h2⟩ | ⟨h1, h2⟩ | ⟨h1, h2⟩ <;> rw [h2] <;> simp at h <;> first | (simp at k; omega) | omega | rfl
theorem tcmp_c : Calls PP F_tag_Compare #[t.v, u.v] w (Rt fun v w' => v = .int .i64 (t.cmp u) ∧ Fr [] w w') := by
  refine sim_tag_Compare _ _ _ _ _ _ ?_
  unfold vc_tag_Compare
  refine nw fun b w1 H f => H.new fun b2 w2 H => call cmp64_c ?_
  rintro _ _ ⟨rfl, rfl⟩
  have f2 := H.fr
  refine ⟨_, rfl, fun h => Rt.ok ⟨?_, f2⟩, fun h => ⟨_, H.cell (b := b) (i := 1) rfl, _, H.cell (b := b2) (i := 1) rfl, call cmpi_c ?_⟩⟩
  · unfold Tg.cmp
    rw [if_pos (by simpa using h)]
  · rintro _ _ ⟨rfl, rfl⟩
    refine ⟨_, rfl, Rt.ok ⟨?_, f2⟩⟩
    unfold Tg.cmp
    rw [if_neg (by simpa using h)]
theorem tnext_c {used cl : Int} (hv : t.valid = true) (hu : 0 ≤ used) (hu2 : used ≤ 4611686018427387903) (hc : 1 ≤ cl) (hc2 : cl ≤ 65535) :
    Calls PP F_tag_Next #[t.v, .int .i64 used, .int .i64 cl] w (Rt fun v w' => v = (if 4611686018427387903 < (t.next used cl).n then .tuple #[Tg.zero.v, .int .i64 42] else .tuple #[(t.next used cl).v, .int .i64 0]) ∧ Fr [] w w') := by
  have hn : 0 ≤ t.n ∧ t.n ≤ 4611686018427387903 := by
    unfold Tg.valid Tg.proper at hv
    simp only [Bool.or_eq_true, Bool.and_eq_true, decide_eq_true_eq] at hv
    rcases hv with h | h
    · rw [h]; decide
    · omega
  refine sim_tag_Next _ _ _ _ _ _ ?_
  unfold vc_tag_Next
  refine nw fun b w1 H f => H.new fun b2 w2 H => call (valid_c (t := t)) ?_
  rintro _ w3 ⟨rfl, f3⟩
  rw [hv]
  have H := H.fr0 f3
  refine ⟨_, rfl, fun h => absurd h (by simp), fun _ => ⟨fun h => ?_, fun _ => ?_⟩⟩
  · simp at h; omega
  refine ⟨_, H.cell (b := b) (i := 0) rfl, fun c w' => c = (t.next used cl).n ∧ w' = w3, ⟨_, H.cell (b := b) (i := 0) rfl, ?_⟩, ?_⟩
  · have em : maxI t.n (wr .i64 (used + 1)) = if t.n ≤ used + 1 then used + 1 else t.n := by
      rw [wr64 (by omega) (by omega)]
      unfold maxI
      split <;> split <;> omega
    rw [em]
    have e : (t.next used cl).n = if (if t.n ≤ used + 1 then used + 1 else t.n) = t.n ∧ cl ≤ t.c then (if t.n ≤ used + 1 then used + 1 else t.n) + 1 else (if t.n ≤ used + 1 then used + 1 else t.n) := rfl
    rw [e]
    generalize hm : (if t.n ≤ used + 1 then used + 1 else t.n) = m
    have hm2 : m ≤ 4611686018427387904 := by rw [← hm]; split <;> omega
    have hm0 : 0 ≤ m := by rw [← hm]; split <;> omega
    refine ⟨decide (m = t.n) && decide (cl ≤ t.c), fun h => ⟨_, H.cell (b := b) (i := 1) rfl, ?_⟩, fun h => ?_, fun h => ⟨?_, rfl⟩, fun h => ⟨?_, rfl⟩⟩
    · rw [h, Bool.true_and]
    · rw [h, Bool.false_and]
    · simp only [Bool.and_eq_true, decide_eq_true_eq] at h
      rw [if_pos h, wr64 (by omega) (by omega)]
    · rw [if_neg]
      intro hh
      simp [hh.1, hh.2] at h
  · rintro c w4 ⟨rfl, rfl⟩
    refine ⟨fun h => ?_, fun h => ?_⟩
    · simp only [decide_eq_true_eq] at h
      refine H.stoAll (b := b2) rfl fun w5 H => ⟨_, H.cell (b := b2) (i := 0) rfl, _, H.cell (b := b2) (i := 1) rfl, Rt.ok ⟨?_, H.fr⟩⟩
      rw [if_pos h]
      rfl
    · simp only [decide_eq_false_iff_not] at h
      refine H.stoAll (b := b2) (by rfl) fun w5 H => ⟨_, H.cell (b := b2) (i := 0) rfl, _, H.cell (b := b2) (i := 1) rfl, Rt.ok ⟨?_, H.fr⟩⟩
      rw [if_neg h]
      rfl
structure _root_.Go.Vc.Cfg where
  N : Int
  K : Int
  D : Int
deriving DecidableEq
abbrev _root_.Go.Vc.Cfg.cells (c : Cfg) : List Value := [.int .i64 c.N, .int .i64 c.K, .int .i64 c.D]
abbrev _root_.Go.Vc.Cfg.v (c : Cfg) : Value := .agg #[.int .i64 c.N, .int .i64 c.K, .int .i64 c.D]
structure _root_.Go.Vc.Cfg.Ok (c : Cfg) : Prop where
  k1 : 1 ≤ c.K
  kn : c.K ≤ c.N
  n : c.N ≤ 255
  d0 : 0 ≤ c.D
  d1 : c.D ≤ 4611686018427387903
variable {c : Cfg}
theorem check_c (h : c.Ok) : Calls PP F_quorum_Check #[c.v] w (Rt fun v w' => v = .int .i64 0 ∧ Fr [] w w') := by
  obtain ⟨h1, h2, h3, h4, h5⟩ := h
  refine sim_quorum_Check _ _ _ _ _ ?_
  unfold vc_quorum_Check
  refine nw fun b w1 _ f => ⟨fun h => ?_, fun _ => Rt.ok ⟨rfl, f⟩⟩
  simp only [Bool.or_eq_true, decide_eq_true_eq] at h
  omega
theorem size_q (h : c.Ok) : Calls PP F_quorum_Size #[c.v] w (Rt fun v w' => v = .tuple #[.int .i64 ((c.N + c.K + 1) / 2), .int .i64 0] ∧ Fr [] w w') := by
  refine sim_quorum_Size _ _ _ _ _ ?_
  unfold vc_quorum_Size
  refine nw fun b w1 H f => call (check_c h) ?_
  rintro _ w2 ⟨rfl, f2⟩
  have H := H.fr0 f2
  refine ⟨_, rfl, fun h => absurd h (by decide), fun _ => ⟨_, H.cell (b := b) (i := 0) rfl, _, H.cell (b := b) (i := 1) rfl, Rt.ok ⟨?_, H.fr⟩⟩⟩
  obtain ⟨h1, h2, h3, h4, h5⟩ := h
  rw [wr64 (n := c.N + c.K) (by omega) (by omega), wr64 (n := c.N + c.K + 1) (by omega) (by omega), Int.tdiv_eq_ediv_of_nonneg (by omega), wr64 (by omega) (by omega)]
end
end Go.Proofs.YtabifopphhpciaaGreatDoor

namespace Go.Vc
open Go Go.Vc.Asn

/-! ## Keys -/
structure KeyT (P : Program) (kt : TypeId) {κ : Type} [DecidableEq κ] (ec : κ → Value) : Prop where
  chk : ∀ (em : Bool) (k : κ) (w : World), (Instr.checkKey em 10000 kt (ec k)).run P w = .ok () w
  find : ∀ (k : κ) (l : List MapEntry) (ks : List κ), l.map (·.key) = ks.map ec → ∀ w, (Instr.findKey kt (ec k) l).run P w = .ok ((ks.findIdx? (fun x => decide (x = k))).bind fun i => (l[i]?).map fun e => (i, e.val)) w
  same : ∀ k, Instr.sameBits 10000 (ec k) (ec k) = true
theorem run_findNow' {P : Program} {kt : TypeId} {d : TypeDesc} {κ : Type} [DecidableEq κ] {ec : κ → Value} {k : κ} (hd : P.underlying kt = some d) (hs : ∀ k' : κ, Instr.sameNow d (ec k) (ec k') = some (decide (k = k'))) :
    ∀ (l : List MapEntry) (ks : List κ) (i : Nat), l.map (·.key) = ks.map ec → Instr.findNow d (ec k) l i = some ((ks.findIdx? (fun x => decide (x = k))).bind fun j => (l[j]?).map fun e => (i + j, e.val))
  | [], ks, i, h => by
    have : ks = [] := by cases ks with | nil => rfl | cons => simp at h
    subst this
    simp [Instr.findNow]
  | e :: es, [], i, h => by simp at h
  | e :: es, k' :: ks, i, h => by
    simp only [List.map_cons, List.cons.injEq] at h
    simp only [Instr.findNow, h.1, hs]
    by_cases hk : k = k'
    · subst hk
      simp [List.findIdx?_cons]
    · have hk' : ¬ k' = k := fun e => hk e.symm
      simp only [hk, decide_false]
      rw [run_findNow' hd hs es ks (i + 1) h.2]
      simp only [List.findIdx?_cons, hk', decide_false, Bool.false_eq_true, if_false]
      cases ks.findIdx? (fun x => decide (x = k)) with
      | none => rfl
      | some j => simp; cases es[j]? <;> simp; omega
theorem keyT_now {P : Program} {kt : TypeId} {d : TypeDesc} {κ : Type} [DecidableEq κ] {ec : κ → Value} (hd : P.underlying kt = some d) (hs : ∀ k k' : κ, Instr.sameNow d (ec k) (ec k') = some (decide (k = k')))
    (hc : ∀ (em : Bool) (k : κ) (w : World), (Instr.checkKey em 10000 kt (ec k)).run P w = .ok () w) (hb : ∀ k, Instr.sameBits 10000 (ec k) (ec k) = true) : KeyT P kt ec :=
  ⟨hc, fun k l ks h w => by
    rw [Instr.findKey]
    simp only [Sem.run_bind, run_underlying hd, Result.andThen]
    rw [run_findNow' hd (hs k) l ks 0 h]
    simp, hb⟩
theorem keyT_int {P : Program} {kt : TypeId} {q : IntKind} (hd : P.underlying kt = some (.int q)) : KeyT P kt (fun n : Int => Value.int q n) :=
  keyT_now hd (fun k k' => by simp [Instr.sameNow]; rfl) (fun em k w => by unfold Instr.checkKey; simp [run_underlying hd]) fun k => by simp [Instr.sameBits]
theorem bytes_beq' (a b : ByteArray) : (a == b) = decide (a = b) := by
  rw [Bool.eq_iff_iff, MapKept.bytes_beq]; simp
theorem keyT_str {P : Program} {kt : TypeId} (hd : P.underlying kt = some .string) : KeyT P kt (fun s : ByteArray => Value.string s) :=
  keyT_now hd (fun k k' => by simp [Instr.sameNow, bytes_beq']) (fun em k w => by unfold Instr.checkKey; simp [run_underlying hd]) fun k => by simp [Instr.sameBits, bytes_beq']
/-! ## The entries -/
section
variable {κ ν : Type} [DecidableEq κ] (ec : κ → Value) (ev : ν → Value)
def ment (x : κ × ν × Nat) : MapEntry := { key := ec x.1, val := ev x.2.1, born := x.2.2 }
def ments (L : List (κ × ν × Nat)) : Array MapEntry := (L.map (ment ec ev)).toArray
structure MInv (L : List (κ × ν × Nat)) (c : Nat) : Prop where
  keys : (L.map (·.1)).Nodup
  borns : (L.map (·.2.2)).Nodup
  lt : ∀ x ∈ L, x.2.2 < c
def mlook (L : List (κ × ν × Nat)) (k : κ) : Option ν := (L.find? fun x => decide (x.1 = k)).map (·.2.1)
def mput (L : List (κ × ν × Nat)) (c : Nat) (k : κ) (v : ν) : List (κ × ν × Nat) × Nat :=
  if k ∈ L.map (·.1) then (L.map fun x => if x.1 = k then (x.1, v, x.2.2) else x, c) else (L ++ [(k, v, c)], c + 1)
variable {ec ev}
theorem findIdx_keys (L : List (κ × ν × Nat)) (k : κ) : (L.map (·.1)).findIdx? (fun x => decide (x = k)) = L.findIdx? fun x => decide (x.1 = k) := by
  rw [List.findIdx?_map]; rfl
omit [DecidableEq κ] in
theorem ment_keys (L : List (κ × ν × Nat)) : (L.map (ment ec ev)).map (·.key) = (L.map (·.1)).map ec := by
  rw [List.map_map, List.map_map]; rfl
theorem find_bind (L : List (κ × ν × Nat)) (k : κ) : ((L.map (·.1)).findIdx? (fun x => decide (x = k))).bind (fun i => ((L.map (ment ec ev))[i]?).map fun e => (i, e.val)) =
    (L.findIdx? fun x => decide (x.1 = k)).bind fun i => (L[i]?).map fun x => (i, ev x.2.1) := by
  rw [findIdx_keys]
  cases h : L.findIdx? (fun x => decide (x.1 = k)) with
  | none => rfl
  | some i => simp [List.getElem?_map]; cases L[i]? <;> simp [ment]
theorem look_of_idx (L : List (κ × ν × Nat)) (k : κ) : ((L.findIdx? fun x => decide (x.1 = k)).bind fun i => L[i]?) = L.find? fun x => decide (x.1 = k) := by
  induction L with
  | nil => rfl
  | cons x r ih =>
    simp only [List.findIdx?_cons, List.find?_cons]
    by_cases h : x.1 = k
    · simp [h]
    · simp only [h, decide_false, Bool.false_eq_true, if_false]
      rw [← ih]
      cases r.findIdx? (fun x => decide (x.1 = k)) <;> simp
end
section
variable {P : Program} {w : World} {t kt et ty : TypeId} {κ ν : Type} [DecidableEq κ] {ec : κ → Value} {ev : ν → Value} {g c : Nat} {L : List (κ × ν × Nat)}
theorem run_findM (T : KeyT P kt ec) (k : κ) : (Instr.findKey kt (ec k) (ments ec ev L).toList).run P w = .ok ((L.findIdx? fun x => decide (x.1 = k)).bind fun i => (L[i]?).map fun x => (i, ev x.2.1)) w := by
  rw [← find_bind (ec := ec)]
  exact T.find k _ _ (ment_keys L) w
theorem run_lookM (T : KeyT P kt ec) (ht : P.underlying t = some (.map kt et)) (hg : w.heap[g]? = some (.map (ments ec ev L) c)) {z : Value} (hz : (zeroValue et).run P w = .ok z w) (k : κ) (b : Bool) :
    (Instr.lookup t (.map (some g)) (ec k) b).run P w = .ok (if b then .tuple #[((mlook L k).map ev).getD z, .bool (mlook L k).isSome] else ((mlook L k).map ev).getD z) w := by
  have hl := look_of_idx L k
  have hf : (Instr.findKey kt (ec k) (ments ec ev L).toList).run P w = _ := run_findM (ec := ec) (ev := ev) (L := L) T k
  simp only [Instr.lookup, Sem.run_bind, run_underlying ht, Result.andThen, MapKept.run_getObj_map hg, Sem.run_pure, T.chk, hf]
  unfold mlook
  rw [← hl]
  cases h : L.findIdx? (fun x => decide (x.1 = k)) with
  | none => simp [hz]
  | some i =>
    have hi : i < L.length := by
      have := List.findIdx?_eq_some_iff_getElem.1 h
      obtain ⟨h1, _⟩ := this
      exact h1
    simp [List.getElem?_eq_getElem hi]
theorem run_updM (T : KeyT P kt ec) (ht : P.underlying t = some (.map kt et)) (hg : w.heap[g]? = some (.map (ments ec ev L) c)) (hn : (L.map (·.1)).Nodup) (k : κ) (v : ν) :
    (Instr.mapUpdate t (.map (some g)) (ec k) (ev v)).run P w = .ok () { w with heap := w.heap.setIfInBounds g (.map (ments ec ev (mput L c k v).1) (mput L c k v).2) } := by
  have hf : (Instr.findKey kt (ec k) (ments ec ev L).toList).run P w = _ := run_findM (ec := ec) (ev := ev) (L := L) T k
  simp only [Instr.mapUpdate, Sem.run_bind, run_underlying ht, Result.andThen, MapKept.run_getObj_map hg, T.chk, hf]
  unfold mput
  cases h : L.findIdx? (fun x => decide (x.1 = k)) with
  | none =>
    have hk : k ∉ L.map (·.1) := by
      intro hm
      obtain ⟨x, hx, rfl⟩ := List.mem_map.1 hm
      have := List.findIdx?_eq_none_iff.1 h x hx
      simp at this
    rw [if_neg hk]
    simp only [Option.bind_none, MapKept.run_setObj_map _ hg]
    simp [ments, ment]
  | some i =>
    obtain ⟨hi, h1, h2⟩ := List.findIdx?_eq_some_iff_getElem.1 h
    simp only [decide_eq_true_eq] at h1
    have hk : k ∈ L.map (·.1) := List.mem_map.2 ⟨L[i], List.getElem_mem _, h1⟩
    rw [if_pos hk]
    simp only [List.getElem?_eq_getElem hi, Option.map_some, Option.bind_some]
    have e1 : (((ments ec ev L)[i]?).map (·.key)).getD (ec k) = ec k := by simp [ments, List.getElem?_eq_getElem hi, ment, h1]
    have e2 : (Instr.keyThatStays (ec k) (ec k)).run P w = .ok (ec k) w := by unfold Instr.keyThatStays; rw [if_pos (T.same k)]; rfl
    simp only [e1, Sem.run_bind, e2, Result.andThen, MapKept.run_setObj_map _ hg]
    have e3 : (ments ec ev L).modify i (fun e => { e with key := ec k, val := ev v }) = ments ec ev (L.map fun x => if x.1 = k then (x.1, v, x.2.2) else x) := by
      apply Array.ext'
      unfold ments
      simp only [Array.toList_modify, List.map_map]
      apply List.ext_getElem?
      intro j
      rw [List.getElem?_modify, List.getElem?_map, List.getElem?_map]
      by_cases hj : i = j
      · subst hj
        rw [List.getElem?_eq_getElem hi]
        simp [ment, h1]
      · cases hx : L[j]? with
        | none => simp
        | some x =>
          have hxk : x.1 ≠ k := by
            intro e
            apply hj
            obtain ⟨hjl, hxe⟩ := List.getElem?_eq_some_iff.1 hx
            have a1 : (L.map (·.1))[i]'(by simpa using hi) = k := by simpa using h1
            have a2 : (L.map (·.1))[j]'(by simpa using hjl) = k := by simp [hxe, e]
            by_cases hij : i = j
            · exact hij
            · exfalso
              have hp := List.pairwise_iff_getElem.1 hn
              rcases Nat.lt_or_gt_of_ne hij with h3 | h3
              · exact hp i j (by simpa using hi) (by simpa using hjl) h3 (a1.trans a2.symm)
              · exact hp j i (by simpa using hjl) (by simpa using hi) h3 (a2.trans a1.symm)
          simp [hj, hxk]
    rw [e3]
end
end Go.Vc

namespace Go.Vc
open Go Go.Vc.Asn
open Go.ChangeMaps (setBlock)
section
variable {κ ν : Type}
def ml (x : κ × ν × Nat) : κ × ν := (x.1, x.2.1)
variable [DecidableEq κ]
def llook (l : List (κ × ν)) (k : κ) : Option ν := (l.find? fun x => decide (x.1 = k)).map (·.2)
def lput (l : List (κ × ν)) (k : κ) (v : ν) : List (κ × ν) := if k ∈ l.map (·.1) then l.map (fun x => if x.1 = k then (x.1, v) else x) else l ++ [(k, v)]
def ldel (l : List (κ × ν)) (k : κ) : List (κ × ν) := l.filter fun x => decide (x.1 ≠ k)
omit [DecidableEq κ] in
theorem ml_keys (L : List (κ × ν × Nat)) : (L.map ml).map (·.1) = L.map (·.1) := by rw [List.map_map]; rfl
theorem mlook_ml (L : List (κ × ν × Nat)) (k : κ) : mlook L k = llook (L.map ml) k := by
  unfold mlook llook
  rw [List.find?_map]
  cases h : L.find? (fun x => decide (x.1 = k)) with
  | none => have : L.find? ((fun x : κ × ν => decide (x.1 = k)) ∘ ml) = none := h; rw [this]; rfl
  | some x => have : L.find? ((fun x : κ × ν => decide (x.1 = k)) ∘ ml) = some x := h; rw [this]; rfl
theorem mput_ml (L : List (κ × ν × Nat)) (c : Nat) (k : κ) (v : ν) : (mput L c k v).1.map ml = lput (L.map ml) k v := by
  unfold mput lput
  rw [ml_keys]
  split
  · simp only [List.map_map]
    apply List.map_congr_left
    intro x _
    simp only [Function.comp, ml]
    by_cases h : x.1 = k <;> simp [h]
  · simp [ml]
theorem MInv.put {L : List (κ × ν × Nat)} {c : Nat} (h : MInv L c) (k : κ) (v : ν) : MInv (mput L c k v).1 (mput L c k v).2 := by
  unfold mput
  split
  · have e1 : ∀ x : κ × ν × Nat, (if x.1 = k then (x.1, v, x.2.2) else x).1 = x.1 := fun x => by split <;> rfl
    have e2 : ∀ x : κ × ν × Nat, (if x.1 = k then (x.1, v, x.2.2) else x).2.2 = x.2.2 := fun x => by split <;> rfl
    refine ⟨?_, ?_, ?_⟩
    · simp only [List.map_map]
      rw [show ((fun x : κ × ν × Nat => x.1) ∘ fun x => if x.1 = k then (x.1, v, x.2.2) else x) = fun x => x.1 from funext e1]
      exact h.keys
    · simp only [List.map_map]
      rw [show ((fun x : κ × ν × Nat => x.2.2) ∘ fun x => if x.1 = k then (x.1, v, x.2.2) else x) = fun x => x.2.2 from funext e2]
      exact h.borns
    · intro x hx
      obtain ⟨y, hy, rfl⟩ := List.mem_map.1 hx
      rw [e2]
      exact h.lt y hy
  · rename_i hk
    refine ⟨?_, ?_, ?_⟩
    · simp only [List.map_append, List.map_cons, List.map_nil]
      refine List.nodup_append.2 ⟨h.keys, by simp, fun a ha b hb => ?_⟩
      simp at hb
      rintro rfl
      subst hb
      exact hk ha
    · simp only [List.map_append, List.map_cons, List.map_nil]
      refine List.nodup_append.2 ⟨h.borns, by simp, fun a ha b hb => ?_⟩
      simp at hb
      obtain ⟨x, hx, rfl⟩ := List.mem_map.1 ha
      have := h.lt x hx
      omega
    · intro x hx
      rcases List.mem_append.1 hx with hx | hx
      · have := h.lt x hx
        show x.2.2 < c + 1
        omega
      · simp at hx
        subst hx
        exact Nat.lt_succ_self c
end
def Asn.mp {κ ν : Type} (ec : κ → Value) (ev : ν → Value) (g : Nat) (l : List (κ × ν)) : Asn where
  p w S := (∀ k, S k ↔ k = g) ∧ ∃ (L : List (κ × ν × Nat)) (c : Nat), L.map ml = l ∧ w.heap[g]? = some (.map (ments ec ev L) c) ∧ MInv L c
  loc := by
    rintro w w' S ⟨h1, L, c, h2, h3, h4⟩ h
    exact ⟨h1, L, c, h2, (h g ((h1 g).2 rfl)).trans h3, h4⟩
  lt := by
    rintro w S ⟨h1, L, c, h2, h3, h4⟩ k hk
    rw [(h1 k).1 hk]
    exact (Array.getElem?_eq_some_iff.1 h3).1
section
variable {κ ν : Type} {ec : κ → Value} {ev : ν → Value}
class TakeM (ec : κ → Value) (ev : ν → Value) (g : Nat) (A : Asn) (l : outParam (List (κ × ν))) (F : outParam Asn) : Prop where
  e : Ent A (star (mp ec ev g l) F)
instance (priority := 2000) takeM_here (ec : κ → Value) (ev : ν → Value) (g : Nat) (l : List (κ × ν)) (F : Asn) : TakeM ec ev g (star (mp ec ev g l) F) l F := ⟨Ent.refl _⟩
instance (priority := 1500) takeM_assoc (ec : κ → Value) (ev : ν → Value) (g : Nat) (l : List (κ × ν)) (X Y Z F : Asn) [h : TakeM ec ev g (star X (star Y Z)) l F] : TakeM ec ev g (star (star X Y) Z) l F := ⟨assoc.trans h.e⟩
instance (priority := 1000) takeM_there (ec : κ → Value) (ev : ν → Value) (g : Nat) (l : List (κ × ν)) (B A F : Asn) [h : TakeM ec ev g A l F] : TakeM ec ev g (star B A) l (star B F) := ⟨(Ent.star (Ent.refl B) h.e).trans left⟩
instance (priority := 500) takeM_last (ec : κ → Value) (ev : ν → Value) (g : Nat) (l : List (κ × ν)) : TakeM ec ev g (mp ec ev g l) l emp := ⟨emp_r⟩
variable {P : Program} {w0 w : World} {A F : Asn} {t kt et ty : TypeId} {g : Nat} {l : List (κ × ν)}
theorem Hp.map (ec : κ → Value) (ev : ν → Value) (g : Nat) [h : TakeM ec ev g A l F] (H : Hp w0 w A) : Hp w0 w (star (mp ec ev g l) F) := H.ent h.e
theorem heap_frS (w : World) (g : Nat) (o : Obj) : Fr [g] w { w with heap := w.heap.setIfInBounds g o } :=
  ⟨rfl, rfl, rfl, by simp, fun k _ hk => by simp at hk; simp [Array.getElem?_setIfInBounds, Ne.symm hk]⟩
theorem Hp.mset {l' : List (κ × ν)} {L : List (κ × ν × Nat)} {c : Nat} (H : Hp w0 w (star (mp ec ev g l) F)) (hl : L.map ml = l') (hI : MInv L c) : Hp w0 { w with heap := w.heap.setIfInBounds g (.map (ments ec ev L) c) } (star (mp ec ev g l') F) :=
  H.step fun S _ hp => ⟨[g], S, fun k hk => (hp.1 k).2 (by simpa using hk), heap_frS _ _ _, ⟨hp.1, L, c, hl, by
    obtain ⟨_, _, _, _, h3, _⟩ := hp
    have := (Array.getElem?_eq_some_iff.1 h3).1
    simp [Array.getElem?_setIfInBounds, this], hI⟩, fun k hk => .inl hk⟩
theorem Hp.mheap (H : Hp w0 w (star (mp ec ev g l) F)) : ∃ (L : List (κ × ν × Nat)) (c : Nat), L.map ml = l ∧ w.heap[g]? = some (.map (ments ec ev L) c) ∧ MInv L c := by
  obtain ⟨_, S, _, S1, S2, _, _, ⟨_, h⟩, _⟩ := H
  exact h
variable [DecidableEq κ]
theorem Hp.lkp [h : TakeM ec ev g A l F] (H : Hp w0 w A) (T : KeyT P kt ec) (ht : P.underlying t = some (.map kt et)) {z : Value} (hz : (zeroValue et).run P w = .ok z w) {c : Bool} {k : κ} {K : Value → Prop}
    (hk : K (if c then .tuple #[((llook l k).map ev).getD z, .bool (llook l k).isSome] else ((llook l k).map ev).getD z)) : Lkp P t c w (.map (some g)) (ec k) K := by
  obtain ⟨L, q, rfl, h3, _⟩ := (H.map ec ev g).mheap
  refine ⟨_, run_lookM T ht h3 hz k c, ?_⟩
  rw [mlook_ml]
  exact hk
theorem Hp.mup [h : TakeM ec ev g A l F] (H : Hp w0 w A) (T : KeyT P kt ec) (ht : P.underlying t = some (.map kt et)) {k : κ} {v : ν} {K : World → Prop} (hk : ∀ w', Hp w0 w' (star (mp ec ev g (lput l k v)) F) → K w') : Mup P t w (.map (some g)) (ec k) (ev v) K := by
  have H' := H.map ec ev g
  obtain ⟨L, q, rfl, h3, h4⟩ := H'.mheap
  exact ⟨_, run_updM T ht h3 h4.keys k v, hk _ (H'.mset (mput_ml L q k v) (h4.put k v))⟩
omit [DecidableEq κ] in
theorem Hp.newM (ec : κ → Value) (ev : ν → Value) (H : Hp w0 w A) {K : Nat → World → Prop} (hk : ∀ g w', Hp w0 w' (star (mp ec ev g []) A) → K g w') : NewM P t w K := by
  have hs : (w.alloc (.map #[] 0)).heap.size = w.heap.size + 1 := Array.size_push ..
  have hf : Fr [] w (w.alloc (.map #[] 0)) := ⟨rfl, rfl, rfl, by omega, fun k hk _ => by
    show (w.heap.push _)[k]? = _
    rw [Array.getElem?_push, if_neg (by omega)]⟩
  refine ⟨w.heap.size, w.alloc (.map #[] 0), rfl, hk _ _ (H.beside ⟨hf, fun x => x = w.heap.size, fun x hx => by rw [hx]; exact Nat.le_refl _, fun _ => Iff.rfl, [], 0, rfl, ?_, ⟨List.nodup_nil, List.nodup_nil, fun x hx => by cases hx⟩⟩)⟩
  show (w.heap.push _)[w.heap.size]? = _
  rw [Array.getElem?_push, if_pos rfl]
  rfl
end
end Go.Vc

namespace Go.Vc
open Go Go.Vc.Asn
open Go.ChangeMaps (setBlock)
section
variable {κ ν : Type}
def Asn.mr (ec : κ → Value) (ev : ν → Value) (it g : Nat) (l rest : List (κ × ν)) (cur : Option (κ × ν)) : Asn where
  p w S := (∀ k, S k ↔ k = it ∨ k = g) ∧ it ≠ g ∧ ∃ (L : List (κ × ν × Nat)) (c : Nat) (seen : Array Nat), L.map ml = l ∧ w.heap[g]? = some (.map (ments ec ev L) c) ∧ MInv L c ∧ w.heap[it]? = some (.mapIter (some g) c seen c) ∧
    (L.filter fun x => !seen.contains x.2.2).map ml = rest ∧ ∀ y, cur = some y → ∃ (s0 : Array Nat) (b : Nat), seen = s0.push b ∧ (y.1, y.2, b) ∈ L
  loc := by
    rintro w w' S ⟨h1, h0, L, c, seen, h2, h3, h4, h5, h6⟩ h
    exact ⟨h1, h0, L, c, seen, h2, (h g ((h1 g).2 (.inr rfl))).trans h3, h4, (h it ((h1 it).2 (.inl rfl))).trans h5, h6⟩
  lt := by
    rintro w S ⟨h1, h0, L, c, seen, h2, h3, h4, h5, h6⟩ k hk
    rcases (h1 k).1 hk with rfl | rfl
    · exact (Array.getElem?_eq_some_iff.1 h5).1
    · exact (Array.getElem?_eq_some_iff.1 h3).1
def mleft (it g : Nat) (w : World) : Nat := match w.heap[it]?, w.heap[g]? with | some (.mapIter _ _ seen _), some (.map es _) => (leftOf es seen).size | _, _ => 0
variable {ec : κ → Value} {ev : ν → Value} {P : Program} {w0 w : World} {A F : Asn} {t kt et ty : TypeId} {it g : Nat} {l rest : List (κ × ν)} {cur : Option (κ × ν)}
theorem alloc_fr (w : World) (o : Obj) : Fr [] w (w.alloc o) := ⟨rfl, rfl, rfl, by show w.heap.size ≤ (w.heap.push o).size; rw [Array.size_push]; omega, fun k hk _ => by
  show (w.heap.push o)[k]? = _
  rw [Array.getElem?_push, if_neg (by omega)]⟩
theorem alloc_at (w : World) (o : Obj) : (w.alloc o).heap[w.heap.size]? = some o := by
  show (w.heap.push o)[w.heap.size]? = _
  rw [Array.getElem?_push, if_pos rfl]
theorem Hp.rng (ht : P.underlying t = some (.map kt et)) (H : Hp w0 w (star (mp ec ev g l) F)) {K : Nat → World → Prop} (hk : ∀ it w', Hp w0 w' (star (mr ec ev it g l l none) F) → K it w') : Rng P t w (.map (some g)) K := by
  obtain ⟨L, c, rfl, h3, h4⟩ := H.mheap
  refine ⟨w.heap.size, w.alloc (.mapIter (some g) c #[] c), ?_, hk _ _ (H.step fun S _ hp => ⟨[], fun k => k = w.heap.size ∨ k = g, by simp, alloc_fr _ _, ⟨fun _ => Iff.rfl, ?_, L, c, #[], rfl, ?_, h4, alloc_at _ _, ?_, fun y h => by cases h⟩, fun k hk => ?_⟩)⟩
  · simp only [Instr.range, Sem.run_bind, run_underlying ht, Result.andThen, MapKept.run_getObj_map h3, Sem.run_pure]
    rfl
  · have := (Array.getElem?_eq_some_iff.1 h3).1; omega
  · rw [(alloc_fr w _).block g (Array.getElem?_eq_some_iff.1 h3).1 (by simp)]; exact h3
  · rw [List.filter_eq_self.2 (by intro x _; simp)]
  · rcases hk with rfl | rfl
    · exact .inr (Nat.le_refl _)
    · exact .inl ((hp.1 _).2 rfl)
theorem Hp.mrEnd (H : Hp w0 w (star (mr ec ev it g l rest cur) F)) : Hp w0 w (star (mp ec ev g l) F) :=
  H.step fun S _ hp => by
    obtain ⟨h1, h0, L, c, seen, h2, h3, h4, _⟩ := hp
    exact ⟨[], fun k => k = g, by simp, Fr.refl _ _, ⟨fun _ => Iff.rfl, L, c, h2, h3, h4⟩, fun k hk => .inl ((h1 k).2 (.inr hk))⟩
variable [DecidableEq κ]
theorem Hp.nxt (H : Hp w0 w (star (mr ec ev it g l rest cur) F)) {K : Bool → World → Prop} (h0 : rest = [] → K false w) (hk : ∀ x ∈ rest, ∀ w', Hp w0 w' (star (mr ec ev it g l (ldel rest x.1) (some x)) F) → K true w') : Nxt P ty w (.pointer (some (Vc.blk it))) K := by
  have H0 := H
  obtain ⟨_, S, _, S1, S2, _, _, ⟨hS, hne, L, c, seen, rfl, h3, h4, h5, rfl, _⟩, _⟩ := H
  have hl : leftOf (ments ec ev L) seen = ments ec ev (L.filter fun x => !seen.contains x.2.2) := by
    unfold leftOf ments
    apply Array.ext'
    simp only [Array.toList_filter, List.filter_map]
    rfl
  have hold : ∀ x ∈ (ments ec ev L).toList, x.born < c := fun x hx => by
    obtain ⟨y, hy, rfl⟩ := List.mem_map.1 (show x ∈ L.map (ment ec ev) from hx)
    exact h4.lt y hy
  rcases run_next_at (P := P) w ty it g c c seen (ments ec ev L) c h5 h3 hold (Nat.le_refl _) with ⟨hz, hr⟩ | ⟨e, he, w1, hw, hr⟩
  · refine ⟨false, [], w, hr, h0 ?_⟩
    rw [hl] at hz
    have : (L.filter fun x => !seen.contains x.2.2).length = 0 := by simpa [ments] using hz
    rw [List.eq_nil_of_length_eq_zero this]; rfl
  · rw [hl] at he
    obtain ⟨x, hx, rfl⟩ := List.mem_map.1 (show e ∈ (L.filter fun x => !seen.contains x.2.2).map (ment ec ev) from he)
    obtain ⟨hxL, hxs⟩ := List.mem_filter.1 hx
    refine ⟨true, [(ment ec ev x).key, (ment ec ev x).val], _, hr, hk (ml x) (List.mem_map_of_mem hx) _ (H0.step fun S hSn hp => ⟨[it], S, fun k hk => (hp.1 k).2 (.inl (by simpa using hk)), ?_, ⟨hp.1, hne, L, c, seen.push x.2.2, rfl, ?_, h4, ?_, ?_, fun y hy => ?_⟩, fun k hk => .inl hk⟩)⟩
    · have hf : Fr [] w w1 := by
        rcases hw with rfl | rfl
        · exact Fr.refl _ _
        · exact (Fr.refl [] w).drewN 1
      exact (Fr.local_ (S := [it]) (hf.sub fun k hk => by cases hk) (heap_frS w1 it _) fun x hx => .inl hx)
    · have : w1.heap = w.heap := by rcases hw with rfl | rfl <;> rfl
      show (w1.heap.setIfInBounds it _)[g]? = _
      rw [Array.getElem?_setIfInBounds, if_neg hne, this]
      exact h3
    · have : w1.heap = w.heap := by rcases hw with rfl | rfl <;> rfl
      show (w1.heap.setIfInBounds it _)[it]? = _
      have hlt := (Array.getElem?_eq_some_iff.1 h5).1
      rw [Array.getElem?_setIfInBounds, if_pos rfl, this, if_pos hlt]
      rfl
    · have hb : ∀ y ∈ L, (y.2.2 = x.2.2 ↔ y.1 = x.1) := fun y hy => by
        have k1 := List.pairwise_map.1 h4.keys
        have k2 := List.pairwise_map.1 h4.borns
        by_cases hyx : y = x
        · subst hyx; simp
        · obtain ⟨i, hi, rfl⟩ := List.getElem_of_mem hy
          obtain ⟨j, hj, rfl⟩ := List.getElem_of_mem hxL
          have hij : i ≠ j := fun h => hyx (by subst h; rfl)
          rcases Nat.lt_or_gt_of_ne hij with h | h
          · have a1 := List.pairwise_iff_getElem.1 k1 i j hi hj h
            have a2 := List.pairwise_iff_getElem.1 k2 i j hi hj h
            exact ⟨fun e => absurd e a2, fun e => absurd e a1⟩
          · have a1 := List.pairwise_iff_getElem.1 k1 j i hj hi h
            have a2 := List.pairwise_iff_getElem.1 k2 j i hj hi h
            exact ⟨fun e => absurd e.symm a2, fun e => absurd e.symm a1⟩
      unfold ldel
      rw [List.filter_map, List.filter_filter]
      congr 1
      apply List.filter_congr
      intro y hy
      have := hb y hy
      simp only [Array.contains_push, Function.comp, ml]
      by_cases h1 : y.1 = x.1
      · have h2 := this.2 h1
        simp [h1, h2]
      · have h2 : ¬ y.2.2 = x.2.2 := fun e => h1 (this.1 e)
        simp [h1, h2]
    · injection hy with hy
      subst hy
      exact ⟨seen, x.2.2, rfl, hxL⟩
omit [DecidableEq κ] in
theorem Hp.etr {x : κ × ν} (H : Hp w0 w (star (mr ec ev it g l rest (some x)) F)) {K : Value → Prop} (hk : K (.tuple #[ec x.1, ev x.2])) : Etr P w (.pointer (some (Vc.blk it))) K := by
  obtain ⟨_, S, _, S1, S2, _, _, ⟨hS, hne, L, c, seen, rfl, h3, h4, h5, rfl, hc⟩, _⟩ := H
  obtain ⟨s0, b, rfl, hm⟩ := hc x rfl
  refine ⟨_, run_entry_at w it g c s0 _ c (ment ec ev (x.1, x.2, b)) h5 h3 ?_ ?_, hk⟩
  · simp only [ments]
    exact List.mem_map_of_mem hm
  · have : (ments ec ev L).toList.map (·.born) = L.map (·.2.2) := by simp [ments, ment]
    rw [this]
    exact h4.borns
omit [DecidableEq κ] in
theorem Hp.left (H : Hp w0 w (star (mr ec ev it g l rest cur) F)) : mleft it g w = rest.length := by
  obtain ⟨_, S, _, S1, S2, _, _, ⟨hS, hne, L, c, seen, rfl, h3, h4, h5, rfl, _⟩, _⟩ := H
  unfold mleft
  rw [h5, h3]
  simp only [leftOf, ments]
  rw [List.length_map, ← Array.length_toList, Array.toList_filter, List.filter_map, List.length_map]
  rfl
theorem ldel_lt {x : κ × ν} (hx : x ∈ rest) : (ldel rest x.1).length < rest.length := by
  unfold ldel
  rcases Nat.lt_or_ge (rest.filter fun y => decide (y.1 ≠ x.1)).length rest.length with h | h
  · exact h
  · have e := (List.filter_sublist (p := fun y : κ × ν => decide (y.1 ≠ x.1)) (l := rest)).eq_of_length_le h
    have h2 := List.filter_eq_self.1 e x hx
    simp at h2
end
section
variable {κ ν : Type} {ec : κ → Value} {ev : ν → Value} {w0 w : World} {F : Asn} {it g : Nat} {l rest : List (κ × ν)} {cur : Option (κ × ν)}
theorem Hp.mrKeys (H : Hp w0 w (star (mr ec ev it g l rest cur) F)) : (l.map (·.1)).Nodup ∧ (rest.map (·.1)).Nodup := by
  obtain ⟨_, S, _, S1, S2, _, _, ⟨hS, hne, L, c, seen, rfl, h3, h4, h5, rfl, hc⟩, _⟩ := H
  rw [List.map_map, List.map_map]
  exact ⟨h4.keys, h4.keys.sublist (List.Sublist.map _ List.filter_sublist)⟩
variable [DecidableEq κ]
theorem ldel_perm : ∀ {l : List (κ × ν)} {x : κ × ν}, (l.map (·.1)).Nodup → x ∈ l → l.Perm (x :: ldel l x.1)
  | y :: r, x, hn, hx => by
    simp only [List.map_cons, List.nodup_cons] at hn
    rcases List.mem_cons.1 hx with rfl | h
    · have : ldel (x :: r) x.1 = r := by
        unfold ldel
        rw [List.filter_cons]
        simp only [ne_eq, not_true_eq_false, decide_false, Bool.false_eq_true, if_false]
        refine List.filter_eq_self.2 fun z hz => ?_
        have : z.1 ≠ x.1 := fun e => hn.1 (e ▸ List.mem_map_of_mem hz)
        simpa using this
      rw [this]
    · have hne : y.1 ≠ x.1 := fun e => hn.1 (e ▸ List.mem_map_of_mem h)
      have : ldel (y :: r) x.1 = y :: ldel r x.1 := by
        unfold ldel
        rw [List.filter_cons]
        simp [hne]
      rw [this]
      exact ((ldel_perm hn.2 h).cons y).trans (List.Perm.swap _ _ _)
theorem llook_mem {l : List (κ × ν)} {k : κ} {v : ν} (h : llook l k = some v) : (k, v) ∈ l := by
  unfold llook at h
  obtain ⟨x, hx, rfl⟩ := Option.map_eq_some_iff.1 h
  have h1 := List.find?_some hx
  have h2 := List.mem_of_find?_eq_some hx
  simp at h1
  rw [← h1]
  exact h2
theorem llook_none {l : List (κ × ν)} {k : κ} (h : llook l k = none) : k ∉ l.map (·.1) := by
  unfold llook at h
  simp only [Option.map_eq_none_iff, List.find?_eq_none, decide_eq_true_eq] at h
  intro hk
  obtain ⟨x, hx, rfl⟩ := List.mem_map.1 hk
  exact h x hx rfl
end
namespace Asn
end Asn
end Go.Vc

namespace Go.Vc
open Go Go.Vc.Asn
section
variable {P : Program} {κ ν : Type} {ec : κ → Value} {ev : ν → Value} {w0 w : World} {A F : Asn} {g : Nat} {l : List (κ × ν)}
theorem Hp.mlen {t ty kt et : TypeId} (H : Hp w0 w (star (mp ec ev g l) F)) (ht : P.underlying t = some (.map kt et)) {K : Int → Prop} (hk : K (l.length : Int)) : MLen P t ty w (.map (some g)) K := by
  obtain ⟨L, q, rfl, h3, _⟩ := H.mheap
  refine ⟨(L.length : Int), ?_, by rw [List.length_map] at hk; exact hk⟩
  simp [Builtin.len_, run_underlying ht, MapKept.run_getObj_map h3, Result.andThen, goInt, ments]
theorem Hp.mclone {ρ : Go.Shelf.Ren} (L : Go.Proofs.SlLaysW.n5 P ρ) (H : Hp w0 w (star (mp ec ev g l) F)) :
    Calls P (ρ.f 5) #[.map (some g)] w (Rt fun v w' => ∃ g', v = .map (some g') ∧ Hp w0 w' (star (mp ec ev g' l) (star (mp ec ev g l) F))) := by
  obtain ⟨M, c, hl, hg, hI⟩ := H.mheap
  refine (Go.Proofs.AnyW.maps_Clone L g _ c w hg).mono ?_
  rintro _ _ ⟨rfl, rfl⟩
  have hw : w0.heap.size ≤ w.heap.size := H.fr.size
  refine ⟨w.heap.size, rfl, H.beside (w1 := w) ⟨alloc_fr w _, fun x => x = w.heap.size, fun x hx => by rw [hx]; exact Nat.le_refl _, fun x => Iff.rfl, M, c, hl, alloc_at w _, hI⟩⟩
end
end Go.Vc

namespace Go.Vc
open Go Go.Vc.Asn Go.Sort
def Gr (w w' : World) : Prop := ∃ (q : Nat) (os : Array Obj), w' = grow (w.drewN q) os
theorem Gr.refl (w : World) : Gr w w := ⟨0, #[], by simp; rfl⟩
theorem Gr.trans {a b c : World} (h : Gr a b) (k : Gr b c) : Gr a c := by
  obtain ⟨q, os, rfl⟩ := h
  obtain ⟨q', os', rfl⟩ := k
  refine ⟨q + q', os ++ os', ?_⟩
  unfold grow World.drewN
  simp [Nat.add_assoc, Array.append_assoc]
theorem Gr.alloc (w : World) (o : Obj) : Gr w (w.alloc o) := ⟨0, #[o], by rw [alloc_eq_grow]; rfl⟩
theorem Gr.fr {w w' : World} (h : Gr w w') : Fr [] w w' := by
  obtain ⟨q, os, rfl⟩ := h
  refine ⟨rfl, rfl, rfl, by simp [grow, World.drewN], fun k hk _ => ?_⟩
  simp only [grow, World.drewN, Array.getElem?_append]
  rw [if_pos hk]
theorem flat_get {α : Type} {enc : α → List Value} {k : Nat} (hk : ∀ x, (enc x).length = k) : ∀ (l : List α) (t : Nat), t < l.length * k → (l.flatMap enc)[t]? = (l[t / k]?).bind fun x => (enc x)[t % k]?
  | [], t, h => by simp at h
  | x :: r, t, h => by
    have hk0 : 0 < k := by rcases Nat.eq_zero_or_pos k with h0 | h0; · subst h0; simp at h
                           · exact h0
    rw [List.flatMap_cons]
    by_cases ht : t < k
    · rw [List.getElem?_append_left (by rw [hk]; exact ht), Nat.div_eq_of_lt ht, Nat.mod_eq_of_lt ht]
      simp
    · rw [List.getElem?_append_right (by rw [hk]; omega), hk, flat_get hk r (t - k) (by simp [Nat.add_mul] at h; omega)]
      have e1 : t / k = (t - k) / k + 1 := by rw [← Nat.add_div_right _ hk0]; congr 1; omega
      have e2 : t % k = (t - k) % k := by rw [Nat.mod_eq_sub_mod (by omega)]
      rw [e1, e2, List.getElem?_cons_succ]
theorem flat_len {α : Type} {enc : α → List Value} {k : Nat} (hk : ∀ x, (enc x).length = k) (l : List α) : (l.flatMap enc).length = l.length * k := by
  induction l with
  | nil => simp
  | cons x r ih => rw [List.flatMap_cons, List.length_append, ih, hk, List.length_cons, Nat.add_mul]; omega
theorem Cel.elem {α : Type} {enc : α → List Value} {k : Nat} {w : World} {s : Slc} {l : List α} (hk : ∀ x, (enc x).length = k) (h : Cel w s k (l.flatMap enc)) {i : Nat} {x : α} (hx : l[i]? = some x) (hk0 : 0 < k) : ∃ a, s.a = some a ∧ ∀ j v, (enc x)[j]? = some v → w.cell? ((a.add (i * k)).add j) = some v := by
  have hi := (List.getElem?_eq_some_iff.1 hx).1
  have hm : (i + 1) * k ≤ l.length * k := Nat.mul_le_mul_right _ hi
  rw [Nat.add_mul] at hm
  obtain ⟨a, ha, _⟩ := h.get (i := 0) (by rw [flat_len hk]; omega)
  refine ⟨a, ha, fun j v hv => ?_⟩
  have hj : j < k := by have := (List.getElem?_eq_some_iff.1 hv).1; rw [hk] at this; exact this
  have e1 : (i * k + j) / k = i := by rw [Nat.mul_comm, Nat.mul_add_div hk0, Nat.div_eq_of_lt hj]; rfl
  have e2 : (i * k + j) % k = j := by rw [Nat.mul_comm, Nat.mul_add_mod, Nat.mod_eq_of_lt hj]
  obtain ⟨q, hq, hc⟩ := h.at_ (i * k + j) v (by rw [flat_get hk _ _ (by omega), e1, e2, hx]; exact hv)
  rw [ha] at hq
  injection hq with hq
  rw [add_add, hq]
  exact hc
theorem Cel.flen {α : Type} {enc : α → List Value} {k : Nat} {w : World} {s : Slc} {l : List α} (hk : ∀ x, (enc x).length = k) (h : Cel w s k (l.flatMap enc)) (hk0 : 0 < k) : s.l = l.length := by
  have := h.len
  rw [flat_len hk] at this
  exact (Nat.eq_of_mul_eq_mul_right hk0 this).symm
section
variable {e size g n c : Nat} {w0 w : World} {A : Asn}
theorem Own.holds {F : Array Value} (h : Own e size w ⟨some (Vc.blk g), n, c⟩ F.toList) : Holds id w g 0 F := by
  intro j hj
  have hne : F.toList ≠ [] := by intro h0; simp at h0; subst h0; simp at hj
  obtain ⟨g', cur, h1, h2, h3, h4, h5, h6⟩ := h.some_ hne
  have hg : g = g' := by injection h1 with h1; injection h1
  subst hg
  have hc : cur[j]? = some F[j] := by
    have := congrArg (fun l => l[j]?) h6
    simp only [List.getElem?_take, Array.getElem?_toList] at this
    have hl : F.size = n * size := by simpa using h.1
    rw [if_pos (by show j < n * size; omega), Array.getElem?_eq_getElem hj] at this
    exact this
  refine ⟨?_, ?_⟩
  · rw [Nat.zero_add, h2.at_, hc, getElem!_pos F j hj]
    rfl
  · have := h2.frz (0 + j)
    rwa [blk_add] at this
theorem Hp.sorted {F F' : Array Value} (H : Hp w0 w (star (Asn.own e size ⟨some (Vc.blk g), n, c⟩ F.toList) A)) (hs : F'.size = F.size) (m : Nat) (os : Array Obj) : Hp w0 (grow (putRow id (Sort.ahead w m) g 0 F') os) (star (Asn.own e size ⟨some (Vc.blk g), n, c⟩ F'.toList) A) := by
  refine H.step fun S _ hp => ?_
  obtain ⟨h1, h2⟩ := hp
  have hlt : g < w.heap.size := h2.lt g (by simp [Slc.blks])
  have hb : (grow (putRow id (Sort.ahead w m) g 0 F') os).heap[g]? = (w.heap[g]?).map (onCells (putCells id 0 F')) := by
    simp only [grow, putRow, mapBlock, Sort.ahead]
    rw [Array.getElem?_append, if_pos (by simpa using hlt), Array.getElem?_modify, if_pos rfl]
  refine ⟨[g], S, fun k hk => (h1 k).2 (by simpa [Slc.blks] using hk), ⟨rfl, rfl, rfl, by simp [grow, putRow, mapBlock, Sort.ahead], fun k hk hn => ?_⟩, ⟨h1, ?_⟩, fun k hk => .inl hk⟩
  · simp only [List.mem_singleton] at hn
    simp only [grow, putRow, mapBlock, Sort.ahead]
    rw [Array.getElem?_append, if_pos (by simpa using hk), Array.getElem?_modify, if_neg (Ne.symm hn)]
  · rcases h2.2 with ⟨h3, _⟩ | ⟨g', cap, cur, h3, h4, h5, h6, h7, h8, h9⟩
    · simp at h3
    · have hg : g = g' := by simp only [Slc.v] at h3; injection h3 with h3 _ _; injection h3 with h3; injection h3
      have hcap : c = cap := by simp only [Slc.v] at h3; injection h3
      subst hg hcap
      have hl : F.size = n * size := by simpa using h2.1
      refine ⟨by simpa [hs] using hl, .inr ⟨g, c, putCells id 0 F' cur, rfl, h4, ?_, h6, h7, by simpa [putCells] using h8, ?_⟩⟩
      · rw [hb, h5]; rfl
      · apply List.ext_getElem?
        intro t
        rw [List.getElem?_take, Array.getElem?_toList, Array.getElem?_toList]
        simp only at hl h6
        have hle : n * size ≤ c * size := Nat.mul_le_mul_right _ h6
        by_cases ht : t < n * size
        · rw [if_pos ht]
          simp only [putCells, Array.getElem?_mapIdx]
          rw [Array.getElem?_eq_getElem (show t < cur.size by omega), Option.map_some, if_pos ⟨Nat.zero_le _, by omega⟩, Nat.sub_zero, getElem!_pos F' t (by omega), Array.getElem?_eq_getElem (show t < F'.size by omega)]
          rfl
        · rw [if_neg ht, Array.getElem?_eq_none (by omega)]
end
theorem putRow_enc {α : Type} [Inhabited α] (enc : α → Value) (w : World) (b off : Nat) (d : Array α) : putRow enc w b off d = putRow id w b off (d.map enc) := by
  unfold putRow
  refine mapBlock_congr _ _ _ _ fun cs _ _ _ => ?_
  unfold putCells
  apply Array.ext_getElem?
  intro k
  simp only [Array.getElem?_mapIdx, Array.size_map]
  congr 1
  funext x
  split
  · rename_i h
    have hk : k - off < d.size := by omega
    rw [getElem!_pos d _ hk, getElem!_pos _ _ (by simpa using hk), Array.getElem_map]
    rfl
  · rfl
theorem holds_enc {α : Type} [Inhabited α] (enc : α → Value) (w : World) (b off : Nat) (d : Array α) (h : Holds id w b off (d.map enc)) : Holds enc w b off d := by
  intro j hj
  have := h j (by simpa using hj)
  rw [getElem!_pos _ _ (by simpa using hj), Array.getElem_map] at this
  rw [getElem!_pos d j hj]
  exact this
end Go.Vc

namespace Go.Vc
open Go Go.Vc.Asn Go.Sort
def sortI (l : List Int) : List Int := l.mergeSort fun x y => decide (x ≤ y)
theorem Hp.sortI {P : Program} {ρ : Go.Shelf.Ren} {e : Nat} {w0 w : World} {F : Asn} {s : Slc} {l : List Int} (L : Go.Proofs.Lays.n189 P ρ) (hsz : l.length < 4611686018427387904) (H : Hp w0 w (star (Asn.own e 1 s (l.map (Value.int .i64))) F)) :
    Calls P (ρ.f 189) #[s.v] w (Rt fun v w' => v = .tuple #[] ∧ Hp w0 w' (star (Asn.own e 1 s ((sortI l).map (Value.int .i64))) F)) := by
  have hO0 := H.isOwn (s := s)
  have hlen : s.l = l.length := by
    have h := hO0.1
    simp at h
    omega
  by_cases h0 : l = []
  · subst h0
    obtain ⟨a, n, c⟩ := s
    simp only [List.length_nil] at hlen
    subst hlen
    refine (Go.Proofs.Any.slices_Sort_int_none L a c w).mono ?_
    rintro _ _ ⟨rfl, rfl⟩
    exact ⟨rfl, by simpa [Vc.sortI] using H⟩
  · obtain ⟨b, cur, ha, hB, h3, h4, h5, h6⟩ := hO0.some_ (by simpa using h0)
    obtain ⟨a, n, c⟩ := s
    simp only at ha hlen
    subst ha hlen
    have eF : ∀ d : List Int, d.map (Value.int .i64) = (d.toArray.map (Value.int .i64)).toList := fun d => by simp
    rw [eF] at H hO0
    have hH : Holds (Value.int .i64) w b 0 l.toArray := holds_enc (Value.int .i64) w b 0 l.toArray hO0.holds
    have hcon := Go.Proofs.Any.slices_Sort_int L b 0 c l w hH (hO0.lt b (by simp [Slc.blks])) hsz
    refine hcon.mono ?_
    rintro _ _ ⟨rfl, m, os, rfl⟩
    refine ⟨rfl, ?_⟩
    rw [eF, putRow_enc]
    exact H.sorted (by simp [List.length_mergeSort, Vc.sortI]) m os
end Go.Vc
