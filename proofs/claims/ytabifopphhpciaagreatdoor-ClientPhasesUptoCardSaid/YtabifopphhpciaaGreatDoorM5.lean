/-
  The conditions give the machine's calls; printed by vcgen.py.
-/
import Derived.Test.YtabifopphhpciaaGreatDoorRecVc
import Derived.Test.YtabifopphhpciaaGreatDoorRecSim0
import Derived.Test.YtabifopphhpciaaGreatDoorM3
import Derived.Test.YtabifopphhpciaaGreatDoorM4
namespace Go.Proofs.YtabifopphhpciaaGreatDoor
open Go Go.Vc
set_option maxRecDepth 100000
set_option maxHeartbeats 4000000
theorem sim_client_Client_enter (c1 : Option Addr) (s2 : Value) (C3 C4 : Int) (w : World) (Q : Ending → World → Prop) (h : vc_client_Client_enter c1 s2 C3 C4 w Q) : Calls PP F_client_Client_enter #[(.pointer c1), s2, (.agg #[(.i C3), (.i C4)])] w Q := by
 unfold vc_client_Client_enter at h
 have eP {L : List (Nat × Value)} (c : List PanicEntry) (w' : World) (a : Act) (h : Q (.panicked c) w') (H : Has 38 [] a L) : bodyPost PP Tryz.f78 Q (.panic c) a w' := e_panic H h
 refine enter (n := 38) Tryz.func78 rfl rfl (le_ rfl) fun a H => sr fun K5 hK5 => ww H <| bx h rfl rfl rfl rfl fun b6 w7 n8 h => fun a H => ?_
 obtain ⟨a10, h59, h⟩ := h
 refine ww H <| ag rfl rfl <| fun a H => nk hK5 <| sr fun K9 hK9 => ww H <| mv rfl rfl <| fun a H => ?_
 revert H
 revert h
 subst h59
 intro h H
 obtain ⟨l11, hc12, h⟩ := h
 refine ww H <| nl rfl rfl <| fd rfl fld_102_5 rfl <| ld rfl one_100 hc12 rfl <| ag rfl rfl <| fun a H => nk hK9 <| c_seq fun K13 hK13 => ?_
 replace H := H.weaken (L' := [(0, (.pointer (some a10))), (1, s2), (5, (.pointer (some (blk b6)))), (7, (.pointer l11))]) ⟨rfl, rfl, rfl, rfl, trivial⟩
 obtain ⟨C14, hc15, C16, hc17, a18, h19, h⟩ := h
 revert H
 revert h
 subst h19
 intro h H
 refine c_any (V := [(0, (.pointer (some a18))), (1, (.pointer (some a18))), (2, s2), (3, (.agg #[(.i C14), (.i C16)])), (4, (.pointer (some a18))), (5, (.pointer (some (a18.add 4))))]) (⟨[[], [], [], [], [0, 2], [0, 2, 4], [0, 2, 5], [0, 1, 2, 3, 4, 5, 6], [0, 1, 2, 3, 4, 5, 6, 7], [0, 1, 2, 3, 4, 5, 6, 8]], [some 12, some 13, some 14, some 15, some 16, some 17, none, some 18, some 19, none], [6, 9], [0, 0, 0, 0, 0, 0, 0, 1, 1, 1], [0, 1, 0, 1, 0, 0, 1, 1, 1, 2]⟩ : Rg) [(0, (.pointer (some a10))), (1, s2), (5, (.pointer (some (blk b6)))), (7, (.pointer (some a18)))] mixed (by kernel_rfl) H <| Stg.eff [0, 1, 2, 3, 4, 5] (by kernel_rfl) rfl (.cons ?_ (.cons ?_ (.cons ?_ (.cons ?_ (.cons ?_ (.cons ?_ .nil)))))) ?_
 ·exact Aw rfl rfl <| mv rfl rfl <| An rfl
 ·exact Aw rfl rfl <| mv rfl rfl <| An rfl
 ·exact Aw rfl rfl <| mv rfl rfl <| An rfl
 ·exact Aw rfl rfl <| lN (l := [(.i C14), (.i C16)]) rfl agg_27 rfl ⟨hc15, hc17, trivial⟩ rfl <| An rfl
 ·exact Aw rfl rfl <| nl rfl rfl <| An rfl
 ·exact Aw rfl rfl <| fd rfl fld_116_4 rfl <| An rfl
 ·intro a H
  replace H := H.weaken (L' := [(14, s2), (17, (.pointer (some (a18.add 4))))]) ⟨rfl, rfl, trivial⟩
  obtain ⟨h58, h⟩ := h
  refine ww H <| st h rfl rfl one_113 h58 fun w20 w20S h => fun a H => ?_
  obtain ⟨hc23, hc24, h⟩ := h
  refine c_nil <| effQ.go0 [(7, (.pointer (some a18))), (8, (.pointer (some (a18.add 5))))] H rfl rfl <| Stg.eff [1, 3, 7, 8] (by kernel_rfl) rfl (.cons ?_ (.cons ?_ (.cons ?_ (.cons ?_ .nil)))) ?_
  ·exact Aw rfl rfl <| mv rfl rfl <| An rfl
  ·exact Aw rfl rfl <| lN (l := [(.i C14), (.i C16)]) rfl agg_27 rfl ⟨hc23, hc24, trivial⟩ rfl <| An rfl
  ·exact Aw rfl rfl <| nl rfl rfl <| An rfl
  ·exact Aw rfl rfl <| fd rfl fld_116_5 rfl <| An rfl
  ·refine sN h rfl rfl agg_27 rfl rfl fun w25 h => fun a H => c_nil <| effQ.go0 [] H rfl rfl <| Stg.fin [] (by kernel_rfl) .nil ?_
   ·intro a H
    replace H := H.weaken (L' := [(0, (.pointer (some a10))), (7, (.pointer (some a18)))]) ⟨rfl, rfl, trivial⟩
    obtain ⟨N27, hc28, K29, hc30, D31, hc32, h⟩ := h
    refine hK13 _ _ <| sr fun K26 hK26 => ww H <| mv rfl rfl <| mv rfl rfl <| nl rfl rfl <| fd rfl fld_102_0 rfl <| lN (l := [(.i N27), (.i K29), (.i D31)]) rfl agg_35 rfl ⟨hc28, hc30, hc32, trivial⟩ rfl <| cl2 h body_64 rfl rfl eP fun N34 N35 w33 h => mv rfl rfl <| ex rfl rfl rfl <| ex rfl rfl rfl <| nl rfl rfl <| fd rfl fld_116_6 rfl <| st h rfl rfl one_114 rfl fun w36 w36S h => fun a H => ?_
    obtain ⟨l40, hc41, h⟩ := h
    exact nk hK26 <| sr fun K39 hK39 => ww H <| mv rfl rfl <| mv rfl rfl <| nl rfl rfl <| fd rfl fld_116_6 rfl <| ld rfl one_114 hc41 rfl <| cl1 h body_44 rfl rfl eP fun M43 w42 h => cl1 h body_48 rfl rfl eP fun r45 w44 h => ag rfl rfl <| fun a H => nk hK39 <| c_ret <| e_ret1 H rfl rfl h

theorem sim_code_Code_shaped (c1 : Option Addr) (d2 : Slc) (w : World) (Q : Ending → World → Prop) (h : vc_code_Code_shaped c1 d2 w Q) : Calls PP F_code_Code_shaped #[(.pointer c1), d2.v] w Q := by
 unfold vc_code_Code_shaped at h
 have eP {L : List (Nat × Value)} (c : List PanicEntry) (w' : World) (a : Act) (h : Q (.panicked c) w') (H : Has 18 [] a L) : bodyPost PP Tryz.f79 Q (.panic c) a w' := e_panic H h
 refine enter (n := 18) Tryz.func79 rfl rfl (le_ rfl) fun a H => sr fun K3 hK3 => ww H <| bx h rfl rfl rfl rfl fun b4 w5 n6 h => ag rfl rfl <| fun a H => nk hK3 <| c_seq fun K7 hK7 => ?_
 obtain ⟨R9, h, h27⟩ := h
 have h11 : ∀ (a : Act) (s8 : Bool) (w10 : World), R9 s8 w10 → Has 18 [] a [(4, (.bool s8))] → K7 a w10 := by
  clear h
  intro a s8 w10 h H
  replace h := h27 s8 w10 h
  exact hK7 _ _ <| c_ret <| e_ret1 H rfl rfl h
 clear h27
 replace H := H.weaken (L' := [(0, (.pointer c1)), (3, (.pointer (some (blk b4)))), (4, (.bool false))]) ⟨rfl, rfl, rfl, trivial⟩
 obtain ⟨l12, hc13, a14, h15, h⟩ := h
 revert H
 revert h
 subst h15
 intro h H
 obtain ⟨l16, hc17, h⟩ := h
 rcases Bool.eq_false_or_eq_true (decide ((l12.l : Int) = l16)) with h18 | h18
 ·replace h := h.1 h18
  obtain ⟨l19, hc20, h⟩ := h
  refine c_any (V := [(0, l12.v), (1, (.i (l12.l : Int))), (2, (.pointer (some a14))), (3, (.pointer (some a14))), (4, (.pointer (some (a14.add 2)))), (5, (.i l16)), (6, (.bool (decide ((l12.l : Int) = l16)))), (7, (.bool (decide ((l12.l : Int) = l16)))), (8, l19.v), (9, (.func (.func F_code_Code_shaped_c1) #[] #[(.pointer (some (blk b4)))]))]) (⟨[[], [0], [], [2], [3], [4], [1, 5], [6], [7], [7], [7, 8, 9], [7, 10], [7, 11], [0, 1, 2, 3, 4, 5, 6, 7, 8, 9, 10, 11, 12]], [some 5, some 6, some 7, some 8, some 9, some 10, some 11, some 12, some 13, some 14, some 15, some 16, some 17, some 4], [10], [0, 0, 0, 0, 0, 0, 0, 0, 0, 0, 0, 1, 1, 1], [0, 0, 0, 0, 0, 0, 0, 0, 0, 0, 1, 1, 1, 1]⟩ : Rg) [(0, (.pointer (some a14))), (3, (.pointer (some (blk b4)))), (4, (.bool false))] mixed (by kernel_rfl) H <| Stg.eff [0, 1, 2, 3, 4, 5, 6, 7, 8, 9] (by kernel_rfl) rfl (.cons ?_ (.cons ?_ (.cons ?_ (.cons ?_ (.cons ?_ (.cons ?_ (.cons ?_ (.cons ?_ (.cons ?_ (.cons ?_ .nil)))))))))) ?_
  ·exact Aw rfl rfl <| ld rfl one_22 hc13 rfl <| An rfl
  ·exact Aw rfl rfl <| bl (vs := [l12.v]) rfl rfl (fun cs => b_lenS (z := l12) sl_22) <| An rfl
  ·exact Aw rfl rfl <| mv rfl rfl <| An rfl
  ·exact Aw rfl rfl <| nl rfl rfl <| An rfl
  ·exact Aw rfl rfl <| fd rfl fld_107_2 rfl <| An rfl
  ·exact Aw rfl rfl <| ld rfl one_3 hc17 rfl <| An rfl
  ·exact Aw rfl rfl <| bn rfl rfl r_eql rfl <| An rfl
  ·exact Aw rfl rfl <| mv rfl rfl <| An rfl
  ·refine Ans.mk rfl rfl fun a H => ?_
   replace H := H.ch (t := 12) (b := true) rfl h18
   exact ww H <| gld rfl rfl rfl one_22 hc20 rfl <| fun a H => Ans.fin H rfl
  ·refine Ans.mk rfl rfl fun a H => ?_
   replace H := H.ch (t := 12) (b := true) rfl h18
   exact s_mkf H (wantG H rfl rfl) (H.args (vs := [(.pointer (some (blk b4)))]) rfl) (lt_ rfl) fun a H => Ans.fin H rfl
  ·intro a H
   replace H := H.weaken (L' := [(12, (.bool (decide ((l12.l : Int) = l16)))), (13, l19.v), (14, (.func (.func F_code_Code_shaped_c1) #[] #[(.pointer (some (blk b4)))]))]) ⟨rfl, rfl, rfl, trivial⟩
   replace H := H.ch (t := 12) (b := true) rfl h18
   refine s_call H (wantG H rfl rfl) body_111 (H.args (vs := [l19.v, (.func (.func F_code_Code_shaped_c1) #[] #[(.pointer (some (blk b4)))])]) rfl) (lt_ rfl) h ?_ (fun c w' => eP c w' _)
   clear H h a
   rintro _ w21 a ⟨r22, rfl, h⟩ H
   refine c_nil <| effQ.go [(11, (.bool (!r22))), (12, (.bool (!r22))), (13, (.bool (!r22)))] H rfl rfl <| Stg.fin [11, 12, 13] (by kernel_rfl) (.cons ?_ (.cons ?_ (.cons ?_ .nil))) ?_
   ·refine Ans.mk rfl rfl fun a H => ?_
    replace H := H.ch (t := 12) (b := true) rfl h18
    exact s_un H (wantG H rfl rfl) rfl r_not (lt_ rfl) fun a H => Ans.fin H rfl
   ·refine Ans.mk rfl rfl fun a H => ?_
    replace H := H.ch (t := 12) (b := true) rfl h18
    exact ww H <| pT rfl rfl rfl <| fun a H => Ans.fin H rfl
   ·exact Aw rfl rfl <| ag rfl rfl <| An rfl
   ·intro a H
    replace H := H.weaken (L' := [(4, (.bool (!r22)))]) ⟨rfl, trivial⟩
    exact h11 _ _ _ h (H.weaken ⟨rfl, trivial⟩)
 ·replace h := h.2 h18
  refine c_any (V := [(0, l12.v), (1, (.i (l12.l : Int))), (2, (.pointer (some a14))), (3, (.pointer (some a14))), (4, (.pointer (some (a14.add 2)))), (5, (.i l16)), (6, (.bool (decide ((l12.l : Int) = l16)))), (7, (.bool (decide ((l12.l : Int) = l16)))), (8, undef), (9, undef)]) (⟨[[], [0], [], [2], [3], [4], [1, 5], [6], [7], [7], [7, 8, 9], [7, 10], [7, 11], [0, 1, 2, 3, 4, 5, 6, 7, 8, 9, 10, 11, 12]], [some 5, some 6, some 7, some 8, some 9, some 10, some 11, some 12, some 13, some 14, some 15, some 16, some 17, some 4], [10], [0, 0, 0, 0, 0, 0, 0, 0, 0, 0, 0, 1, 1, 1], [0, 0, 0, 0, 0, 0, 0, 0, 0, 0, 1, 1, 1, 1]⟩ : Rg) [(0, (.pointer (some a14))), (3, (.pointer (some (blk b4)))), (4, (.bool false))] mixed (by kernel_rfl) H <| Stg.eff [0, 1, 2, 3, 4, 5, 6, 7, 8, 9] (by kernel_rfl) rfl (.cons ?_ (.cons ?_ (.cons ?_ (.cons ?_ (.cons ?_ (.cons ?_ (.cons ?_ (.cons ?_ (.cons ?_ (.cons ?_ .nil)))))))))) ?_
  ·exact Aw rfl rfl <| ld rfl one_22 hc13 rfl <| An rfl
  ·exact Aw rfl rfl <| bl (vs := [l12.v]) rfl rfl (fun cs => b_lenS (z := l12) sl_22) <| An rfl
  ·exact Aw rfl rfl <| mv rfl rfl <| An rfl
  ·exact Aw rfl rfl <| nl rfl rfl <| An rfl
  ·exact Aw rfl rfl <| fd rfl fld_107_2 rfl <| An rfl
  ·exact Aw rfl rfl <| ld rfl one_3 hc17 rfl <| An rfl
  ·exact Aw rfl rfl <| bn rfl rfl r_eql rfl <| An rfl
  ·exact Aw rfl rfl <| mv rfl rfl <| An rfl
  ·exact .skip rfl rfl rfl rfl rfl rfl h18 rfl
  ·exact .skip rfl rfl rfl rfl rfl rfl h18 rfl
  ·intro a H
   replace H := H.weaken (L' := [(12, (.bool (decide ((l12.l : Int) = l16)))), (13, undef), (14, undef)]) ⟨rfl, rfl, rfl, trivial⟩
   replace H := H.ch (t := 12) (b := false) rfl h18
   refine ww H <| sk rfl rfl rfl rfl <| fun a H => c_nil <| effQ.go [(11, undef), (12, (.bool false)), (13, (.bool false))] H rfl rfl <| Stg.fin [11, 12, 13] (by kernel_rfl) (.cons ?_ (.cons ?_ (.cons ?_ .nil))) ?_
   ·exact .skip rfl rfl rfl rfl rfl rfl h18 rfl
   ·refine Ans.mk rfl rfl fun a H => ?_
    replace H := H.ch (t := 12) (b := false) rfl h18
    exact ww H <| pF rfl rfl rfl <| fun a H => Ans.fin H rfl
   ·exact Aw rfl rfl <| ag rfl rfl <| An rfl
   ·intro a H
    replace H := H.weaken (L' := [(4, (.bool false))]) ⟨rfl, trivial⟩
    exact h11 _ _ _ h (H.weaken ⟨rfl, trivial⟩)

theorem sim_code_Code_sum (c1 : Option Addr) (f2 r3 : Slc) (w : World) (Q : Ending → World → Prop) (h : vc_code_Code_sum c1 f2 r3 w Q) : Calls PP F_code_Code_sum #[(.pointer c1), f2.v, r3.v] w Q := by
 unfold vc_code_Code_sum at h
 have eP {L : List (Nat × Value)} (c : List PanicEntry) (w' : World) (a : Act) (h : Q (.panicked c) w') (H : Has 35 [] a L) : bodyPost PP Tryz.f80 Q (.panic c) a w' := e_panic H h
 refine enter (n := 35) Tryz.func80 rfl rfl (le_ rfl) fun a H => ?_
 obtain ⟨a6, h7, h8, h9, h⟩ := h
 refine sr fun K4 hK4 => ww H <| ag rfl rfl <| fun a H => nk hK4 <| sr fun K5 hK5 => ww H <| mv rfl rfl <| fun a H => s_idxS (s := r3) H rfl rfl rfl slc_22 h7 h8 h9 (lt_ rfl) fun a H => ?_
 obtain ⟨l10, hc11, s12, w13, h14, h⟩ := h
 refine ww H <| ld rfl one_49 hc11 rfl <| bl (vs := [l10.v]) rfl rfl (fun cs => b_lenS (z := l10) sl_49) <| fun a H => s_mk H rfl rfl rfl h14 (lt_ rfl) ?_
 clear H a h14
 intro a H
 refine ww H <| ag rfl rfl <| fun a H => nk hK5 <| c_seq fun K15 hK15 => sr fun K16 hK16 => ww H <| mv rfl rfl <| bl (vs := [r3.v]) rfl rfl (fun cs => b_lenS (z := r3) sl_22) <| mv rfl rfl <| fun a H => nk hK16 <| c_block ?_
 obtain ⟨I19, m20, h49, h50⟩ := h
 refine c_loop (σ := Int) (fun z w => I19 z w) (fun z w => m20 z w) (fun z => [(0, (.pointer c1)), (1, f2.v), (7, s12.v), (15, r3.v), (16, (.i (r3.l : Int))), (17, (.i z))]) 0 h49 (H.weaken ⟨rfl, rfl, rfl, rfl, rfl, rfl, trivial⟩) ?_
 clear H h49
 rintro s17 a w18 h H
 replace h := h50 s17 w18 h
 clear h50
 replace H : Has 35 [] a [(0, (.pointer c1)), (1, f2.v), (7, s12.v), (15, r3.v), (16, (.i (r3.l : Int))), (17, (.i s17))] := H
 refine sr fun K21 hK21 => ww H <| bn rfl rfl r_lss rfl <| fun a H => nk hK21 <| c_seq fun K22 hK22 => cd H rfl h (fun h23 h => ?_) (fun h23 h => ?_)
 ·obtain ⟨a26, h27, h28, h29, h⟩ := h
  refine c_skip <| hK22 _ _ <| c_seq fun K24 hK24 => c_block <| sr fun K25 hK25 => ww H <| mv rfl rfl <| fun a H => s_idxS (s := r3) H rfl rfl rfl slc_22 h27 h28 h29 (lt_ rfl) fun a H => ?_
  obtain ⟨l30, hc31, h⟩ := h
  refine ww H <| ld rfl one_49 hc31 rfl <| ag rfl rfl <| ag rfl rfl <| fun a H => nk hK25 <| ?_
  replace H := H.weaken (L' := [(0, (.pointer c1)), (1, f2.v), (7, s12.v), (8, (.i s17)), (9, l30.v), (15, r3.v), (16, (.i (r3.l : Int))), (17, (.i s17))]) ⟨rfl, rfl, rfl, rfl, rfl, rfl, rfl, rfl, trivial⟩
  obtain ⟨a32, h33, h⟩ := h
  revert H
  revert h
  subst h33
  intro h H
  obtain ⟨l34, hc35, a36, h37, h38, h39, l40, hc41, h⟩ := h
  refine c_any (V := [(0, (.pointer (some a32))), (1, (.pointer (some a32))), (2, (.pointer (some (a32.add 0)))), (3, (.pointer l34)), (4, s12.v), (5, f2.v), (6, (.i s17)), (7, (.pointer (some (a36.add (Int.toNat (s17) * 1))))), (8, (.int .u8 l40)), (9, l30.v)]) (⟨[[], [0], [1], [2], [], [], [], [5, 6], [7], [], [3, 4, 8, 9]], [some 22, some 23, some 24, some 25, some 26, some 27, some 28, some 29, some 30, some 31, some 32], [10], [0, 0, 0, 0, 0, 0, 0, 0, 0, 0, 0], [0, 0, 0, 0, 0, 0, 0, 0, 0, 0, 1]⟩ : Rg) [(0, (.pointer (some a32))), (1, f2.v), (7, s12.v), (8, (.i s17)), (9, l30.v), (15, r3.v), (16, (.i (r3.l : Int))), (17, (.i s17))] mixed (by kernel_rfl) H <| Stg.eff [0, 1, 2, 3, 4, 5, 6, 7, 8, 9] (by kernel_rfl) rfl (.cons ?_ (.cons ?_ (.cons ?_ (.cons ?_ (.cons ?_ (.cons ?_ (.cons ?_ (.cons ?_ (.cons ?_ (.cons ?_ .nil)))))))))) ?_
  ·exact Aw rfl rfl <| mv rfl rfl <| An rfl
  ·exact Aw rfl rfl <| nl rfl rfl <| An rfl
  ·exact Aw rfl rfl <| fd rfl fld_107_0 rfl <| An rfl
  ·exact Aw rfl rfl <| ld rfl one_103 hc35 rfl <| An rfl
  ·exact Aw rfl rfl <| mv rfl rfl <| An rfl
  ·exact Aw rfl rfl <| mv rfl rfl <| An rfl
  ·exact Aw rfl rfl <| mv rfl rfl <| An rfl
  ·exact Ans.mk rfl rfl fun a H => s_idxS (s := f2) H rfl rfl rfl slc_49 h37 h38 h39 (lt_ rfl) fun a H => Ans.fin H rfl
  ·exact Aw rfl rfl <| ld rfl one_5 hc41 rfl <| An rfl
  ·exact Aw rfl rfl <| mv rfl rfl <| An rfl
  ·refine cl1 h body_110 rfl rfl eP fun A43 w42 h => fun a H => c_nil <| effQ.go [] H rfl rfl <| Stg.fin [] (by kernel_rfl) .nil ?_
   ·intro a H
    replace H := H.weaken (L' := [(0, (.pointer (some a32))), (1, f2.v), (7, s12.v), (15, r3.v), (16, (.i (r3.l : Int))), (17, (.i s17))]) ⟨rfl, rfl, rfl, rfl, rfl, rfl, trivial⟩
    refine hK24 _ _ <| c_reg <| ww H <| bn rfl rfl r_add rfl <| mv rfl rfl <| fun a H => c_nil <| Exists.intro (wr .i64 (s17 + 1)) ⟨h.1, h.2, H.weaken ⟨rfl, rfl, rfl, rfl, rfl, rfl, trivial⟩⟩
 ·refine c_exit ?_
  first | (simp only [Exit.then, Exit.inBlock, ↓reduceIte]; fail_if_success simp only [Nat.reduceEqDiff]) | simp only [Exit.then, Exit.inBlock, ↓reduceIte, Nat.reduceEqDiff]
  exact hK15 _ _ <| sr fun K48 hK48 => ww H <| mv rfl rfl <| ag rfl rfl <| fun a H => nk hK48 <| c_ret <| e_ret1 H rfl rfl h

theorem sim_stripe_size (l1 k2 : Int) (w : World) (Q : Ending → World → Prop) (h : vc_stripe_size l1 k2 w Q) : Calls PP F_stripe_size #[(.i l1), (.i k2)] w Q := by
 unfold vc_stripe_size at h
 refine enter (n := 12) Tryz.func81 rfl rfl (le_ rfl) fun a H => ?_
 obtain ⟨h5, h⟩ := h
 exact sr fun K3 hK3 => ww H <| ag rfl rfl <| fun a H => nk hK3 <| sr fun K4 hK4 => ww H <| mv rfl rfl <| bn rfl rfl r_add rfl <| mv rfl rfl <| bn rfl rfl r_add rfl <| bn rfl rfl r_sub rfl <| mv rfl rfl <| bn rfl rfl (r_quo h5) rfl <| ag rfl rfl <| fun a H => nk hK4 <| c_ret <| e_ret1 H rfl rfl h

theorem sim_stripe_Cut (c1 : Option Addr) (v2 : Slc) (i3 : Int) (w : World) (Q : Ending → World → Prop) (h : vc_stripe_Cut c1 v2 i3 w Q) : Calls PP F_stripe_Cut #[(.pointer c1), v2.v, (.i i3)] w Q := by
 unfold vc_stripe_Cut at h
 have eP {L : List (Nat × Value)} (c : List PanicEntry) (w' : World) (a : Act) (h : Q (.panicked c) w') (H : Has 22 [] a L) : bodyPost PP Tryz.f85 Q (.panic c) a w' := e_panic H h
 refine enter (n := 22) Tryz.func85 rfl rfl (le_ rfl) fun a H => sr fun K4 hK4 => ww H <| ag rfl rfl <| ag rfl rfl <| fun a H => nk hK4 <| c_seq fun K5 hK5 => sr fun K6 hK6 => ww H <| mv rfl rfl <| bn rfl rfl (r_eqP0 ptr_42) rfl <| fun a H => nk hK6 <| cd H rfl h (fun h7 h => ?_) (fun h7 h => ?_)
 ·exact sr fun K8 hK8 => ww H <| ag rfl rfl <| ag rfl rfl <| fun a H => nk hK8 <| c_ret <| e_ret2 H rfl rfl rfl h
 ·refine c_skip <| hK5 _ _ <| c_seq fun K9 hK9 => sr fun K10 hK10 => ww H <| mv rfl rfl <| bl (vs := [v2.v]) rfl rfl (fun cs => b_lenS (z := v2) sl_49) <| bn rfl rfl r_gtr rfl <| fun a H => nk hK10 <| cd H rfl h (fun h11 h => ?_) (fun h11 h => ?_)
  ·exact sr fun K12 hK12 => ww H <| ag rfl rfl <| ag rfl rfl <| fun a H => nk hK12 <| c_ret <| e_ret2 H rfl rfl rfl h
  ·exact c_skip <| hK9 _ _ <| sr fun K13 hK13 => ww H <| mv rfl rfl <| mv rfl rfl <| mv rfl rfl <| cl1 h body_43 rfl rfl eP fun K15 w14 h => cl1 h body_42 rfl rfl eP fun c17 w16 h => mv rfl rfl <| cl2 h body_124 rfl rfl eP fun R19 R20 w18 h => ex rfl rfl rfl <| ex rfl rfl rfl <| ag rfl rfl <| ag rfl rfl <| fun a H => nk hK13 <| c_ret <| e_ret2 H rfl rfl rfl h

theorem sim_slices_MaxFunc (x1 : Slc) (c2 : Value) (w : World) (Q : Ending → World → Prop) (h : vc_slices_MaxFunc x1 c2 w Q) : Calls PP F_slices_MaxFunc #[x1.v, c2] w Q := by
 unfold vc_slices_MaxFunc at h
 have eP {L : List (Nat × Value)} (c : List PanicEntry) (w' : World) (a : Act) (h : Q (.panicked c) w') (H : Has 33 [] a L) : bodyPost PP Tryz.f86 Q (.panic c) a w' := e_panic H h
 refine enter (n := 33) Tryz.func86 rfl rfl (le_ rfl) fun a H => sr fun K3 hK3 => ww H <| al h zero_27 rfl rfl rfl fun b4 w5 n6 h => fun a H => nk hK3 <| c_seq fun K7 hK7 => ?_
 obtain ⟨R8, h, h80⟩ := h
 have h77 : ∀ (a : Act) (w9 : World), R8 w9 → Has 33 [] a [(0, x1.v), (1, c2), (4, (.pointer (some (blk b4))))] → K7 a w9 := by
  clear h
  intro a w9 h H
  replace h := h80 w9 h
  obtain ⟨a11, h12, h13, h14, h⟩ := h
  refine hK7 _ _ <| sr fun K10 hK10 => ww H <| mv rfl rfl <| fun a H => s_idxS (s := x1) H rfl rfl rfl slc_174 h12 h13 h14 (lt_ rfl) fun a H => ?_
  obtain ⟨C15, hc16, C17, hc18, h⟩ := h
  refine ww H <| lN (l := [(.i C15), (.i C17)]) rfl agg_27 rfl ⟨hc16, hc18, trivial⟩ rfl <| al h zero_27 rfl rfl rfl fun b19 w20 n21 h => sN h rfl rfl agg_27 rfl rfl fun w22 h => fun a H => nk hK10 <| c_seq fun K23 hK23 => sr fun K24 hK24 => ww H <| ag rfl rfl <| fun a H => nk hK24 <| c_block ?_
  obtain ⟨I27, m28, h75, h76⟩ := h
  refine c_loop (σ := Int) (fun z w => I27 z w) (fun z w => m28 z w) (fun z => [(0, x1.v), (1, c2), (4, (.pointer (some (blk b4)))), (5, (.pointer (some (blk b19)))), (6, (.i z))]) 1 h75 (H.weaken ⟨rfl, rfl, rfl, rfl, rfl, trivial⟩) ?_
  clear H h75
  rintro i25 a w26 h H
  replace h := h76 i25 w26 h
  clear h76
  replace H : Has 33 [] a [(0, x1.v), (1, c2), (4, (.pointer (some (blk b4)))), (5, (.pointer (some (blk b19)))), (6, (.i i25))] := H
  refine c_seq fun K29 hK29 => sr fun K30 hK30 => ww H <| mv rfl rfl <| mv rfl rfl <| bl (vs := [x1.v]) rfl rfl (fun cs => b_lenS (z := x1) sl_174) <| bn rfl rfl r_lss rfl <| fun a H => nk hK30 <| cd H rfl h (fun h31 h => ?_) (fun h31 h => ?_)
  ·refine c_skip <| hK29 _ _ <| c_seq fun K32 hK32 => ?_
   obtain ⟨R33, h, h64⟩ := h
   have h35 : ∀ (a : Act) (w34 : World), R33 w34 → Has 33 [] a [(0, x1.v), (1, c2), (4, (.pointer (some (blk b4)))), (5, (.pointer (some (blk b19)))), (6, (.i i25))] → K32 a w34 := by
    clear h
    intro a w34 h H
    replace h := h64 w34 h
    refine hK32 _ _ <| c_reg <| ww H <| mv rfl rfl <| bn rfl rfl r_add rfl <| ag rfl rfl <| fun a H => c_nil <| Exists.intro (wr .i64 (i25 + 1)) ⟨h.1, h.2, H.weaken ⟨rfl, rfl, rfl, rfl, rfl, trivial⟩⟩
   clear h64
   refine c_block <| c_seq fun K36 hK36 => ?_
   replace H := H.weaken (L' := [(0, x1.v), (1, c2), (4, (.pointer (some (blk b4)))), (5, (.pointer (some (blk b19)))), (6, (.i i25))]) ⟨rfl, rfl, rfl, rfl, rfl, trivial⟩
   obtain ⟨a37, h38, h39, h40, C41, hc42, C43, hc44, C45, hc46, C47, hc48, h⟩ := h
   refine c_any (V := [(0, c2), (1, x1.v), (2, (.i i25)), (3, (.pointer (some (a37.add (Int.toNat (i25) * 2))))), (4, (.agg #[(.i C41), (.i C43)])), (5, (.agg #[(.i C45), (.i C47)]))]) (⟨[[], [], [], [1, 2], [3], [], [0, 4, 5], [6]], [some 20, some 21, some 22, some 23, some 24, some 25, some 26, some 27], [6], [0, 0, 0, 0, 0, 0, 0, 1], [0, 0, 0, 0, 0, 0, 1, 1]⟩ : Rg) [(0, x1.v), (1, c2), (4, (.pointer (some (blk b4)))), (5, (.pointer (some (blk b19)))), (6, (.i i25))] mixed (by kernel_rfl) H <| Stg.eff [0, 1, 2, 3, 4, 5] (by kernel_rfl) rfl (.cons ?_ (.cons ?_ (.cons ?_ (.cons ?_ (.cons ?_ (.cons ?_ .nil)))))) ?_
   ·exact Aw rfl rfl <| mv rfl rfl <| An rfl
   ·exact Aw rfl rfl <| mv rfl rfl <| An rfl
   ·exact Aw rfl rfl <| mv rfl rfl <| An rfl
   ·exact Ans.mk rfl rfl fun a H => s_idxS (s := x1) H rfl rfl rfl slc_174 h38 h39 h40 (lt_ rfl) fun a H => Ans.fin H rfl
   ·exact Aw rfl rfl <| lN (l := [(.i C41), (.i C43)]) rfl agg_27 rfl ⟨hc42, hc44, trivial⟩ rfl <| An rfl
   ·exact Aw rfl rfl <| lN (l := [(.i C45), (.i C47)]) rfl agg_27 rfl ⟨hc46, hc48, trivial⟩ rfl <| An rfl
   ·intro a H
    replace H := H.weaken (L' := [(20, c2), (24, (.agg #[(.i C41), (.i C43)])), (25, (.agg #[(.i C45), (.i C47)]))]) ⟨rfl, rfl, rfl, trivial⟩
    refine s_callV H rfl rfl (H.args (vs := [(.agg #[(.i C41), (.i C43)]), (.agg #[(.i C45), (.i C47)])]) rfl) (lt_ rfl) h ?_ (fun c w' => eP c w' _)
    clear H h a
    rintro _ w49 a ⟨r50, rfl, h⟩ H
    refine c_nil <| effQ.go [(7, (.bool (decide (0 < r50))))] H rfl rfl <| Stg.fin [7] (by kernel_rfl) (.cons ?_ .nil) ?_
    ·exact Aw rfl rfl <| bn rfl rfl r_gtr rfl <| An rfl
    ·intro a H
     replace H := H.weaken (L' := [(0, x1.v), (1, c2), (4, (.pointer (some (blk b4)))), (5, (.pointer (some (blk b19)))), (6, (.i i25)), (27, (.bool (decide (0 < r50))))]) ⟨rfl, rfl, rfl, rfl, rfl, rfl, trivial⟩
     refine hK36 _ _ <| cd H rfl h (fun h51 h => ?_) (fun h51 h => ?_)
     ·obtain ⟨a52, h53, h54, h55, h⟩ := h
      refine c_reg <| ww H <| mv rfl rfl <| mv rfl rfl <| fun a H => s_idxS (s := x1) H rfl rfl rfl slc_174 h53 h54 h55 (lt_ rfl) fun a H => ?_
      obtain ⟨C56, hc57, C58, hc59, h⟩ := h
      exact ww H <| lN (l := [(.i C56), (.i C58)]) rfl agg_27 rfl ⟨hc57, hc59, trivial⟩ rfl <| sN h rfl rfl agg_27 rfl rfl fun w60 h => fun a H => c_nil <| h35 _ _ h (H.weaken ⟨rfl, rfl, rfl, rfl, rfl, trivial⟩)
     ·exact c_skip <| h35 _ _ h (H.weaken ⟨rfl, rfl, rfl, rfl, rfl, trivial⟩)
  ·refine c_exit ?_
   first | (simp only [Exit.then, Exit.inBlock, ↓reduceIte]; fail_if_success simp only [Nat.reduceEqDiff]) | simp only [Exit.then, Exit.inBlock, ↓reduceIte, Nat.reduceEqDiff]
   obtain ⟨C66, hc67, C68, hc69, h⟩ := h
   refine hK23 _ _ <| sr fun K65 hK65 => ww H <| lN (l := [(.i C66), (.i C68)]) rfl agg_27 rfl ⟨hc67, hc69, trivial⟩ rfl <| sN h rfl rfl agg_27 rfl rfl fun w70 h => fun a H => nk hK65 <| c_ret ?_
   obtain ⟨C71, hc72, C73, hc74, h⟩ := h
   exact e_ret1 H rfl ⟨_, rfl, run_loadN (l := [(.i C71), (.i C73)]) agg_27 rfl ⟨hc72, hc74, trivial⟩⟩ h
 clear h80
 refine sr fun K78 hK78 => ww H <| mv rfl rfl <| bl (vs := [x1.v]) rfl rfl (fun cs => b_lenS (z := x1) sl_174) <| bn rfl rfl r_lss rfl <| fun a H => nk hK78 <| cd H rfl h (fun h79 h => ?_) (fun h79 h => ?_)
 ·exact c_reg <| s_iface H rfl rfl ni_9 (lt_ rfl) fun a H => s_panic H rfl rfl (fun H => e_panic (P := PP) (fn := Tryz.f86) H h)
 ·exact c_skip <| h77 _ _ h (H.weaken ⟨rfl, rfl, rfl, trivial⟩)

theorem sim_client_Client_chosen (c1 : Option Addr) (C2 C3 : Int) (w : World) (Q : Ending → World → Prop) (h : vc_client_Client_chosen c1 C2 C3 w Q) : Calls PP F_client_Client_chosen #[(.pointer c1), (.agg #[(.i C2), (.i C3)])] w Q := by
 unfold vc_client_Client_chosen at h
 have eP {L : List (Nat × Value)} (c : List PanicEntry) (w' : World) (a : Act) (h : Q (.panicked c) w') (H : Has 83 [] a L) : bodyPost PP Tryz.f87 Q (.panic c) a w' := e_panic H h
 refine enter (n := 83) Tryz.func87 rfl rfl (le_ rfl) fun a H => sr fun K4 hK4 => ww H <| bx h rfl rfl rfl rfl fun b5 w6 n7 h => ag rfl rfl <| al h zero_60 rfl rfl rfl fun b8 w9 n10 h => fun a H => ?_
 obtain ⟨a12, h221, h⟩ := h
 refine ww H <| ag rfl rfl <| fun a H => nk hK4 <| sr fun K11 hK11 => ww H <| mv rfl rfl <| fun a H => ?_
 revert H
 revert h
 subst h221
 intro h H
 obtain ⟨l13, hc14, a17, h220, h⟩ := h
 refine ww H <| nl rfl rfl <| fd rfl fld_102_5 rfl <| ld rfl one_100 hc14 rfl <| ag rfl rfl <| fun a H => nk hK11 <| c_seq fun K15 hK15 => sr fun K16 hK16 => ww H <| mv rfl rfl <| fun a H => ?_
 revert H
 revert h
 subst h220
 intro h H
 obtain ⟨l18, hc19, h⟩ := h
 refine ww H <| nl rfl rfl <| fd rfl fld_116_1 rfl <| ld rfl one_4 hc19 rfl <| fun a H => s_un H rfl rfl r_not (lt_ rfl) fun a H => nk hK16 <| cd H rfl h (fun h20 h => ?_) (fun h20 h => ?_)
 ·refine c_seq fun K21 hK21 => sr fun K22 hK22 => ww H <| lN (l := [(.i C2), (.i C3)]) rfl agg_27 rfl ⟨(n10.old (n7.cell (i := 0) rfl)), (n10.old (n7.cell (i := 1) rfl)), trivial⟩ rfl <| cl1 h body_39 rfl rfl eP fun Z24 w23 h => fun a H => nk hK22 <| cd H rfl h (fun h25 h => ?_) (fun h25 h => ?_)
  ·refine sr fun K26 hK26 => ww H <| mv rfl rfl <| fun a H => s_build H rfl (by rw [H.parts (vs := []) rfl]; exact bd_27 _) (lt_ rfl) fun a H => s_call H rfl body_89 (H.args (vs := [(.pointer (some a12)), (.i 76), (.agg #[(.i 0), (.i 0)]), Slc.nil.v]) rfl) (lt_ rfl) h ?_ (fun c w' => eP c w' _)
   clear H h a
   rintro _ w27 a ⟨O28, P29, S30, C31, C32, V33, e34, rfl, h⟩ H
   refine ww H <| mv rfl rfl <| ex rfl rfl rfl <| ex rfl rfl rfl <| al h zero_60 rfl rfl rfl fun b35 w36 n37 h => sN h rfl rfl agg_60 rfl rfl fun w38 h => ag rfl rfl <| fun a H => nk hK26 <| c_seq fun K39 hK39 => ?_
   replace H := H.weaken (L' := [(4, Slc.nil.v), (5, (.pointer (some (blk b8)))), (6, (.bool false)), (8, (.pointer (some (blk b35)))), (9, (.bool e34))]) ⟨rfl, rfl, rfl, rfl, rfl, trivial⟩
   obtain ⟨O40, hc41, P42, hc43, S44, hc45, C46, hc47, C48, hc49, V50, hc51, h⟩ := h
   refine c_any (V := [(0, (.agg #[(.i O40), (.bool P42), (.i S44), (.i C46), (.i C48), V50.v])), (1, (.bool e34)), (2, Slc.nil.v)]) (⟨[[], [], [], [0, 2], [0, 1, 2, 3]], [some 31, some 32, some 4, none, some 6], [3], [0, 0, 0, 0, 1], [0, 1, 0, 1, 1]⟩ : Rg) [(4, Slc.nil.v), (5, (.pointer (some (blk b8)))), (6, (.bool false)), (8, (.pointer (some (blk b35)))), (9, (.bool e34))] mixed (by kernel_rfl) H <| Stg.eff [0, 1, 2] (by kernel_rfl) rfl (.cons ?_ (.cons ?_ (.cons ?_ .nil))) ?_
   ·exact Aw rfl rfl <| lN (l := [(.i O40), (.bool P42), (.i S44), (.i C46), (.i C48), V50.v]) rfl agg_60 rfl ⟨hc41, hc43, hc45, hc47, hc49, hc51, trivial⟩ rfl <| An rfl
   ·exact Aw rfl rfl <| mv rfl rfl <| An rfl
   ·exact Aw rfl rfl <| ag rfl rfl <| An rfl
   ·refine sN h rfl rfl agg_60 rfl rfl fun w52 h => fun a H => c_nil <| effQ.go0 [(4, (.bool e34))] H rfl rfl <| Stg.fin [1, 4] (by kernel_rfl) (.cons ?_ (.cons ?_ .nil)) ?_
    ·exact Aw rfl rfl <| mv rfl rfl <| An rfl
    ·exact Aw rfl rfl <| ag rfl rfl <| An rfl
    ·intro a H
     replace H := H.weaken (L' := [(4, Slc.nil.v), (5, (.pointer (some (blk b8)))), (6, (.bool e34))]) ⟨rfl, rfl, rfl, trivial⟩
     refine hK39 _ _ <| c_ret ?_
     obtain ⟨O53, hc54, P55, hc56, S57, hc58, C59, hc60, C61, hc62, V63, hc64, h⟩ := h
     exact e_ret3 H rfl rfl ⟨_, rfl, run_loadN (l := [(.i O53), (.bool P55), (.i S57), (.i C59), (.i C61), V63.v]) agg_60 rfl ⟨hc54, hc56, hc58, hc60, hc62, hc64, trivial⟩⟩ rfl h
  ·refine c_skip <| hK21 _ _ <| sr fun K69 hK69 => ww H <| mv rfl rfl <| fun a H => s_build H rfl (by rw [H.parts (vs := []) rfl]; exact bd_121 _) (lt_ rfl) fun a H => s_iface H rfl rfl ni_121 (lt_ rfl) fun a H => ?_
   obtain ⟨C70, hc71, C72, hc73, h⟩ := h
   refine ww H <| lN (l := [(.i C70), (.i C72)]) rfl agg_27 rfl ⟨hc71, hc73, trivial⟩ rfl <| cl1 h body_78 rfl rfl eP fun e75 w74 h => fun a H => s_build H rfl (by rw [H.parts (vs := []) rfl]; exact bd_60 _) (lt_ rfl) fun a H => ww H <| ag rfl rfl <| sN h rfl rfl agg_60 rfl rfl fun w76 h => ag rfl rfl <| fun a H => nk hK69 <| c_ret ?_
   obtain ⟨O77, hc78, P79, hc80, S81, hc82, C83, hc84, C85, hc86, V87, hc88, h⟩ := h
   exact e_ret3 H rfl rfl ⟨_, rfl, run_loadN (l := [(.i O77), (.bool P79), (.i S81), (.i C83), (.i C85), V87.v]) agg_60 rfl ⟨hc78, hc80, hc82, hc84, hc86, hc88, trivial⟩⟩ rfl h
 ·refine c_skip <| hK15 _ _ <| c_seq fun K97 hK97 => ?_
  replace H := H.weaken (L' := [(0, (.pointer (some a12))), (3, (.pointer (some (blk b5)))), (5, (.pointer (some (blk b8)))), (7, (.pointer (some a17)))]) ⟨rfl, rfl, rfl, rfl, trivial⟩
  obtain ⟨C100, C102, l105, l108, l111, h⟩ := h
  obtain ⟨R98, h218, h104, h107, h110, h113, h212, h213, h214, h215, h216⟩ := h
  refine c_anyF (V := [(0, (.agg #[(.i C100), (.i C102)])), (1, (.pointer (some a12))), (2, (.pointer (some a12))), (3, (.pointer (some (a12.add 6)))), (4, (.map l105)), (5, (.pointer (some a17))), (6, (.pointer (some a17))), (7, (.pointer (some (a17.add 2)))), (8, (.string l108)), (10, (.pointer (some a12))), (11, (.pointer (some a12))), (12, (.pointer (some (a12.add 3)))), (13, (.i l111))]) 4 (⟨⟨[[], [], [1], [2], [3], [], [5], [6], [7], [4, 8], [], [10], [11], [12], [0, 9, 13], [14], [15], [15], [], [0, 1, 2, 3, 4, 5, 6, 7, 8, 9, 10, 11, 12, 13, 14, 15, 16, 18], [0, 1, 2, 3, 4, 5, 6, 7, 8, 9, 10, 11, 12, 13, 14, 15, 16, 17, 18, 19]], [some 40, some 41, some 42, some 43, some 44, some 45, some 46, some 47, some 48, some 49, some 50, some 51, some 52, some 53, some 54, some 39, some 55, some 56, some 10, none, some 11], [9, 14, 18, 19], [], []⟩, [[], [], [], [], [], [], [], [], [], [], [], [], [], [], [9], [9, 14], [9, 14], [9, 14], [], [9, 14, 18], [9, 14, 18, 19]], [[14, 19], [9, 14, 19], [9, 14, 19], [9, 14, 19], [9, 14, 19], [9, 14, 19], [9, 14, 19], [9, 14, 19], [9, 14, 19], [14, 19], [14, 19], [14, 19], [14, 19], [14, 19], [19], [19], [19], [], [19], [], []]⟩ : Rh) [(0, (.pointer (some a12))), (3, (.pointer (some (blk b5)))), (5, (.pointer (some (blk b8)))), (7, (.pointer (some a17)))] mixed (by kernel_rfl) H fun F219 h217 => ?_
  clear H a
  have st_9_14_18_19 : ∀ (m114 : Int) (C118 : Int) (C119 : Int) (N120 : Int) (b125 : Nat) (w99 : World), R98 (some m114) (some (C118, C119, N120)) (some b125) (some ()) w99 → F219 0 [9, 14, 18, 19] [(0, (.agg #[(.i C100), (.i C102)])), (1, (.pointer (some a12))), (2, (.pointer (some a12))), (3, (.pointer (some (a12.add 6)))), (4, (.map l105)), (5, (.pointer (some a17))), (6, (.pointer (some a17))), (7, (.pointer (some (a17.add 2)))), (8, (.string l108)), (9, (.i m114)), (10, (.pointer (some a12))), (11, (.pointer (some a12))), (12, (.pointer (some (a12.add 3)))), (13, (.i l111)), (14, (.tuple #[(.agg #[(.i C118), (.i C119)]), (.i N120)])), (15, (.tuple #[(.agg #[(.i C118), (.i C119)]), (.i N120)])), (16, (.agg #[(.i C118), (.i C119)])), (17, (.i N120)), (18, (.pointer (some (blk b125)))), (19, undef), (20, (.i N120))] w99 := by
   intro m114 C118 C119 N120 b125 w99 hr
   rw [h217]
   refine StT.last [17, 20] (by kernel_rfl) (by kernel_rfl) (.cons ?_ (.cons ?_ .nil)) ?_
   ·refine Ans.mk rfl rfl fun a H => ?_
    replace H := H.weaken (L' := [(39, (.tuple #[(.agg #[(.i C118), (.i C119)]), (.i N120)]))]) ⟨rfl, trivial⟩
    refine ww H <| ex rfl rfl rfl <| fun a H => c_nil ⟨rfl, rfl, H.weaken (L' := [(56, (.i N120))]) ⟨rfl, trivial⟩⟩
   ·refine Ans.mk rfl rfl fun a H => ?_
    replace H := H.weaken (L' := [(56, (.i N120))]) ⟨rfl, trivial⟩
    refine ww H <| ag rfl rfl <| fun a H => c_nil ⟨rfl, rfl, H.weaken (L' := [(11, (.i N120))]) ⟨rfl, trivial⟩⟩
   ·intro a H
    have h := h216 m114 C118 C119 N120 b125 w99 hr
    replace H := H.weaken (L' := [(0, (.pointer (some a12))), (5, (.pointer (some (blk b8)))), (7, (.pointer (some a17))), (10, (.pointer (some (blk b125)))), (11, (.i N120))]) ⟨rfl, rfl, rfl, rfl, rfl, trivial⟩
    refine hK97 _ _ <| c_seq fun K133 hK133 => sr fun K134 hK134 => ww H <| mv rfl rfl <| bn rfl rfl r_neq rfl <| fun a H => nk hK134 <| cd H rfl h (fun h135 h => ?_) (fun h135 h => ?_)
    ·refine sr fun K136 hK136 => ww H <| mv rfl rfl <| fun a H => s_build H rfl (by rw [H.parts (vs := []) rfl]; exact bd_27 _) (lt_ rfl) fun a H => s_call H rfl body_89 (H.args (vs := [(.pointer (some a12)), (.i 42), (.agg #[(.i 0), (.i 0)]), Slc.nil.v]) rfl) (lt_ rfl) h ?_ (fun c w' => eP c w' _)
     clear H h a
     rintro _ w137 a ⟨O138, P139, S140, C141, C142, V143, e144, rfl, h⟩ H
     refine ww H <| mv rfl rfl <| ex rfl rfl rfl <| ex rfl rfl rfl <| al h zero_60 rfl rfl rfl fun b145 w146 n147 h => sN h rfl rfl agg_60 rfl rfl fun w148 h => ag rfl rfl <| fun a H => nk hK136 <| c_seq fun K149 hK149 => ?_
     replace H := H.weaken (L' := [(5, (.pointer (some (blk b8)))), (12, (.pointer (some (blk b145)))), (13, (.bool e144))]) ⟨rfl, rfl, rfl, trivial⟩
     obtain ⟨O150, hc151, P152, hc153, S154, hc155, C156, hc157, C158, hc159, V160, hc161, h⟩ := h
     refine c_any (V := [(0, (.agg #[(.i O150), (.bool P152), (.i S154), (.i C156), (.i C158), V160.v])), (1, (.bool e144)), (2, Slc.nil.v)]) (⟨[[], [], [], [0, 2], [0, 1, 2, 3]], [some 65, some 66, some 4, none, some 6], [3], [0, 0, 0, 0, 1], [0, 1, 0, 1, 1]⟩ : Rg) [(5, (.pointer (some (blk b8)))), (12, (.pointer (some (blk b145)))), (13, (.bool e144))] mixed (by kernel_rfl) H <| Stg.eff [0, 1, 2] (by kernel_rfl) rfl (.cons ?_ (.cons ?_ (.cons ?_ .nil))) ?_
     ·exact Aw rfl rfl <| lN (l := [(.i O150), (.bool P152), (.i S154), (.i C156), (.i C158), V160.v]) rfl agg_60 rfl ⟨hc151, hc153, hc155, hc157, hc159, hc161, trivial⟩ rfl <| An rfl
     ·exact Aw rfl rfl <| mv rfl rfl <| An rfl
     ·exact Aw rfl rfl <| ag rfl rfl <| An rfl
     ·refine sN h rfl rfl agg_60 rfl rfl fun w162 h => fun a H => c_nil <| effQ.go0 [(4, (.bool e144))] H rfl rfl <| Stg.fin [1, 4] (by kernel_rfl) (.cons ?_ (.cons ?_ .nil)) ?_
      ·exact Aw rfl rfl <| mv rfl rfl <| An rfl
      ·exact Aw rfl rfl <| ag rfl rfl <| An rfl
      ·intro a H
       replace H := H.weaken (L' := [(4, Slc.nil.v), (5, (.pointer (some (blk b8)))), (6, (.bool e144))]) ⟨rfl, rfl, rfl, trivial⟩
       refine hK149 _ _ <| c_ret ?_
       obtain ⟨O163, hc164, P165, hc166, S167, hc168, C169, hc170, C171, hc172, V173, hc174, h⟩ := h
       exact e_ret3 H rfl rfl ⟨_, rfl, run_loadN (l := [(.i O163), (.bool P165), (.i S167), (.i C169), (.i C171), V173.v]) agg_60 rfl ⟨hc164, hc166, hc168, hc170, hc172, hc174, trivial⟩⟩ rfl h
    ·refine c_skip <| hK133 _ _ <| c_seq fun K179 hK179 => ?_
     replace H := H.weaken (L' := [(0, (.pointer (some a12))), (5, (.pointer (some (blk b8)))), (7, (.pointer (some a17))), (10, (.pointer (some (blk b125))))]) ⟨rfl, rfl, rfl, rfl, trivial⟩
     obtain ⟨l180, hc181, l182, hc183, l184, hc185, h⟩ := h
     refine c_any (V := [(0, (.pointer (some a12))), (1, (.pointer (some a12))), (2, (.pointer (some (a12.add 6)))), (3, (.map l180)), (4, (.pointer (some a17))), (5, (.pointer (some a17))), (6, (.pointer (some (a17.add 2)))), (7, (.string l182)), (8, (.pointer (some ((blk b125).add 0)))), (9, (.i l184))]) (⟨[[], [0], [1], [2], [], [4], [5], [6], [], [8], [0, 1, 2, 3, 4, 5, 6, 7, 8, 9]], [some 67, some 68, some 69, some 70, some 71, some 72, some 73, some 74, some 75, some 76, none], [10], [0, 0, 0, 0, 0, 0, 0, 0, 0, 0, 0], [0, 0, 0, 0, 0, 0, 0, 0, 0, 0, 1]⟩ : Rg) [(0, (.pointer (some a12))), (5, (.pointer (some (blk b8)))), (7, (.pointer (some a17))), (10, (.pointer (some (blk b125))))] mixed (by kernel_rfl) H <| Stg.eff [0, 1, 2, 3, 4, 5, 6, 7, 8, 9] (by kernel_rfl) rfl (.cons ?_ (.cons ?_ (.cons ?_ (.cons ?_ (.cons ?_ (.cons ?_ (.cons ?_ (.cons ?_ (.cons ?_ (.cons ?_ .nil)))))))))) ?_
     ·exact Aw rfl rfl <| mv rfl rfl <| An rfl
     ·exact Aw rfl rfl <| nl rfl rfl <| An rfl
     ·exact Aw rfl rfl <| fd rfl fld_102_4 rfl <| An rfl
     ·exact Aw rfl rfl <| ld rfl one_99 hc181 rfl <| An rfl
     ·exact Aw rfl rfl <| mv rfl rfl <| An rfl
     ·exact Aw rfl rfl <| nl rfl rfl <| An rfl
     ·exact Aw rfl rfl <| fd rfl fld_116_2 rfl <| An rfl
     ·exact Aw rfl rfl <| ld rfl one_9 hc183 rfl <| An rfl
     ·exact Aw rfl rfl <| fd rfl fld_27_0 rfl <| An rfl
     ·exact Aw rfl rfl <| ld rfl one_2 hc185 rfl <| An rfl
     ·intro a H
      replace H := H.weaken (L' := [(70, (.map l180)), (74, (.string l182)), (76, (.i l184))]) ⟨rfl, rfl, rfl, trivial⟩
      obtain ⟨w186, h187, h⟩ := h
      refine s_mup H rfl rfl rfl rfl h187 ?_
      clear H h187
      intro H
      refine c_nil <| effQ.go0 [] H rfl rfl <| Stg.fin [] (by kernel_rfl) .nil ?_
      ·intro a H
       replace H := H.weaken (L' := [(0, (.pointer (some a12))), (5, (.pointer (some (blk b8)))), (10, (.pointer (some (blk b125))))]) ⟨rfl, rfl, rfl, trivial⟩
       refine hK179 _ _ <| sr fun K188 hK188 => ww H <| mv rfl rfl <| fun a H => s_build H rfl (by rw [H.parts (vs := []) rfl]; exact bd_170 _) (lt_ rfl) fun a H => s_iface H rfl rfl ni_170 (lt_ rfl) fun a H => ?_
       obtain ⟨C189, hc190, C191, hc192, h⟩ := h
       refine ww H <| lN (l := [(.i C189), (.i C191)]) rfl agg_27 rfl ⟨hc190, hc192, trivial⟩ rfl <| cl1 h body_78 rfl rfl eP fun e194 w193 h => fun a H => s_build H rfl (by rw [H.parts (vs := []) rfl]; exact bd_60 _) (lt_ rfl) fun a H => ww H <| ag rfl rfl <| sN h rfl rfl agg_60 rfl rfl fun w195 h => ag rfl rfl <| fun a H => nk hK188 <| c_ret ?_
       obtain ⟨O196, hc197, P198, hc199, S200, hc201, C202, hc203, C204, hc205, V206, hc207, h⟩ := h
       exact e_ret3 H rfl rfl ⟨_, rfl, run_loadN (l := [(.i O196), (.bool P198), (.i S200), (.i C202), (.i C204), V206.v]) agg_60 rfl ⟨hc197, hc199, hc201, hc203, hc205, hc207, trivial⟩⟩ rfl h
  have st_9_14_18 : ∀ (m114 : Int) (C118 : Int) (C119 : Int) (N120 : Int) (b125 : Nat) (w99 : World), R98 (some m114) (some (C118, C119, N120)) (some b125) none w99 → F219 1 [9, 14, 18] [(0, (.agg #[(.i C100), (.i C102)])), (1, (.pointer (some a12))), (2, (.pointer (some a12))), (3, (.pointer (some (a12.add 6)))), (4, (.map l105)), (5, (.pointer (some a17))), (6, (.pointer (some a17))), (7, (.pointer (some (a17.add 2)))), (8, (.string l108)), (9, (.i m114)), (10, (.pointer (some a12))), (11, (.pointer (some a12))), (12, (.pointer (some (a12.add 3)))), (13, (.i l111)), (14, (.tuple #[(.agg #[(.i C118), (.i C119)]), (.i N120)])), (15, (.tuple #[(.agg #[(.i C118), (.i C119)]), (.i N120)])), (16, (.agg #[(.i C118), (.i C119)])), (17, (.i N120)), (18, (.pointer (some (blk b125))))] w99 := by
   intro m114 C118 C119 N120 b125 w99 hr
   rw [h217]
   refine StT.more [15, 16, 17] [19] (by kernel_rfl) (by kernel_rfl) (by kernel_rfl) (.cons ?_ (.cons ?_ (.cons ?_ .nil))) (.cons ?_ .nil)
   ·refine Ans.mk rfl rfl fun a H => ?_
    replace H := H.weaken (L' := [(54, (.tuple #[(.agg #[(.i C118), (.i C119)]), (.i N120)]))]) ⟨rfl, trivial⟩
    refine ww H <| mv rfl rfl <| fun a H => c_nil ⟨rfl, rfl, H.weaken (L' := [(39, (.tuple #[(.agg #[(.i C118), (.i C119)]), (.i N120)]))]) ⟨rfl, trivial⟩⟩
   ·refine Ans.mk rfl rfl fun a H => ?_
    replace H := H.weaken (L' := [(39, (.tuple #[(.agg #[(.i C118), (.i C119)]), (.i N120)]))]) ⟨rfl, trivial⟩
    refine ww H <| ex rfl rfl rfl <| fun a H => c_nil ⟨rfl, rfl, H.weaken (L' := [(55, (.agg #[(.i C118), (.i C119)]))]) ⟨rfl, trivial⟩⟩
   ·refine Ans.mk rfl rfl fun a H => ?_
    replace H := H.weaken (L' := [(39, (.tuple #[(.agg #[(.i C118), (.i C119)]), (.i N120)]))]) ⟨rfl, trivial⟩
    refine ww H <| ex rfl rfl rfl <| fun a H => c_nil ⟨rfl, rfl, H.weaken (L' := [(56, (.i N120))]) ⟨rfl, trivial⟩⟩
   ·refine ⟨_, rfl, fun a H => ?_⟩
    replace H := H.weaken (L' := [(10, (.pointer (some (blk b125)))), (55, (.agg #[(.i C118), (.i C119)]))]) ⟨rfl, rfl, trivial⟩
    have h := h215 m114 C118 C119 N120 b125 w99 hr
    refine ww H <| sN h rfl rfl agg_27 rfl rfl fun w128 h => fun a H => c_nil <| effQ.ok (v := undef) (H.weaken (L' := []) trivial) ⟨[(0, (.agg #[(.i C100), (.i C102)])), (1, (.pointer (some a12))), (2, (.pointer (some a12))), (3, (.pointer (some (a12.add 6)))), (4, (.map l105)), (5, (.pointer (some a17))), (6, (.pointer (some a17))), (7, (.pointer (some (a17.add 2)))), (8, (.string l108)), (9, (.i m114)), (10, (.pointer (some a12))), (11, (.pointer (some a12))), (12, (.pointer (some (a12.add 3)))), (13, (.i l111)), (14, (.tuple #[(.agg #[(.i C118), (.i C119)]), (.i N120)])), (15, (.tuple #[(.agg #[(.i C118), (.i C119)]), (.i N120)])), (16, (.agg #[(.i C118), (.i C119)])), (17, (.i N120)), (18, (.pointer (some (blk b125)))), (19, undef), (20, (.i N120))], ⟨rfl, rfl, rfl, rfl, rfl, rfl, rfl, rfl, rfl, rfl, rfl, rfl, rfl, rfl, rfl, rfl, rfl, rfl, rfl, rfl, trivial⟩, ?_⟩
    have hx := st_9_14_18_19 m114 C118 C119 N120 b125 w128 h
    rw [h217] at hx
    exact hx
  have st_9_14 : ∀ (m114 : Int) (C118 : Int) (C119 : Int) (N120 : Int) (w99 : World), R98 (some m114) (some (C118, C119, N120)) none none w99 → F219 2 [9, 14] [(0, (.agg #[(.i C100), (.i C102)])), (1, (.pointer (some a12))), (2, (.pointer (some a12))), (3, (.pointer (some (a12.add 6)))), (4, (.map l105)), (5, (.pointer (some a17))), (6, (.pointer (some a17))), (7, (.pointer (some (a17.add 2)))), (8, (.string l108)), (9, (.i m114)), (10, (.pointer (some a12))), (11, (.pointer (some a12))), (12, (.pointer (some (a12.add 3)))), (13, (.i l111)), (14, (.tuple #[(.agg #[(.i C118), (.i C119)]), (.i N120)])), (15, (.tuple #[(.agg #[(.i C118), (.i C119)]), (.i N120)])), (16, (.agg #[(.i C118), (.i C119)])), (17, (.i N120))] w99 := by
   intro m114 C118 C119 N120 w99 hr
   rw [h217]
   refine StT.more [15, 16, 17] [18] (by kernel_rfl) (by kernel_rfl) (by kernel_rfl) (.cons ?_ (.cons ?_ (.cons ?_ .nil))) (.cons ?_ .nil)
   ·refine Ans.mk rfl rfl fun a H => ?_
    replace H := H.weaken (L' := [(54, (.tuple #[(.agg #[(.i C118), (.i C119)]), (.i N120)]))]) ⟨rfl, trivial⟩
    refine ww H <| mv rfl rfl <| fun a H => c_nil ⟨rfl, rfl, H.weaken (L' := [(39, (.tuple #[(.agg #[(.i C118), (.i C119)]), (.i N120)]))]) ⟨rfl, trivial⟩⟩
   ·refine Ans.mk rfl rfl fun a H => ?_
    replace H := H.weaken (L' := [(39, (.tuple #[(.agg #[(.i C118), (.i C119)]), (.i N120)]))]) ⟨rfl, trivial⟩
    refine ww H <| ex rfl rfl rfl <| fun a H => c_nil ⟨rfl, rfl, H.weaken (L' := [(55, (.agg #[(.i C118), (.i C119)]))]) ⟨rfl, trivial⟩⟩
   ·refine Ans.mk rfl rfl fun a H => ?_
    replace H := H.weaken (L' := [(39, (.tuple #[(.agg #[(.i C118), (.i C119)]), (.i N120)]))]) ⟨rfl, trivial⟩
    refine ww H <| ex rfl rfl rfl <| fun a H => c_nil ⟨rfl, rfl, H.weaken (L' := [(56, (.i N120))]) ⟨rfl, trivial⟩⟩
   ·refine ⟨_, rfl, fun a H => ?_⟩
    replace H := H.weaken (L' := []) trivial
    have h := h214 (some m114) (some (C118, C119, N120)) w99 hr
    refine ww H <| al h zero_27 rfl rfl rfl fun b125 w126 n127 h => fun a H => c_nil <| effQ.ok (v := (.pointer (some (blk b125)))) (H.weaken (L' := [(10, (.pointer (some (blk b125))))]) ⟨rfl, trivial⟩) ⟨[(0, (.agg #[(.i C100), (.i C102)])), (1, (.pointer (some a12))), (2, (.pointer (some a12))), (3, (.pointer (some (a12.add 6)))), (4, (.map l105)), (5, (.pointer (some a17))), (6, (.pointer (some a17))), (7, (.pointer (some (a17.add 2)))), (8, (.string l108)), (9, (.i m114)), (10, (.pointer (some a12))), (11, (.pointer (some a12))), (12, (.pointer (some (a12.add 3)))), (13, (.i l111)), (14, (.tuple #[(.agg #[(.i C118), (.i C119)]), (.i N120)])), (15, (.tuple #[(.agg #[(.i C118), (.i C119)]), (.i N120)])), (16, (.agg #[(.i C118), (.i C119)])), (17, (.i N120)), (18, (.pointer (some (blk b125))))], ⟨rfl, rfl, rfl, rfl, rfl, rfl, rfl, rfl, rfl, rfl, rfl, rfl, rfl, rfl, rfl, rfl, rfl, rfl, rfl, trivial⟩, ?_⟩
    have hx := st_9_14_18 m114 C118 C119 N120 b125 w126 h
    rw [h217] at hx
    exact hx
  have st_9_18 : ∀ (m114 : Int) (b125 : Nat) (w99 : World), R98 (some m114) none (some b125) none w99 → F219 2 [9, 18] [(0, (.agg #[(.i C100), (.i C102)])), (1, (.pointer (some a12))), (2, (.pointer (some a12))), (3, (.pointer (some (a12.add 6)))), (4, (.map l105)), (5, (.pointer (some a17))), (6, (.pointer (some a17))), (7, (.pointer (some (a17.add 2)))), (8, (.string l108)), (9, (.i m114)), (10, (.pointer (some a12))), (11, (.pointer (some a12))), (12, (.pointer (some (a12.add 3)))), (13, (.i l111)), (18, (.pointer (some (blk b125))))] w99 := by
   intro m114 b125 w99 hr
   rw [h217]
   refine StT.more [0, 10, 11, 12, 13] [14] (by kernel_rfl) (by kernel_rfl) (by kernel_rfl) (.cons ?_ (.cons ?_ (.cons ?_ (.cons ?_ (.cons ?_ .nil))))) (.cons ?_ .nil)
   ·refine Ans.mk rfl rfl fun a H => ?_
    replace H := H.weaken (L' := [(3, (.pointer (some (blk b5))))]) ⟨rfl, trivial⟩
    obtain ⟨hc101, hc103⟩ := h104 (some m114) (some b125) w99 hr
    refine ww H <| lN (l := [(.i C100), (.i C102)]) rfl agg_27 rfl ⟨hc101, hc103, trivial⟩ rfl <| fun a H => c_nil ⟨rfl, rfl, H.weaken (L' := [(40, (.agg #[(.i C100), (.i C102)]))]) ⟨rfl, trivial⟩⟩
   ·refine Ans.mk rfl rfl fun a H => ?_
    replace H := H.weaken (L' := [(0, (.pointer (some a12)))]) ⟨rfl, trivial⟩
    refine ww H <| mv rfl rfl <| fun a H => c_nil ⟨rfl, rfl, H.weaken (L' := [(50, (.pointer (some a12)))]) ⟨rfl, trivial⟩⟩
   ·refine Ans.mk rfl rfl fun a H => ?_
    replace H := H.weaken (L' := [(50, (.pointer (some a12)))]) ⟨rfl, trivial⟩
    refine ww H <| nl rfl rfl <| fun a H => c_nil ⟨rfl, rfl, H.weaken (L' := [(51, (.pointer (some a12)))]) ⟨rfl, trivial⟩⟩
   ·refine Ans.mk rfl rfl fun a H => ?_
    replace H := H.weaken (L' := [(51, (.pointer (some a12)))]) ⟨rfl, trivial⟩
    refine ww H <| fd rfl fld_102_1 rfl <| fun a H => c_nil ⟨rfl, rfl, H.weaken (L' := [(52, (.pointer (some (a12.add 3))))]) ⟨rfl, trivial⟩⟩
   ·refine Ans.mk rfl rfl fun a H => ?_
    replace H := H.weaken (L' := [(52, (.pointer (some (a12.add 3))))]) ⟨rfl, trivial⟩
    obtain hc112 := h113 (some m114) (some b125) w99 hr
    refine ww H <| ld rfl one_3 hc112 rfl <| fun a H => c_nil ⟨rfl, rfl, H.weaken (L' := [(53, (.i l111))]) ⟨rfl, trivial⟩⟩
   ·refine ⟨_, rfl, fun a H => ?_⟩
    replace H := H.weaken (L' := [(40, (.agg #[(.i C100), (.i C102)])), (49, (.i m114)), (53, (.i l111))]) ⟨rfl, rfl, rfl, trivial⟩
    have h := h213 m114 (some b125) w99 hr
    refine ww H <| cl3 h body_125 rfl rfl eP fun C118 C119 N120 w117 h => fun a H => c_nil <| effQ.ok (v := (.tuple #[(.agg #[(.i C118), (.i C119)]), (.i N120)])) (H.weaken (L' := [(54, (.tuple #[(.agg #[(.i C118), (.i C119)]), (.i N120)]))]) ⟨rfl, trivial⟩) ⟨[(0, (.agg #[(.i C100), (.i C102)])), (1, (.pointer (some a12))), (2, (.pointer (some a12))), (3, (.pointer (some (a12.add 6)))), (4, (.map l105)), (5, (.pointer (some a17))), (6, (.pointer (some a17))), (7, (.pointer (some (a17.add 2)))), (8, (.string l108)), (9, (.i m114)), (10, (.pointer (some a12))), (11, (.pointer (some a12))), (12, (.pointer (some (a12.add 3)))), (13, (.i l111)), (14, (.tuple #[(.agg #[(.i C118), (.i C119)]), (.i N120)])), (15, (.tuple #[(.agg #[(.i C118), (.i C119)]), (.i N120)])), (16, (.agg #[(.i C118), (.i C119)])), (17, (.i N120)), (18, (.pointer (some (blk b125))))], ⟨rfl, rfl, rfl, rfl, rfl, rfl, rfl, rfl, rfl, rfl, rfl, rfl, rfl, rfl, rfl, rfl, trivial⟩, ?_⟩
    have hx := st_9_14_18 m114 C118 C119 N120 b125 w117 h
    rw [h217] at hx
    exact hx
  have st_9 : ∀ (m114 : Int) (w99 : World), R98 (some m114) none none none w99 → F219 3 [9] [(0, (.agg #[(.i C100), (.i C102)])), (1, (.pointer (some a12))), (2, (.pointer (some a12))), (3, (.pointer (some (a12.add 6)))), (4, (.map l105)), (5, (.pointer (some a17))), (6, (.pointer (some a17))), (7, (.pointer (some (a17.add 2)))), (8, (.string l108)), (9, (.i m114)), (10, (.pointer (some a12))), (11, (.pointer (some a12))), (12, (.pointer (some (a12.add 3)))), (13, (.i l111))] w99 := by
   intro m114 w99 hr
   rw [h217]
   refine StT.more [0, 10, 11, 12, 13] [14, 18] (by kernel_rfl) (by kernel_rfl) (by kernel_rfl) (.cons ?_ (.cons ?_ (.cons ?_ (.cons ?_ (.cons ?_ .nil))))) (.cons ?_ (.cons ?_ .nil))
   ·refine Ans.mk rfl rfl fun a H => ?_
    replace H := H.weaken (L' := [(3, (.pointer (some (blk b5))))]) ⟨rfl, trivial⟩
    obtain ⟨hc101, hc103⟩ := h104 (some m114) none w99 hr
    refine ww H <| lN (l := [(.i C100), (.i C102)]) rfl agg_27 rfl ⟨hc101, hc103, trivial⟩ rfl <| fun a H => c_nil ⟨rfl, rfl, H.weaken (L' := [(40, (.agg #[(.i C100), (.i C102)]))]) ⟨rfl, trivial⟩⟩
   ·refine Ans.mk rfl rfl fun a H => ?_
    replace H := H.weaken (L' := [(0, (.pointer (some a12)))]) ⟨rfl, trivial⟩
    refine ww H <| mv rfl rfl <| fun a H => c_nil ⟨rfl, rfl, H.weaken (L' := [(50, (.pointer (some a12)))]) ⟨rfl, trivial⟩⟩
   ·refine Ans.mk rfl rfl fun a H => ?_
    replace H := H.weaken (L' := [(50, (.pointer (some a12)))]) ⟨rfl, trivial⟩
    refine ww H <| nl rfl rfl <| fun a H => c_nil ⟨rfl, rfl, H.weaken (L' := [(51, (.pointer (some a12)))]) ⟨rfl, trivial⟩⟩
   ·refine Ans.mk rfl rfl fun a H => ?_
    replace H := H.weaken (L' := [(51, (.pointer (some a12)))]) ⟨rfl, trivial⟩
    refine ww H <| fd rfl fld_102_1 rfl <| fun a H => c_nil ⟨rfl, rfl, H.weaken (L' := [(52, (.pointer (some (a12.add 3))))]) ⟨rfl, trivial⟩⟩
   ·refine Ans.mk rfl rfl fun a H => ?_
    replace H := H.weaken (L' := [(52, (.pointer (some (a12.add 3))))]) ⟨rfl, trivial⟩
    obtain hc112 := h113 (some m114) none w99 hr
    refine ww H <| ld rfl one_3 hc112 rfl <| fun a H => c_nil ⟨rfl, rfl, H.weaken (L' := [(53, (.i l111))]) ⟨rfl, trivial⟩⟩
   ·refine ⟨_, rfl, fun a H => ?_⟩
    replace H := H.weaken (L' := [(40, (.agg #[(.i C100), (.i C102)])), (49, (.i m114)), (53, (.i l111))]) ⟨rfl, rfl, rfl, trivial⟩
    have h := h213 m114 none w99 hr
    refine ww H <| cl3 h body_125 rfl rfl eP fun C118 C119 N120 w117 h => fun a H => c_nil <| effQ.ok (v := (.tuple #[(.agg #[(.i C118), (.i C119)]), (.i N120)])) (H.weaken (L' := [(54, (.tuple #[(.agg #[(.i C118), (.i C119)]), (.i N120)]))]) ⟨rfl, trivial⟩) ⟨[(0, (.agg #[(.i C100), (.i C102)])), (1, (.pointer (some a12))), (2, (.pointer (some a12))), (3, (.pointer (some (a12.add 6)))), (4, (.map l105)), (5, (.pointer (some a17))), (6, (.pointer (some a17))), (7, (.pointer (some (a17.add 2)))), (8, (.string l108)), (9, (.i m114)), (10, (.pointer (some a12))), (11, (.pointer (some a12))), (12, (.pointer (some (a12.add 3)))), (13, (.i l111)), (14, (.tuple #[(.agg #[(.i C118), (.i C119)]), (.i N120)])), (15, (.tuple #[(.agg #[(.i C118), (.i C119)]), (.i N120)])), (16, (.agg #[(.i C118), (.i C119)])), (17, (.i N120))], ⟨rfl, rfl, rfl, rfl, rfl, rfl, rfl, rfl, rfl, rfl, rfl, rfl, rfl, rfl, rfl, trivial⟩, ?_⟩
    have hx := st_9_14 m114 C118 C119 N120 w117 h
    rw [h217] at hx
    exact hx
   ·refine ⟨_, rfl, fun a H => ?_⟩
    replace H := H.weaken (L' := []) trivial
    have h := h214 (some m114) none w99 hr
    refine ww H <| al h zero_27 rfl rfl rfl fun b125 w126 n127 h => fun a H => c_nil <| effQ.ok (v := (.pointer (some (blk b125)))) (H.weaken (L' := [(10, (.pointer (some (blk b125))))]) ⟨rfl, trivial⟩) ⟨[(0, (.agg #[(.i C100), (.i C102)])), (1, (.pointer (some a12))), (2, (.pointer (some a12))), (3, (.pointer (some (a12.add 6)))), (4, (.map l105)), (5, (.pointer (some a17))), (6, (.pointer (some a17))), (7, (.pointer (some (a17.add 2)))), (8, (.string l108)), (9, (.i m114)), (10, (.pointer (some a12))), (11, (.pointer (some a12))), (12, (.pointer (some (a12.add 3)))), (13, (.i l111)), (18, (.pointer (some (blk b125))))], ⟨rfl, rfl, rfl, rfl, rfl, rfl, rfl, rfl, rfl, rfl, rfl, rfl, rfl, rfl, rfl, trivial⟩, ?_⟩
    have hx := st_9_18 m114 b125 w126 h
    rw [h217] at hx
    exact hx
  have st_18 : ∀ (b125 : Nat) (w99 : World), R98 none none (some b125) none w99 → F219 3 [18] [(0, (.agg #[(.i C100), (.i C102)])), (1, (.pointer (some a12))), (2, (.pointer (some a12))), (3, (.pointer (some (a12.add 6)))), (4, (.map l105)), (5, (.pointer (some a17))), (6, (.pointer (some a17))), (7, (.pointer (some (a17.add 2)))), (8, (.string l108)), (10, (.pointer (some a12))), (11, (.pointer (some a12))), (12, (.pointer (some (a12.add 3)))), (13, (.i l111)), (18, (.pointer (some (blk b125))))] w99 := by
   intro b125 w99 hr
   rw [h217]
   refine StT.more [0, 1, 2, 3, 4, 5, 6, 7, 8, 10, 11, 12, 13] [9] (by kernel_rfl) (by kernel_rfl) (by kernel_rfl) (.cons ?_ (.cons ?_ (.cons ?_ (.cons ?_ (.cons ?_ (.cons ?_ (.cons ?_ (.cons ?_ (.cons ?_ (.cons ?_ (.cons ?_ (.cons ?_ (.cons ?_ .nil))))))))))))) (.cons ?_ .nil)
   ·refine Ans.mk rfl rfl fun a H => ?_
    replace H := H.weaken (L' := [(3, (.pointer (some (blk b5))))]) ⟨rfl, trivial⟩
    obtain ⟨hc101, hc103⟩ := h104 none (some b125) w99 hr
    refine ww H <| lN (l := [(.i C100), (.i C102)]) rfl agg_27 rfl ⟨hc101, hc103, trivial⟩ rfl <| fun a H => c_nil ⟨rfl, rfl, H.weaken (L' := [(40, (.agg #[(.i C100), (.i C102)]))]) ⟨rfl, trivial⟩⟩
   ·refine Ans.mk rfl rfl fun a H => ?_
    replace H := H.weaken (L' := [(0, (.pointer (some a12)))]) ⟨rfl, trivial⟩
    refine ww H <| mv rfl rfl <| fun a H => c_nil ⟨rfl, rfl, H.weaken (L' := [(41, (.pointer (some a12)))]) ⟨rfl, trivial⟩⟩
   ·refine Ans.mk rfl rfl fun a H => ?_
    replace H := H.weaken (L' := [(41, (.pointer (some a12)))]) ⟨rfl, trivial⟩
    refine ww H <| nl rfl rfl <| fun a H => c_nil ⟨rfl, rfl, H.weaken (L' := [(42, (.pointer (some a12)))]) ⟨rfl, trivial⟩⟩
   ·refine Ans.mk rfl rfl fun a H => ?_
    replace H := H.weaken (L' := [(42, (.pointer (some a12)))]) ⟨rfl, trivial⟩
    refine ww H <| fd rfl fld_102_4 rfl <| fun a H => c_nil ⟨rfl, rfl, H.weaken (L' := [(43, (.pointer (some (a12.add 6))))]) ⟨rfl, trivial⟩⟩
   ·refine Ans.mk rfl rfl fun a H => ?_
    replace H := H.weaken (L' := [(43, (.pointer (some (a12.add 6))))]) ⟨rfl, trivial⟩
    obtain hc106 := h107 (some b125) w99 hr
    refine ww H <| ld rfl one_99 hc106 rfl <| fun a H => c_nil ⟨rfl, rfl, H.weaken (L' := [(44, (.map l105))]) ⟨rfl, trivial⟩⟩
   ·refine Ans.mk rfl rfl fun a H => ?_
    replace H := H.weaken (L' := [(7, (.pointer (some a17)))]) ⟨rfl, trivial⟩
    refine ww H <| mv rfl rfl <| fun a H => c_nil ⟨rfl, rfl, H.weaken (L' := [(45, (.pointer (some a17)))]) ⟨rfl, trivial⟩⟩
   ·refine Ans.mk rfl rfl fun a H => ?_
    replace H := H.weaken (L' := [(45, (.pointer (some a17)))]) ⟨rfl, trivial⟩
    refine ww H <| nl rfl rfl <| fun a H => c_nil ⟨rfl, rfl, H.weaken (L' := [(46, (.pointer (some a17)))]) ⟨rfl, trivial⟩⟩
   ·refine Ans.mk rfl rfl fun a H => ?_
    replace H := H.weaken (L' := [(46, (.pointer (some a17)))]) ⟨rfl, trivial⟩
    refine ww H <| fd rfl fld_116_2 rfl <| fun a H => c_nil ⟨rfl, rfl, H.weaken (L' := [(47, (.pointer (some (a17.add 2))))]) ⟨rfl, trivial⟩⟩
   ·refine Ans.mk rfl rfl fun a H => ?_
    replace H := H.weaken (L' := [(47, (.pointer (some (a17.add 2))))]) ⟨rfl, trivial⟩
    obtain hc109 := h110 (some b125) w99 hr
    refine ww H <| ld rfl one_9 hc109 rfl <| fun a H => c_nil ⟨rfl, rfl, H.weaken (L' := [(48, (.string l108))]) ⟨rfl, trivial⟩⟩
   ·refine Ans.mk rfl rfl fun a H => ?_
    replace H := H.weaken (L' := [(0, (.pointer (some a12)))]) ⟨rfl, trivial⟩
    refine ww H <| mv rfl rfl <| fun a H => c_nil ⟨rfl, rfl, H.weaken (L' := [(50, (.pointer (some a12)))]) ⟨rfl, trivial⟩⟩
   ·refine Ans.mk rfl rfl fun a H => ?_
    replace H := H.weaken (L' := [(50, (.pointer (some a12)))]) ⟨rfl, trivial⟩
    refine ww H <| nl rfl rfl <| fun a H => c_nil ⟨rfl, rfl, H.weaken (L' := [(51, (.pointer (some a12)))]) ⟨rfl, trivial⟩⟩
   ·refine Ans.mk rfl rfl fun a H => ?_
    replace H := H.weaken (L' := [(51, (.pointer (some a12)))]) ⟨rfl, trivial⟩
    refine ww H <| fd rfl fld_102_1 rfl <| fun a H => c_nil ⟨rfl, rfl, H.weaken (L' := [(52, (.pointer (some (a12.add 3))))]) ⟨rfl, trivial⟩⟩
   ·refine Ans.mk rfl rfl fun a H => ?_
    replace H := H.weaken (L' := [(52, (.pointer (some (a12.add 3))))]) ⟨rfl, trivial⟩
    obtain hc112 := h113 none (some b125) w99 hr
    refine ww H <| ld rfl one_3 hc112 rfl <| fun a H => c_nil ⟨rfl, rfl, H.weaken (L' := [(53, (.i l111))]) ⟨rfl, trivial⟩⟩
   ·refine ⟨_, rfl, fun a H => ?_⟩
    replace H := H.weaken (L' := [(44, (.map l105)), (48, (.string l108))]) ⟨rfl, rfl, trivial⟩
    have h := h212 (some b125) w99 hr
    obtain ⟨_, h116, m114, rfl, h⟩ := h
    refine s_lkp H rfl rfl rfl h116 (lt_ rfl) ?_
    clear H a h116
    intro a H
    refine c_nil <| effQ.ok (v := (.i m114)) (H.weaken (L' := [(49, (.i m114))]) ⟨rfl, trivial⟩) ⟨[(0, (.agg #[(.i C100), (.i C102)])), (1, (.pointer (some a12))), (2, (.pointer (some a12))), (3, (.pointer (some (a12.add 6)))), (4, (.map l105)), (5, (.pointer (some a17))), (6, (.pointer (some a17))), (7, (.pointer (some (a17.add 2)))), (8, (.string l108)), (9, (.i m114)), (10, (.pointer (some a12))), (11, (.pointer (some a12))), (12, (.pointer (some (a12.add 3)))), (13, (.i l111)), (18, (.pointer (some (blk b125))))], ⟨rfl, rfl, rfl, rfl, rfl, rfl, rfl, rfl, rfl, rfl, rfl, rfl, rfl, rfl, rfl, trivial⟩, ?_⟩
    have hx := st_9_18 m114 b125 w99 h
    rw [h217] at hx
    exact hx
  have st_ : ∀ (w99 : World), R98 none none none none w99 → F219 4 [] [(0, (.agg #[(.i C100), (.i C102)])), (1, (.pointer (some a12))), (2, (.pointer (some a12))), (3, (.pointer (some (a12.add 6)))), (4, (.map l105)), (5, (.pointer (some a17))), (6, (.pointer (some a17))), (7, (.pointer (some (a17.add 2)))), (8, (.string l108)), (10, (.pointer (some a12))), (11, (.pointer (some a12))), (12, (.pointer (some (a12.add 3)))), (13, (.i l111))] w99 := by
   intro w99 hr
   rw [h217]
   refine StT.more [0, 1, 2, 3, 4, 5, 6, 7, 8, 10, 11, 12, 13] [9, 18] (by kernel_rfl) (by kernel_rfl) (by kernel_rfl) (.cons ?_ (.cons ?_ (.cons ?_ (.cons ?_ (.cons ?_ (.cons ?_ (.cons ?_ (.cons ?_ (.cons ?_ (.cons ?_ (.cons ?_ (.cons ?_ (.cons ?_ .nil))))))))))))) (.cons ?_ (.cons ?_ .nil))
   ·refine Ans.mk rfl rfl fun a H => ?_
    replace H := H.weaken (L' := [(3, (.pointer (some (blk b5))))]) ⟨rfl, trivial⟩
    obtain ⟨hc101, hc103⟩ := h104 none none w99 hr
    refine ww H <| lN (l := [(.i C100), (.i C102)]) rfl agg_27 rfl ⟨hc101, hc103, trivial⟩ rfl <| fun a H => c_nil ⟨rfl, rfl, H.weaken (L' := [(40, (.agg #[(.i C100), (.i C102)]))]) ⟨rfl, trivial⟩⟩
   ·refine Ans.mk rfl rfl fun a H => ?_
    replace H := H.weaken (L' := [(0, (.pointer (some a12)))]) ⟨rfl, trivial⟩
    refine ww H <| mv rfl rfl <| fun a H => c_nil ⟨rfl, rfl, H.weaken (L' := [(41, (.pointer (some a12)))]) ⟨rfl, trivial⟩⟩
   ·refine Ans.mk rfl rfl fun a H => ?_
    replace H := H.weaken (L' := [(41, (.pointer (some a12)))]) ⟨rfl, trivial⟩
    refine ww H <| nl rfl rfl <| fun a H => c_nil ⟨rfl, rfl, H.weaken (L' := [(42, (.pointer (some a12)))]) ⟨rfl, trivial⟩⟩
   ·refine Ans.mk rfl rfl fun a H => ?_
    replace H := H.weaken (L' := [(42, (.pointer (some a12)))]) ⟨rfl, trivial⟩
    refine ww H <| fd rfl fld_102_4 rfl <| fun a H => c_nil ⟨rfl, rfl, H.weaken (L' := [(43, (.pointer (some (a12.add 6))))]) ⟨rfl, trivial⟩⟩
   ·refine Ans.mk rfl rfl fun a H => ?_
    replace H := H.weaken (L' := [(43, (.pointer (some (a12.add 6))))]) ⟨rfl, trivial⟩
    obtain hc106 := h107 none w99 hr
    refine ww H <| ld rfl one_99 hc106 rfl <| fun a H => c_nil ⟨rfl, rfl, H.weaken (L' := [(44, (.map l105))]) ⟨rfl, trivial⟩⟩
   ·refine Ans.mk rfl rfl fun a H => ?_
    replace H := H.weaken (L' := [(7, (.pointer (some a17)))]) ⟨rfl, trivial⟩
    refine ww H <| mv rfl rfl <| fun a H => c_nil ⟨rfl, rfl, H.weaken (L' := [(45, (.pointer (some a17)))]) ⟨rfl, trivial⟩⟩
   ·refine Ans.mk rfl rfl fun a H => ?_
    replace H := H.weaken (L' := [(45, (.pointer (some a17)))]) ⟨rfl, trivial⟩
    refine ww H <| nl rfl rfl <| fun a H => c_nil ⟨rfl, rfl, H.weaken (L' := [(46, (.pointer (some a17)))]) ⟨rfl, trivial⟩⟩
   ·refine Ans.mk rfl rfl fun a H => ?_
    replace H := H.weaken (L' := [(46, (.pointer (some a17)))]) ⟨rfl, trivial⟩
    refine ww H <| fd rfl fld_116_2 rfl <| fun a H => c_nil ⟨rfl, rfl, H.weaken (L' := [(47, (.pointer (some (a17.add 2))))]) ⟨rfl, trivial⟩⟩
   ·refine Ans.mk rfl rfl fun a H => ?_
    replace H := H.weaken (L' := [(47, (.pointer (some (a17.add 2))))]) ⟨rfl, trivial⟩
    obtain hc109 := h110 none w99 hr
    refine ww H <| ld rfl one_9 hc109 rfl <| fun a H => c_nil ⟨rfl, rfl, H.weaken (L' := [(48, (.string l108))]) ⟨rfl, trivial⟩⟩
   ·refine Ans.mk rfl rfl fun a H => ?_
    replace H := H.weaken (L' := [(0, (.pointer (some a12)))]) ⟨rfl, trivial⟩
    refine ww H <| mv rfl rfl <| fun a H => c_nil ⟨rfl, rfl, H.weaken (L' := [(50, (.pointer (some a12)))]) ⟨rfl, trivial⟩⟩
   ·refine Ans.mk rfl rfl fun a H => ?_
    replace H := H.weaken (L' := [(50, (.pointer (some a12)))]) ⟨rfl, trivial⟩
    refine ww H <| nl rfl rfl <| fun a H => c_nil ⟨rfl, rfl, H.weaken (L' := [(51, (.pointer (some a12)))]) ⟨rfl, trivial⟩⟩
   ·refine Ans.mk rfl rfl fun a H => ?_
    replace H := H.weaken (L' := [(51, (.pointer (some a12)))]) ⟨rfl, trivial⟩
    refine ww H <| fd rfl fld_102_1 rfl <| fun a H => c_nil ⟨rfl, rfl, H.weaken (L' := [(52, (.pointer (some (a12.add 3))))]) ⟨rfl, trivial⟩⟩
   ·refine Ans.mk rfl rfl fun a H => ?_
    replace H := H.weaken (L' := [(52, (.pointer (some (a12.add 3))))]) ⟨rfl, trivial⟩
    obtain hc112 := h113 none none w99 hr
    refine ww H <| ld rfl one_3 hc112 rfl <| fun a H => c_nil ⟨rfl, rfl, H.weaken (L' := [(53, (.i l111))]) ⟨rfl, trivial⟩⟩
   ·refine ⟨_, rfl, fun a H => ?_⟩
    replace H := H.weaken (L' := [(44, (.map l105)), (48, (.string l108))]) ⟨rfl, rfl, trivial⟩
    have h := h212 none w99 hr
    obtain ⟨_, h116, m114, rfl, h⟩ := h
    refine s_lkp H rfl rfl rfl h116 (lt_ rfl) ?_
    clear H a h116
    intro a H
    refine c_nil <| effQ.ok (v := (.i m114)) (H.weaken (L' := [(49, (.i m114))]) ⟨rfl, trivial⟩) ⟨[(0, (.agg #[(.i C100), (.i C102)])), (1, (.pointer (some a12))), (2, (.pointer (some a12))), (3, (.pointer (some (a12.add 6)))), (4, (.map l105)), (5, (.pointer (some a17))), (6, (.pointer (some a17))), (7, (.pointer (some (a17.add 2)))), (8, (.string l108)), (9, (.i m114)), (10, (.pointer (some a12))), (11, (.pointer (some a12))), (12, (.pointer (some (a12.add 3)))), (13, (.i l111))], ⟨rfl, rfl, rfl, rfl, rfl, rfl, rfl, rfl, rfl, rfl, rfl, rfl, rfl, rfl, trivial⟩, ?_⟩
    have hx := st_9 m114 w99 h
    rw [h217] at hx
    exact hx
   ·refine ⟨_, rfl, fun a H => ?_⟩
    replace H := H.weaken (L' := []) trivial
    have h := h214 none none w99 hr
    refine ww H <| al h zero_27 rfl rfl rfl fun b125 w126 n127 h => fun a H => c_nil <| effQ.ok (v := (.pointer (some (blk b125)))) (H.weaken (L' := [(10, (.pointer (some (blk b125))))]) ⟨rfl, trivial⟩) ⟨[(0, (.agg #[(.i C100), (.i C102)])), (1, (.pointer (some a12))), (2, (.pointer (some a12))), (3, (.pointer (some (a12.add 6)))), (4, (.map l105)), (5, (.pointer (some a17))), (6, (.pointer (some a17))), (7, (.pointer (some (a17.add 2)))), (8, (.string l108)), (10, (.pointer (some a12))), (11, (.pointer (some a12))), (12, (.pointer (some (a12.add 3)))), (13, (.i l111)), (18, (.pointer (some (blk b125))))], ⟨rfl, rfl, rfl, rfl, rfl, rfl, rfl, rfl, rfl, rfl, rfl, rfl, rfl, rfl, trivial⟩, ?_⟩
    have hx := st_18 b125 w126 h
    rw [h217] at hx
    exact hx
  exact st_ _ h218

theorem sim_client_operation_top (o1 : Option Addr) (w : World) (Q : Ending → World → Prop) (h : vc_client_operation_top o1 w Q) : Calls PP F_client_operation_top #[(.pointer o1)] w Q := by
 unfold vc_client_operation_top at h
 have eP {L : List (Nat × Value)} (c : List PanicEntry) (w' : World) (a : Act) (h : Q (.panicked c) w') (H : Has 11 [] a L) : bodyPost PP Tryz.f88 Q (.panic c) a w' := e_panic H h
 refine enter (n := 11) Tryz.func88 rfl rfl (le_ rfl) fun a H => sr fun K2 hK2 => ww H <| al h zero_27 rfl rfl rfl fun b3 w4 n5 h => fun a H => nk hK2 <| sr fun K6 hK6 => ww H <| al h zero_27 rfl rfl rfl fun b7 w8 n9 h => fun a H => ?_
 obtain ⟨a11, h29, h⟩ := h
 refine nk hK6 <| sr fun K10 hK10 => ww H <| mv rfl rfl <| fun a H => ?_
 revert H
 revert h
 subst h29
 intro h H
 obtain ⟨l12, hc13, h⟩ := h
 refine ww H <| nl rfl rfl <| fd rfl fld_116_6 rfl <| ld rfl one_114 hc13 rfl <| fun a H => s_mkf H rfl (H.args (vs := [(.pointer (some (blk b7)))]) rfl) (lt_ rfl) fun a H => s_call H rfl body_45 (H.args (vs := [(.pointer l12), (.func (.func F_client_operation_top_c1) #[] #[(.pointer (some (blk b7)))])]) rfl) (lt_ rfl) h ?_ (fun c w' => eP c w' _)
 clear H h a
 rintro _ w14 a ⟨rfl, h⟩ H
 obtain ⟨C16, hc17, C18, hc19, h⟩ := h
 refine nk hK10 <| sr fun K15 hK15 => ww H <| lN (l := [(.i C16), (.i C18)]) rfl agg_27 rfl ⟨hc17, hc19, trivial⟩ rfl <| sN h rfl rfl agg_27 rfl rfl fun w20 h => fun a H => nk hK15 <| c_ret ?_
 obtain ⟨C21, hc22, C23, hc24, h⟩ := h
 exact e_ret1 H rfl ⟨_, rfl, run_loadN (l := [(.i C21), (.i C23)]) agg_27 rfl ⟨hc22, hc24, trivial⟩⟩ h

theorem sim_client_Client_end (c1 : Option Addr) (s2 C3 C4 : Int) (v5 : Slc) (w : World) (Q : Ending → World → Prop) (h : vc_client_Client_end c1 s2 C3 C4 v5 w Q) : Calls PP F_client_Client_end #[(.pointer c1), (.i s2), (.agg #[(.i C3), (.i C4)]), v5.v] w Q := by
 unfold vc_client_Client_end at h
 refine enter (n := 30) Tryz.func89 rfl rfl (le_ rfl) fun a H => sr fun K6 hK6 => ww H <| bx h rfl rfl rfl rfl fun b7 w8 n9 h => al h zero_60 rfl rfl rfl fun b10 w11 n12 h => fun a H => ?_
 obtain ⟨a14, h45, h⟩ := h
 refine ww H <| ag rfl rfl <| fun a H => nk hK6 <| sr fun K13 hK13 => ww H <| mv rfl rfl <| fun a H => ?_
 revert H
 revert h
 subst h45
 intro h H
 obtain ⟨l15, hc16, h⟩ := h
 refine ww H <| nl rfl rfl <| fd rfl fld_102_5 rfl <| ld rfl one_100 hc16 rfl <| ag rfl rfl <| fun a H => nk hK13 <| sr fun K17 hK17 => ww H <| mv rfl rfl <| nl rfl rfl <| fd rfl fld_102_5 rfl <| st h rfl rfl one_100 rfl fun w18 w18S h => fun a H => nk hK17 <| c_seq fun K21 hK21 => ?_
 replace H := H.weaken (L' := [(1, (.i s2)), (3, v5.v), (6, (.pointer (some (blk b7)))), (8, (.pointer (some (blk b10)))), (9, (.bool false)), (10, (.pointer l15))]) ⟨rfl, rfl, rfl, rfl, rfl, rfl, trivial⟩
 obtain ⟨a22, h23, h⟩ := h
 revert H
 revert h
 subst h23
 intro h H
 obtain ⟨l24, hc25, l26, hc27, C28, hc29, C30, hc31, h⟩ := h
 refine c_any (V := [(0, (.pointer (some a22))), (1, (.pointer (some a22))), (2, (.pointer (some (a22.add 0)))), (3, (.i l24)), (4, (.pointer (some a22))), (5, (.pointer (some a22))), (6, (.pointer (some (a22.add 1)))), (7, (.bool l26)), (8, (.i s2)), (9, (.agg #[(.i C28), (.i C30)])), (10, v5.v), (11, (.agg #[(.i l24), (.bool l26), (.i s2), (.i C28), (.i C30), v5.v]))]) (⟨[[], [0], [1], [2], [], [4], [5], [6], [], [], [], [3, 7, 8, 9, 10], [0, 1, 2, 3, 4, 5, 6, 7, 8, 9, 10, 11], [0, 1, 2, 3, 4, 5, 6, 7, 8, 9, 10, 11, 12]], [some 18, some 19, some 20, some 21, some 22, some 23, some 24, some 25, some 26, some 27, some 28, some 29, none, some 9], [12], [0, 0, 0, 0, 0, 0, 0, 0, 0, 0, 0, 0, 0, 1], [0, 0, 0, 0, 0, 0, 0, 0, 0, 0, 0, 0, 1, 1]⟩ : Rg) [(1, (.i s2)), (3, v5.v), (6, (.pointer (some (blk b7)))), (8, (.pointer (some (blk b10)))), (9, (.bool false)), (10, (.pointer (some a22)))] mixed (by kernel_rfl) H <| Stg.eff [0, 1, 2, 3, 4, 5, 6, 7, 8, 9, 10, 11] (by kernel_rfl) rfl (.cons ?_ (.cons ?_ (.cons ?_ (.cons ?_ (.cons ?_ (.cons ?_ (.cons ?_ (.cons ?_ (.cons ?_ (.cons ?_ (.cons ?_ (.cons ?_ .nil)))))))))))) ?_
 ·exact Aw rfl rfl <| mv rfl rfl <| An rfl
 ·exact Aw rfl rfl <| nl rfl rfl <| An rfl
 ·exact Aw rfl rfl <| fd rfl fld_116_0 rfl <| An rfl
 ·exact Aw rfl rfl <| ld rfl one_2 hc25 rfl <| An rfl
 ·exact Aw rfl rfl <| mv rfl rfl <| An rfl
 ·exact Aw rfl rfl <| nl rfl rfl <| An rfl
 ·exact Aw rfl rfl <| fd rfl fld_116_1 rfl <| An rfl
 ·exact Aw rfl rfl <| ld rfl one_4 hc27 rfl <| An rfl
 ·exact Aw rfl rfl <| mv rfl rfl <| An rfl
 ·exact Aw rfl rfl <| lN (l := [(.i C28), (.i C30)]) rfl agg_27 rfl ⟨hc29, hc31, trivial⟩ rfl <| An rfl
 ·exact Aw rfl rfl <| mv rfl rfl <| An rfl
 ·exact Ans.mk rfl rfl fun a H => s_build H rfl (by rw [H.parts (vs := [(0, (.i l24)), (1, (.bool l26)), (2, (.i s2)), (3, (.agg #[(.i C28), (.i C30)])), (4, v5.v)]) rfl]; exact bd_60_ii640_b1_ii642_ii64ii643_s4 _ l24 l26 s2 C28 C30 v5) (lt_ rfl) fun a H => Ans.fin H rfl
 ·refine sN h rfl rfl agg_60 rfl rfl fun w32 h => fun a H => c_nil <| effQ.go0 [(13, (.bool true))] H rfl rfl <| Stg.fin [13] (by kernel_rfl) (.cons ?_ .nil) ?_
  ·exact Aw rfl rfl <| ag rfl rfl <| An rfl
  ·intro a H
   replace H := H.weaken (L' := [(8, (.pointer (some (blk b10)))), (9, (.bool true))]) ⟨rfl, rfl, trivial⟩
   refine hK21 _ _ <| c_ret ?_
   obtain ⟨O33, hc34, P35, hc36, S37, hc38, C39, hc40, C41, hc42, V43, hc44, h⟩ := h
   exact e_ret2 H rfl ⟨_, rfl, run_loadN (l := [(.i O33), (.bool P35), (.i S37), (.i C39), (.i C41), V43.v]) agg_60 rfl ⟨hc34, hc36, hc38, hc40, hc42, hc44, trivial⟩⟩ rfl h

theorem sim_cmp_isNaN_int64 (x1 : Int) (w : World) (Q : Ending → World → Prop) (h : vc_cmp_isNaN_int64 x1 w Q) : Calls PP F_cmp_isNaN_int64 #[(.i x1)] w Q := by
 unfold vc_cmp_isNaN_int64 at h
 exact enter (n := 6) Tryz.func91 rfl rfl (le_ rfl) fun a H => sr fun K2 hK2 => ww H <| ag rfl rfl <| fun a H => nk hK2 <| sr fun K3 hK3 => ww H <| mv rfl rfl <| mv rfl rfl <| bn rfl rfl r_neq rfl <| ag rfl rfl <| fun a H => nk hK3 <| c_ret <| e_ret1 H rfl rfl h

theorem sim_cmp_isNaN_int (x1 : Int) (w : World) (Q : Ending → World → Prop) (h : vc_cmp_isNaN_int x1 w Q) : Calls PP F_cmp_isNaN_int #[(.i x1)] w Q := by
 unfold vc_cmp_isNaN_int at h
 exact enter (n := 6) Tryz.func92 rfl rfl (le_ rfl) fun a H => sr fun K2 hK2 => ww H <| ag rfl rfl <| fun a H => nk hK2 <| sr fun K3 hK3 => ww H <| mv rfl rfl <| mv rfl rfl <| bn rfl rfl r_neq rfl <| ag rfl rfl <| fun a H => nk hK3 <| c_ret <| e_ret1 H rfl rfl h

end Go.Proofs.YtabifopphhpciaaGreatDoor

namespace Go.Proofs.YtabifopphhpciaaGreatDoor
open Go Go.Vc
set_option maxRecDepth 100000
set_option maxHeartbeats 4000000
theorem sim_matrix_sized (f1 : Option Addr) (r2 c3 : Int) (w : World) (Q : Ending → World → Prop) (h : vc_matrix_sized f1 r2 c3 w Q) : Calls PP F_matrix_sized #[(.pointer f1), (.i r2), (.i c3)] w Q := by
 unfold vc_matrix_sized at h
 refine enter (n := 24) Tryz.func105 rfl rfl (le_ rfl) fun a H => sr fun K4 hK4 => ww H <| ag rfl rfl <| fun a H => nk hK4 <| c_seq fun K5 hK5 => c_block <| sr fun K6 hK6 => ww H <| mv rfl rfl <| bn rfl rfl (r_eqP0 ptr_103) rfl <| ag rfl rfl <| fun a H => nk hK6 <| cd H rfl h (fun h7 h => ?_) (fun h7 h => ?_)
 ·exact sr fun K8 hK8 => ww H <| ag rfl rfl <| fun a H => nk hK8 <| c_ret <| e_ret1 H rfl rfl h
 ·refine sr fun K9 hK9 => ww H <| mv rfl rfl <| bn rfl rfl r_lss rfl <| mv rfl rfl <| fun a H => g_join (n := 24) [(16, (.bool ((decide (r2 < 1)) || (decide (c3 < 1))))), (1, (.i r2)), (2, (.i c3))] (.succ (.succ (.succ (.zero _)))) ?_ ?_
  ·intro h11
   try clear h
   rcases Bool.eq_false_or_eq_true (decide (r2 < 1)) with h10 | h10
   ·replace H := H.ch (t := 13) (b := true) rfl h10
    exact ww H <| sk rfl rfl rfl rfl <| sk rfl rfl rfl rfl <| pT rfl rfl rfl <| fun a H => h11 _ (H.weaken ⟨by rw [h10]; rfl, rfl, rfl, trivial⟩)
   ·replace H := H.ch (t := 13) (b := false) rfl h10
    exact ww H <| gmv rfl rfl rfl rfl <| gbn rfl rfl rfl rfl r_lss rfl <| pF rfl rfl rfl <| fun a H => h11 _ (H.weaken ⟨by rw [h10]; rfl, rfl, rfl, trivial⟩)
  ·clear H a
   intro a H
   refine ww H <| ag rfl rfl <| fun a H => nk hK9 <| cd H rfl h (fun h12 h => ?_) (fun h12 h => ?_)
   ·exact sr fun K13 hK13 => ww H <| ag rfl rfl <| fun a H => nk hK13 <| c_ret <| e_ret1 H rfl rfl h
   ·refine sr fun K14 hK14 => ww H <| mv rfl rfl <| bn rfl rfl r_gtr rfl <| mv rfl rfl <| fun a H => g_join (n := 24) [(23, (.bool ((decide (256 < r2)) || (decide (256 < c3)))))] (.succ (.succ (.succ (.zero _)))) ?_ ?_
    ·intro h16
     try clear h
     rcases Bool.eq_false_or_eq_true (decide (256 < r2)) with h15 | h15
     ·replace H := H.ch (t := 20) (b := true) rfl h15
      exact ww H <| sk rfl rfl rfl rfl <| sk rfl rfl rfl rfl <| pT rfl rfl rfl <| fun a H => h16 _ (H.weaken ⟨by rw [h15]; rfl, trivial⟩)
     ·replace H := H.ch (t := 20) (b := false) rfl h15
      exact ww H <| gmv rfl rfl rfl rfl <| gbn rfl rfl rfl rfl r_gtr rfl <| pF rfl rfl rfl <| fun a H => h16 _ (H.weaken ⟨by rw [h15]; rfl, trivial⟩)
    ·clear H a
     intro a H
     refine ww H <| ag rfl rfl <| fun a H => nk hK14 <| cd H rfl h (fun h17 h => ?_) (fun h17 h => ?_)
     ·exact sr fun K18 hK18 => ww H <| ag rfl rfl <| fun a H => nk hK18 <| c_ret <| e_ret1 H rfl rfl h
     ·exact c_skip <| hK5 _ _ <| sr fun K19 hK19 => ww H <| ag rfl rfl <| fun a H => nk hK19 <| c_ret <| e_ret1 H rfl rfl h

theorem sim_matrix_blank (f1 : Option Addr) (r2 c3 : Int) (w : World) (Q : Ending → World → Prop) (h : vc_matrix_blank f1 r2 c3 w Q) : Calls PP F_matrix_blank #[(.pointer f1), (.i r2), (.i c3)] w Q := by
 unfold vc_matrix_blank at h
 refine enter (n := 32) Tryz.func106 rfl rfl (le_ rfl) fun a H => ?_
 obtain ⟨s6, w7, h8, h⟩ := h
 refine sr fun K4 hK4 => ww H <| ag rfl rfl <| fun a H => nk hK4 <| sr fun K5 hK5 => ww H <| mv rfl rfl <| mv rfl rfl <| fun a H => s_mk H rfl rfl rfl h8 (lt_ rfl) ?_
 clear H a h8
 intro a H
 refine s_build H rfl (by rw [H.parts (vs := [(0, (.pointer f1)), (1, s6.v)]) rfl]; exact bd_194_p0_s1 _ f1 s6) (lt_ rfl) fun a H => ww H <| bx h rfl rfl rfl rfl fun b9 w10 n11 h => ag rfl rfl <| fun a H => nk hK5 <| c_seq fun K12 hK12 => sr fun K13 hK13 => ww H <| mv rfl rfl <| nl rfl rfl <| fd rfl fld_194_1 rfl <| fun a H => s_load (v := s6.v) H rfl rfl one_22 (n11.cell (i := 1) rfl) (lt_ rfl) fun a H => ww H <| bl (vs := [s6.v]) rfl rfl (fun cs => b_lenS (z := s6) sl_22) <| mv rfl rfl <| fun a H => nk hK13 <| c_block ?_
 obtain ⟨I16, m17, h37, h38⟩ := h
 refine c_loop (σ := Int) (fun z w => I16 z w) (fun z w => m17 z w) (fun z => [(2, (.i c3)), (7, (.pointer (some (blk b9)))), (18, (.i (s6.l : Int))), (19, (.i z))]) 0 h37 (H.weaken ⟨rfl, rfl, rfl, rfl, trivial⟩) ?_
 clear H h37
 rintro s14 a w15 h H
 replace h := h38 s14 w15 h
 clear h38
 replace H : Has 32 [] a [(2, (.i c3)), (7, (.pointer (some (blk b9)))), (18, (.i (s6.l : Int))), (19, (.i s14))] := H
 refine sr fun K18 hK18 => ww H <| bn rfl rfl r_lss rfl <| fun a H => nk hK18 <| c_seq fun K19 hK19 => cd H rfl h (fun h20 h => ?_) (fun h20 h => ?_)
 ·refine c_skip <| hK19 _ _ <| c_seq fun K21 hK21 => c_block <| sr fun K22 hK22 => ww H <| mv rfl rfl <| ag rfl rfl <| fun a H => nk hK22 <| ?_
  replace H := H.weaken (L' := [(2, (.i c3)), (7, (.pointer (some (blk b9)))), (8, (.i s14)), (18, (.i (s6.l : Int))), (19, (.i s14))]) ⟨rfl, rfl, rfl, rfl, rfl, trivial⟩
  obtain ⟨l23, hc24, h⟩ := h
  refine c_any (V := [(0, (.pointer (some (blk b9)))), (1, (.pointer (some (blk b9)))), (2, (.pointer (some ((blk b9).add 1)))), (3, l23.v), (4, (.i s14)), (5, (.i c3))]) (⟨[[], [0], [1], [2], [], [], [5], [0, 1, 2, 3, 4, 5, 6], [0, 1, 2, 3, 4, 5, 6, 7]], [some 22, some 23, some 24, some 25, some 26, some 27, some 28, some 29, none], [6, 8], [0, 0, 0, 0, 0, 0, 0, 1, 1], [1, 1, 1, 1, 1, 0, 1, 1, 2]⟩ : Rg) [(2, (.i c3)), (7, (.pointer (some (blk b9)))), (8, (.i s14)), (18, (.i (s6.l : Int))), (19, (.i s14))] mixed (by kernel_rfl) H <| Stg.eff [0, 1, 2, 3, 4, 5] (by kernel_rfl) rfl (.cons ?_ (.cons ?_ (.cons ?_ (.cons ?_ (.cons ?_ (.cons ?_ .nil)))))) ?_
  ·exact Aw rfl rfl <| mv rfl rfl <| An rfl
  ·exact Aw rfl rfl <| nl rfl rfl <| An rfl
  ·exact Aw rfl rfl <| fd rfl fld_194_1 rfl <| An rfl
  ·exact Aw rfl rfl <| ld rfl one_22 hc24 rfl <| An rfl
  ·exact Aw rfl rfl <| mv rfl rfl <| An rfl
  ·exact Aw rfl rfl <| mv rfl rfl <| An rfl
  ·intro a H
   replace H := H.weaken (L' := [(27, (.i c3))]) ⟨rfl, trivial⟩
   obtain ⟨s25, w26, h27, h⟩ := h
   refine s_mk H rfl rfl rfl h27 (lt_ rfl) ?_
   clear H a h27
   intro a H
   obtain ⟨hc28, a29, h30, h31, h32, h⟩ := h
   refine c_nil <| effQ.go [(7, (.pointer (some (a29.add (Int.toNat (s14) * 1)))))] H rfl rfl <| Stg.eff [0, 1, 2, 3, 4, 7] (by kernel_rfl) rfl (.cons ?_ (.cons ?_ (.cons ?_ (.cons ?_ (.cons ?_ (.cons ?_ .nil)))))) ?_
   ·exact Aw rfl rfl <| mv rfl rfl <| An rfl
   ·exact Aw rfl rfl <| nl rfl rfl <| An rfl
   ·exact Aw rfl rfl <| fd rfl fld_194_1 rfl <| An rfl
   ·exact Aw rfl rfl <| ld rfl one_22 hc28 rfl <| An rfl
   ·exact Aw rfl rfl <| mv rfl rfl <| An rfl
   ·exact Ans.mk rfl rfl fun a H => s_idxS (s := l23) H rfl rfl rfl slc_22 h30 h31 h32 (lt_ rfl) fun a H => Ans.fin H rfl
   ·refine st h rfl rfl one_49 rfl fun w33 w33S h => fun a H => c_nil <| effQ.go0 [] H rfl rfl <| Stg.fin [] (by kernel_rfl) .nil ?_
    ·intro a H
     replace H := H.weaken (L' := [(2, (.i c3)), (7, (.pointer (some (blk b9)))), (18, (.i (s6.l : Int))), (19, (.i s14))]) ⟨rfl, rfl, rfl, rfl, trivial⟩
     refine hK21 _ _ <| c_reg <| ww H <| bn rfl rfl r_add rfl <| mv rfl rfl <| fun a H => c_nil <| Exists.intro (wr .i64 (s14 + 1)) ⟨h.1, h.2, H.weaken ⟨rfl, rfl, rfl, rfl, trivial⟩⟩
 ·refine c_exit ?_
  first | (simp only [Exit.then, Exit.inBlock, ↓reduceIte]; fail_if_success simp only [Nat.reduceEqDiff]) | simp only [Exit.then, Exit.inBlock, ↓reduceIte, Nat.reduceEqDiff]
  exact hK12 _ _ <| sr fun K36 hK36 => ww H <| mv rfl rfl <| ag rfl rfl <| fun a H => nk hK36 <| c_ret <| e_ret1 H rfl rfl h

theorem sim_gf_Field_Mul (f1 : Option Addr) (a2 b3 : Int) (w : World) (Q : Ending → World → Prop) (h : vc_gf_Field_Mul f1 a2 b3 w Q) : Calls PP F_gf_Field_Mul #[(.pointer f1), (.int .u8 a2), (.int .u8 b3)] w Q := by
 unfold vc_gf_Field_Mul at h
 refine enter (n := 35) Tryz.func107 rfl rfl (le_ rfl) fun a H => sr fun K4 hK4 => ww H <| ag rfl rfl <| fun a H => nk hK4 <| c_seq fun K5 hK5 => sr fun K6 hK6 => ww H <| mv rfl rfl <| bn rfl rfl (r_eqP0 ptr_103) rfl <| mv rfl rfl <| fun a H => g_join (n := 35) [(12, (.bool (f1.isNone || (decide (a2 = 0))))), (0, (.pointer f1)), (1, (.int .u8 a2)), (2, (.int .u8 b3))] (.succ (.succ (.succ (.zero _)))) ?_ ?_
 ·intro h8
  try clear h
  rcases Bool.eq_false_or_eq_true f1.isNone with h7 | h7
  ·replace H := H.ch (t := 9) (b := true) rfl h7
   exact ww H <| sk rfl rfl rfl rfl <| sk rfl rfl rfl rfl <| pT rfl rfl rfl <| fun a H => h8 _ (H.weaken ⟨by rw [h7]; rfl, rfl, rfl, rfl, trivial⟩)
  ·replace H := H.ch (t := 9) (b := false) rfl h7
   exact ww H <| gmv rfl rfl rfl rfl <| gbn rfl rfl rfl rfl r_eql rfl <| pF rfl rfl rfl <| fun a H => h8 _ (H.weaken ⟨by rw [h7]; rfl, rfl, rfl, rfl, trivial⟩)
 ·clear H a
  intro a H
  refine ww H <| mv rfl rfl <| fun a H => g_join (n := 35) [(16, (.bool ((f1.isNone || (decide (a2 = 0))) || (decide (b3 = 0))))), (0, (.pointer f1)), (1, (.int .u8 a2)), (2, (.int .u8 b3))] (.succ (.succ (.succ (.zero _)))) ?_ ?_
  ·intro h10
   try clear h
   rcases Bool.eq_false_or_eq_true (f1.isNone || (decide (a2 = 0))) with h9 | h9
   ·replace H := H.ch (t := 13) (b := true) rfl h9
    exact ww H <| sk rfl rfl rfl rfl <| sk rfl rfl rfl rfl <| pT rfl rfl rfl <| fun a H => h10 _ (H.weaken ⟨by rw [h9]; rfl, rfl, rfl, rfl, trivial⟩)
   ·replace H := H.ch (t := 13) (b := false) rfl h9
    exact ww H <| gmv rfl rfl rfl rfl <| gbn rfl rfl rfl rfl r_eql rfl <| pF rfl rfl rfl <| fun a H => h10 _ (H.weaken ⟨by rw [h9]; rfl, rfl, rfl, rfl, trivial⟩)
  ·clear H a
   intro a H
   refine nk hK6 <| cd H rfl h (fun h11 h => ?_) (fun h11 h => ?_)
   ·exact sr fun K12 hK12 => ww H <| ag rfl rfl <| fun a H => nk hK12 <| c_ret <| e_ret1 H rfl rfl h
   ·refine c_skip <| hK5 _ _ <| c_seq fun K13 hK13 => c_regD mixed (by kernel_rfl) ?_
    iterate 3 refine z_move H rfl rfl (lt_ rfl) fun a H => ?_
    obtain ⟨a15, h28, h⟩ := h
    revert H
    revert h
    subst h28
    intro h H
    refine z_nil H rfl rfl (lt_ rfl) fun a H => z_fld H rfl rfl fld_190_2 (lt_ rfl) fun a H => ?_
    obtain ⟨h16, h17, h⟩ := h
    refine z_idxA H rfl rfl rfl arr_188 h16 h17 (lt_ rfl) fun a H => ?_
    obtain ⟨l18, hc19, h⟩ := h
    refine z_load (v := (.i l18)) H rfl rfl one_3 hc19 (lt_ rfl) fun a H => z_move H rfl rfl (lt_ rfl) fun a H => z_move H rfl rfl (lt_ rfl) fun a H => z_nil H rfl rfl (lt_ rfl) fun a H => z_fld H rfl rfl fld_190_2 (lt_ rfl) fun a H => ?_
    obtain ⟨h20, h21, h⟩ := h
    refine z_idxA H rfl rfl rfl arr_188 h20 h21 (lt_ rfl) fun a H => ?_
    obtain ⟨l22, hc23, h⟩ := h
    refine z_load (v := (.i l22)) H rfl rfl one_3 hc23 (lt_ rfl) fun a H => z_bin H rfl rfl rfl r_add (lt_ rfl) fun a H => z_nil H rfl rfl (lt_ rfl) fun a H => z_fld H rfl rfl fld_190_1 (lt_ rfl) fun a H => ?_
    obtain ⟨h24, h25, h⟩ := h
    refine z_idxA H rfl rfl rfl arr_187 h24 h25 (lt_ rfl) fun a H => ?_
    obtain ⟨l26, hc27, h⟩ := h
    refine z_load (v := (.int .u8 l26)) H rfl rfl one_5 hc27 (lt_ rfl) fun a H => z_assign H rfl rfl (lt_ rfl) fun a H => wpQuiet_nil ?_
    rintro _ ⟨k14, rfl⟩
    replace h := h k14
    exact hK13 _ _ <| c_ret <| e_ret1 H rfl rfl h

theorem sim_matrix_eliminate (f1 : Option Addr) (r2 : Slc) (c3 : Int) (w : World) (Q : Ending → World → Prop) (h : vc_matrix_eliminate f1 r2 c3 w Q) : Calls PP F_matrix_eliminate #[(.pointer f1), r2.v, (.i c3)] w Q := by
 unfold vc_matrix_eliminate at h
 have eP {L : List (Nat × Value)} (c : List PanicEntry) (w' : World) (a : Act) (h : Q (.panicked c) w') (H : Has 87 [] a L) : bodyPost PP Tryz.f108 Q (.panic c) a w' := e_panic H h
 refine enter (n := 87) Tryz.func108 rfl rfl (le_ rfl) fun a H => sr fun K4 hK4 => ww H <| bx h rfl rfl rfl rfl fun b5 w6 n7 h => bx h rfl rfl rfl rfl fun b8 w9 n10 h => ag rfl rfl <| fun a H => nk hK4 <| c_scope <| sr fun K11 hK11 => ww H <| ag rfl rfl <| fun a H => nk hK11 <| sr fun K12 hK12 => s_mkf H rfl (H.args (vs := [(.pointer (some (blk b8)))]) rfl) (lt_ rfl) fun a H => ww H <| ag rfl rfl <| fun a H => nk hK12 <| sr fun K13 hK13 => s_mkf H rfl (H.args (vs := [(.pointer (some (blk b5))), (.pointer (some (blk b8)))]) rfl) (lt_ rfl) fun a H => ww H <| ag rfl rfl <| fun a H => nk hK13 <| sr fun K14 hK14 => s_mkf H rfl (H.args (vs := [(.pointer (some (blk b8))), (.pointer (some (blk b5)))]) rfl) (lt_ rfl) fun a H => ww H <| ag rfl rfl <| fun a H => nk hK14 <| c_seq fun K15 hK15 => c_label <| hK15 _ _ <| c_seq fun K16 hK16 => sr fun K17 hK17 => ww H <| mv rfl rfl <| mv rfl rfl <| fun a H => nk hK17 <| c_block ?_
 obtain ⟨I21, m22, h144, h145⟩ := h
 refine c_loop (σ := Slc × Int) (fun z w => I21 z.1 z.2 w) (fun z w => m22 z.1 z.2 w) (fun z => [(3, (.pointer (some (blk b5)))), (4, (.pointer (some (blk b8)))), (7, z.1.v), (8, (.func (.func F_matrix_eliminate_c1) #[] #[(.pointer (some (blk b8)))])), (9, (.func (.func F_matrix_eliminate_c2) #[] #[(.pointer (some (blk b5))), (.pointer (some (blk b8)))])), (10, (.func (.func F_matrix_eliminate_c3) #[] #[(.pointer (some (blk b8))), (.pointer (some (blk b5)))])), (20, (.i c3)), (21, (.i z.2))]) (Slc.nil, 0) h144 (H.weaken ⟨rfl, rfl, rfl, rfl, rfl, rfl, rfl, rfl, trivial⟩) ?_
 clear H h144
 rintro ⟨p18, s19⟩ a w20 h H
 replace h := h145 p18 s19 w20 h
 clear h145
 replace H : Has 87 [] a [(3, (.pointer (some (blk b5)))), (4, (.pointer (some (blk b8)))), (7, p18.v), (8, (.func (.func F_matrix_eliminate_c1) #[] #[(.pointer (some (blk b8)))])), (9, (.func (.func F_matrix_eliminate_c2) #[] #[(.pointer (some (blk b5))), (.pointer (some (blk b8)))])), (10, (.func (.func F_matrix_eliminate_c3) #[] #[(.pointer (some (blk b8))), (.pointer (some (blk b5)))])), (20, (.i c3)), (21, (.i s19))] := H
 refine sr fun K23 hK23 => ww H <| bn rfl rfl r_lss rfl <| fun a H => nk hK23 <| c_seq fun K24 hK24 => cd H rfl h (fun h25 h => ?_) (fun h25 h => ?_)
 ·refine c_skip <| hK24 _ _ <| c_seq fun K26 hK26 => ?_
  obtain ⟨R28, h, h142⟩ := h
  have h30 : ∀ (a : Act) (p27 : Slc) (w29 : World), R28 p27 w29 → Has 87 [] a [(3, (.pointer (some (blk b5)))), (4, (.pointer (some (blk b8)))), (7, p27.v), (8, (.func (.func F_matrix_eliminate_c1) #[] #[(.pointer (some (blk b8)))])), (9, (.func (.func F_matrix_eliminate_c2) #[] #[(.pointer (some (blk b5))), (.pointer (some (blk b8)))])), (10, (.func (.func F_matrix_eliminate_c3) #[] #[(.pointer (some (blk b8))), (.pointer (some (blk b5)))])), (20, (.i c3)), (21, (.i s19))] → K26 a w29 := by
   clear h
   intro a p27 w29 h H
   replace h := h142 p27 w29 h
   refine hK26 _ _ <| c_reg <| ww H <| bn rfl rfl r_add rfl <| mv rfl rfl <| fun a H => c_nil <| Exists.intro (p27, wr .i64 (s19 + 1)) ⟨h.1, h.2, H.weaken ⟨rfl, rfl, rfl, rfl, rfl, rfl, rfl, rfl, trivial⟩⟩
  clear h142
  refine c_block <| sr fun K31 hK31 => ww H <| mv rfl rfl <| ag rfl rfl <| fun a H => nk hK31 <| sr fun K32 hK32 => ww H <| mv rfl rfl <| bl (vs := [p18.v]) rfl rfl (fun cs => b_lenS (z := p18) sl_23) <| ag rfl rfl <| fun a H => nk hK32 <| c_seq fun K33 hK33 => sr fun K34 hK34 => ww H <| mv rfl rfl <| ag rfl rfl <| fun a H => nk hK34 <| c_block ?_
  obtain ⟨I37, m38, h140, h141⟩ := h
  refine c_loop (σ := Int) (fun z w => I37 z w) (fun z w => m38 z w) (fun z => [(3, (.pointer (some (blk b5)))), (4, (.pointer (some (blk b8)))), (7, p18.v), (8, (.func (.func F_matrix_eliminate_c1) #[] #[(.pointer (some (blk b8)))])), (9, (.func (.func F_matrix_eliminate_c2) #[] #[(.pointer (some (blk b5))), (.pointer (some (blk b8)))])), (10, (.func (.func F_matrix_eliminate_c3) #[] #[(.pointer (some (blk b8))), (.pointer (some (blk b5)))])), (11, (.i s19)), (12, (.i (p18.l : Int))), (13, (.i z)), (20, (.i c3)), (21, (.i s19))]) (p18.l : Int) h140 (H.weaken ⟨rfl, rfl, rfl, rfl, rfl, rfl, rfl, rfl, rfl, rfl, rfl, trivial⟩) ?_
  clear H h140
  rintro i35 a w36 h H
  replace h := h141 i35 w36 h
  clear h141
  replace H : Has 87 [] a [(3, (.pointer (some (blk b5)))), (4, (.pointer (some (blk b8)))), (7, p18.v), (8, (.func (.func F_matrix_eliminate_c1) #[] #[(.pointer (some (blk b8)))])), (9, (.func (.func F_matrix_eliminate_c2) #[] #[(.pointer (some (blk b5))), (.pointer (some (blk b8)))])), (10, (.func (.func F_matrix_eliminate_c3) #[] #[(.pointer (some (blk b8))), (.pointer (some (blk b5)))])), (11, (.i s19)), (12, (.i (p18.l : Int))), (13, (.i i35)), (20, (.i c3)), (21, (.i s19))] := H
  obtain ⟨l42, hc43, h⟩ := h
  refine c_seq fun K39 hK39 => c_block <| c_seq fun K40 hK40 => sr fun K41 hK41 => ww H <| mv rfl rfl <| ld rfl one_22 hc43 rfl <| bl (vs := [l42.v]) rfl rfl (fun cs => b_lenS (z := l42) sl_22) <| bn rfl rfl r_geq rfl <| fun a H => nk hK41 <| cd H rfl h (fun h44 h => ?_) (fun h44 h => ?_)
  ·refine c_exit ?_
   first | (simp only [Exit.then, Exit.inBlock, ↓reduceIte]; fail_if_success simp only [Nat.reduceEqDiff]) | simp only [Exit.then, Exit.inBlock, ↓reduceIte, Nat.reduceEqDiff]
   exact h30 _ _ _ h (H.weaken ⟨rfl, rfl, rfl, rfl, rfl, rfl, rfl, rfl, trivial⟩)
  ·obtain ⟨l46, hc47, a48, h49, h50, h51, h⟩ := h
   refine c_skip <| hK40 _ _ <| sr fun K45 hK45 => ww H <| ld rfl one_22 hc47 rfl <| mv rfl rfl <| fun a H => s_idxS (s := l46) H rfl rfl rfl slc_22 h49 h50 h51 (lt_ rfl) fun a H => ?_
   obtain ⟨l52, hc53, a54, h55, h56, h57, h⟩ := h
   refine ww H <| ld rfl one_49 hc53 rfl <| mv rfl rfl <| fun a H => s_idxS (s := l52) H rfl rfl rfl slc_49 h55 h56 h57 (lt_ rfl) fun a H => ?_
   obtain ⟨l58, hc59, h⟩ := h
   refine ww H <| ld rfl one_5 hc59 rfl <| bn rfl rfl r_neq rfl <| fun a H => nk hK45 <| cd H rfl h (fun h60 h => ?_) (fun h60 h => ?_)
   ·refine sr fun K61 hK61 => ww H <| mv rfl rfl <| mv rfl rfl <| mv rfl rfl <| fun a H => s_callV H rfl rfl (H.args (vs := [(.i (p18.l : Int)), (.i i35)]) rfl) (lt_ rfl) ⟨_, _, rfl, body_143, h⟩ ?_ (fun c w' => eP c w' _)
    clear H h a
    rintro _ w62 a ⟨rfl, h⟩ H
    refine nk hK61 <| c_exit ?_
    first | (simp only [Exit.then, Exit.inBlock, ↓reduceIte]; fail_if_success simp only [Nat.reduceEqDiff]) | simp only [Exit.then, Exit.inBlock, ↓reduceIte, Nat.reduceEqDiff]
    refine hK33 _ _ <| c_seq fun K63 hK63 => ?_
    replace H := H.weaken (L' := [(3, (.pointer (some (blk b5)))), (4, (.pointer (some (blk b8)))), (7, p18.v), (8, (.func (.func F_matrix_eliminate_c1) #[] #[(.pointer (some (blk b8)))])), (9, (.func (.func F_matrix_eliminate_c2) #[] #[(.pointer (some (blk b5))), (.pointer (some (blk b8)))])), (10, (.func (.func F_matrix_eliminate_c3) #[] #[(.pointer (some (blk b8))), (.pointer (some (blk b5)))])), (11, (.i s19)), (12, (.i (p18.l : Int))), (20, (.i c3)), (21, (.i s19))]) ⟨rfl, rfl, rfl, rfl, rfl, rfl, rfl, rfl, rfl, rfl, trivial⟩
    obtain ⟨l64, hc65, l66, hc67, a68, h69, h70, h71, l72, hc73, a74, h75, h76, h77, l78, hc79, h⟩ := h
    refine c_any (V := [(0, (.pointer l64)), (1, l66.v), (2, (.i (p18.l : Int))), (3, (.pointer (some (a68.add (Int.toNat ((p18.l : Int)) * 1))))), (4, l72.v), (5, (.i s19)), (6, (.pointer (some (a74.add (Int.toNat (s19) * 1))))), (7, (.int .u8 l78))]) (⟨[[], [], [], [1, 2], [3], [], [4, 5], [6], [0, 7], [8], [9], [9], [0, 1, 2, 3, 4, 5, 6, 7, 8, 9, 10], [0, 1, 2, 3, 4, 5, 6, 7, 8, 9, 10, 11, 12]], [some 46, some 47, some 48, some 49, some 50, some 51, some 52, some 53, some 54, some 45, some 55, some 56, some 14, some 15], [8], [0, 0, 0, 0, 0, 0, 0, 0, 0, 1, 1, 1, 1, 1], [0, 0, 0, 0, 0, 0, 0, 0, 1, 1, 1, 1, 1, 1]⟩ : Rg) [(3, (.pointer (some (blk b5)))), (4, (.pointer (some (blk b8)))), (7, p18.v), (8, (.func (.func F_matrix_eliminate_c1) #[] #[(.pointer (some (blk b8)))])), (9, (.func (.func F_matrix_eliminate_c2) #[] #[(.pointer (some (blk b5))), (.pointer (some (blk b8)))])), (10, (.func (.func F_matrix_eliminate_c3) #[] #[(.pointer (some (blk b8))), (.pointer (some (blk b5)))])), (11, (.i s19)), (12, (.i (p18.l : Int))), (20, (.i c3)), (21, (.i s19))] mixed (by kernel_rfl) H ?_
    refine Stg.eff [0, 1, 2, 3, 4, 5, 6, 7] (by kernel_rfl) rfl (.cons ?_ (.cons ?_ (.cons ?_ (.cons ?_ (.cons ?_ (.cons ?_ (.cons ?_ (.cons ?_ .nil)))))))) ?_
    ·exact Aw rfl rfl <| ld rfl one_103 hc65 rfl <| An rfl
    ·exact Aw rfl rfl <| ld rfl one_22 hc67 rfl <| An rfl
    ·exact Aw rfl rfl <| mv rfl rfl <| An rfl
    ·exact Ans.mk rfl rfl fun a H => s_idxS (s := l66) H rfl rfl rfl slc_22 h69 h70 h71 (lt_ rfl) fun a H => Ans.fin H rfl
    ·exact Aw rfl rfl <| ld rfl one_49 hc73 rfl <| An rfl
    ·exact Aw rfl rfl <| mv rfl rfl <| An rfl
    ·exact Ans.mk rfl rfl fun a H => s_idxS (s := l72) H rfl rfl rfl slc_49 h75 h76 h77 (lt_ rfl) fun a H => Ans.fin H rfl
    ·exact Aw rfl rfl <| ld rfl one_5 hc79 rfl <| An rfl
    ·refine cl2 h body_146 rfl rfl eP fun I81 I82 w80 h => fun a H => c_nil <| effQ.go [(9, (.tuple #[(.int .u8 I81), (.i I82)])), (10, (.int .u8 I81)), (11, (.i I82)), (12, (.int .u8 I81)), (13, (.i I82))] H rfl rfl <| Stg.fin [9, 10, 11, 12, 13] (by kernel_rfl) (.cons ?_ (.cons ?_ (.cons ?_ (.cons ?_ (.cons ?_ .nil))))) ?_
     ·exact Aw rfl rfl <| mv rfl rfl <| An rfl
     ·exact Aw rfl rfl <| ex rfl rfl rfl <| An rfl
     ·exact Aw rfl rfl <| ex rfl rfl rfl <| An rfl
     ·exact Aw rfl rfl <| ag rfl rfl <| An rfl
     ·exact Aw rfl rfl <| ag rfl rfl <| An rfl
     ·intro a H
      replace H := H.weaken (L' := [(3, (.pointer (some (blk b5)))), (4, (.pointer (some (blk b8)))), (7, p18.v), (8, (.func (.func F_matrix_eliminate_c1) #[] #[(.pointer (some (blk b8)))])), (9, (.func (.func F_matrix_eliminate_c2) #[] #[(.pointer (some (blk b5))), (.pointer (some (blk b8)))])), (10, (.func (.func F_matrix_eliminate_c3) #[] #[(.pointer (some (blk b8))), (.pointer (some (blk b5)))])), (11, (.i s19)), (12, (.i (p18.l : Int))), (14, (.int .u8 I81)), (20, (.i c3)), (21, (.i s19))]) ⟨rfl, rfl, rfl, rfl, rfl, rfl, rfl, rfl, rfl, rfl, rfl, trivial⟩
      refine hK63 _ _ <| sr fun K83 hK83 => ww H <| mv rfl rfl <| mv rfl rfl <| mv rfl rfl <| fun a H => s_callV H rfl rfl (H.args (vs := [(.i (p18.l : Int)), (.int .u8 I81)]) rfl) (lt_ rfl) ⟨_, _, rfl, body_145, h⟩ ?_ (fun c w' => eP c w' _)
      clear H h a
      rintro _ w84 a ⟨rfl, h⟩ H
      obtain ⟨l87, hc88, h⟩ := h
      refine nk hK83 <| c_seq fun K85 hK85 => sr fun K86 hK86 => ww H <| ld rfl one_22 hc88 rfl <| bl (vs := [l87.v]) rfl rfl (fun cs => b_lenS (z := l87) sl_22) <| mv rfl rfl <| fun a H => nk hK86 <| c_block ?_
      obtain ⟨I91, m92, h128, h129⟩ := h
      refine c_loop (σ := Int) (fun z w => I91 z w) (fun z w => m92 z w) (fun z => [(3, (.pointer (some (blk b5)))), (4, (.pointer (some (blk b8)))), (7, p18.v), (8, (.func (.func F_matrix_eliminate_c1) #[] #[(.pointer (some (blk b8)))])), (9, (.func (.func F_matrix_eliminate_c2) #[] #[(.pointer (some (blk b5))), (.pointer (some (blk b8)))])), (10, (.func (.func F_matrix_eliminate_c3) #[] #[(.pointer (some (blk b8))), (.pointer (some (blk b5)))])), (11, (.i s19)), (12, (.i (p18.l : Int))), (20, (.i c3)), (21, (.i s19)), (62, (.i (l87.l : Int))), (63, (.i z))]) 0 h128 (H.weaken ⟨rfl, rfl, rfl, rfl, rfl, rfl, rfl, rfl, rfl, rfl, rfl, rfl, trivial⟩) ?_
      clear H h128
      rintro s89 a w90 h H
      replace h := h129 s89 w90 h
      clear h129
      replace H : Has 87 [] a [(3, (.pointer (some (blk b5)))), (4, (.pointer (some (blk b8)))), (7, p18.v), (8, (.func (.func F_matrix_eliminate_c1) #[] #[(.pointer (some (blk b8)))])), (9, (.func (.func F_matrix_eliminate_c2) #[] #[(.pointer (some (blk b5))), (.pointer (some (blk b8)))])), (10, (.func (.func F_matrix_eliminate_c3) #[] #[(.pointer (some (blk b8))), (.pointer (some (blk b5)))])), (11, (.i s19)), (12, (.i (p18.l : Int))), (20, (.i c3)), (21, (.i s19)), (62, (.i (l87.l : Int))), (63, (.i s89))] := H
      refine sr fun K93 hK93 => ww H <| bn rfl rfl r_lss rfl <| fun a H => nk hK93 <| c_seq fun K94 hK94 => cd H rfl h (fun h95 h => ?_) (fun h95 h => ?_)
      ·refine c_skip <| hK94 _ _ <| c_seq fun K96 hK96 => ?_
       obtain ⟨R97, h, h121⟩ := h
       have h99 : ∀ (a : Act) (w98 : World), R97 w98 → Has 87 [] a [(3, (.pointer (some (blk b5)))), (4, (.pointer (some (blk b8)))), (7, p18.v), (8, (.func (.func F_matrix_eliminate_c1) #[] #[(.pointer (some (blk b8)))])), (9, (.func (.func F_matrix_eliminate_c2) #[] #[(.pointer (some (blk b5))), (.pointer (some (blk b8)))])), (10, (.func (.func F_matrix_eliminate_c3) #[] #[(.pointer (some (blk b8))), (.pointer (some (blk b5)))])), (11, (.i s19)), (12, (.i (p18.l : Int))), (20, (.i c3)), (21, (.i s19)), (62, (.i (l87.l : Int))), (63, (.i s89))] → K96 a w98 := by
        clear h
        intro a w98 h H
        replace h := h121 w98 h
        refine hK96 _ _ <| c_reg <| ww H <| bn rfl rfl r_add rfl <| mv rfl rfl <| fun a H => c_nil <| Exists.intro (wr .i64 (s89 + 1)) ⟨h.1, h.2, H.weaken ⟨rfl, rfl, rfl, rfl, rfl, rfl, rfl, rfl, rfl, rfl, rfl, rfl, trivial⟩⟩
       clear h121
       refine c_block <| sr fun K100 hK100 => ww H <| mv rfl rfl <| ag rfl rfl <| fun a H => nk hK100 <| sr fun K101 hK101 => ww H <| mv rfl rfl <| mv rfl rfl <| bn rfl rfl r_neq rfl <| fun a H => nk hK101 <| cd H rfl h (fun h102 h => ?_) (fun h102 h => ?_)
       ·obtain ⟨l103, hc104, a105, h106, h107, h108, h⟩ := h
        refine c_reg <| ww H <| mv rfl rfl <| mv rfl rfl <| ld rfl one_22 hc104 rfl <| mv rfl rfl <| fun a H => s_idxS (s := l103) H rfl rfl rfl slc_22 h106 h107 h108 (lt_ rfl) fun a H => ?_
        obtain ⟨l109, hc110, a111, h112, h113, h114, h⟩ := h
        refine ww H <| ld rfl one_49 hc110 rfl <| mv rfl rfl <| fun a H => s_idxS (s := l109) H rfl rfl rfl slc_49 h112 h113 h114 (lt_ rfl) fun a H => ?_
        obtain ⟨l115, hc116, h⟩ := h
        refine ww H <| ld rfl one_5 hc116 rfl <| mv rfl rfl <| fun a H => s_callV H rfl rfl (H.args (vs := [(.i s89), (.int .u8 l115), (.i (p18.l : Int))]) rfl) (lt_ rfl) ⟨_, _, rfl, body_144, h⟩ ?_ (fun c w' => eP c w' _)
        clear H h a
        rintro _ w117 a ⟨rfl, h⟩ H
        exact c_nil <| h99 _ _ h (H.weaken ⟨rfl, rfl, rfl, rfl, rfl, rfl, rfl, rfl, rfl, rfl, rfl, rfl, trivial⟩)
       ·exact c_skip <| h99 _ _ h (H.weaken ⟨rfl, rfl, rfl, rfl, rfl, rfl, rfl, rfl, rfl, rfl, rfl, rfl, trivial⟩)
      ·refine c_exit ?_
       first | (simp only [Exit.then, Exit.inBlock, ↓reduceIte]; fail_if_success simp only [Nat.reduceEqDiff]) | simp only [Exit.then, Exit.inBlock, ↓reduceIte, Nat.reduceEqDiff]
       refine hK85 _ _ <| c_reg <| ww H <| mv rfl rfl <| mv rfl rfl <| fun a H => ?_
       replace h := h.get
       obtain ⟨b122, w123, n124, h⟩ := h
       refine s_bslc H rfl (by rw [H.parts (vs := [(0, (.i s19))]) rfl]; exact bs_23_1_ii640 w90 s19) (lt_ rfl) ?_
       rw [← n124.at_]
       clear H a
       intro a H
       refine n124.go ?_
       obtain ⟨s125, w126, h127, h⟩ := h
       refine s_blt H rfl (H.args (vs := [p18.v, (Slc.v (Slc.mk (some (blk b122)) 1 1))]) rfl) (lt_ rfl) (fun cs => b_app (z := s125) h127) ?_
       clear H a h127
       intro a H
       exact ww H <| ag rfl rfl <| fun a H => c_nil <| h30 _ _ _ h (H.weaken ⟨rfl, rfl, rfl, rfl, rfl, rfl, rfl, rfl, trivial⟩)
   ·refine c_skip <| hK39 _ _ <| c_reg <| ww H <| mv rfl rfl <| bn rfl rfl r_add rfl <| ag rfl rfl <| fun a H => c_nil <| Exists.intro (wr .i64 (i35 + 1)) ⟨h.1, h.2, H.weaken ⟨rfl, rfl, rfl, rfl, rfl, rfl, rfl, rfl, rfl, rfl, rfl, trivial⟩⟩
 ·refine c_exit ?_
  first | (simp only [Exit.then, Exit.inBlock, ↓reduceIte]; fail_if_success simp only [Nat.reduceEqDiff]) | simp only [Exit.then, Exit.inBlock, ↓reduceIte, Nat.reduceEqDiff]
  exact hK16 _ _ <| sr fun K143 hK143 => ww H <| mv rfl rfl <| ag rfl rfl <| fun a H => nk hK143 <| c_ret <| e_ret1 H rfl rfl h

theorem sim_gf_Field_Poly (f1 : Option Addr) (w : World) (Q : Ending → World → Prop) (h : vc_gf_Field_Poly f1 w Q) : Calls PP F_gf_Field_Poly #[(.pointer f1)] w Q := by
 unfold vc_gf_Field_Poly at h
 refine enter (n := 9) Tryz.func109 rfl rfl (le_ rfl) fun a H => sr fun K2 hK2 => ww H <| ag rfl rfl <| fun a H => nk hK2 <| c_seq fun K3 hK3 => sr fun K4 hK4 => ww H <| mv rfl rfl <| bn rfl rfl (r_eqP0 ptr_103) rfl <| fun a H => nk hK4 <| cd H rfl h (fun h5 h => ?_) (fun h5 h => ?_)
 ·exact sr fun K6 hK6 => ww H <| ag rfl rfl <| fun a H => nk hK6 <| c_ret <| e_ret1 H rfl rfl h
 ·obtain ⟨a8, h11, h⟩ := h
  refine c_skip <| hK3 _ _ <| sr fun K7 hK7 => ww H <| mv rfl rfl <| fun a H => ?_
  revert H
  revert h
  subst h11
  intro h H
  obtain ⟨l9, hc10, h⟩ := h
  exact ww H <| nl rfl rfl <| fd rfl fld_190_0 rfl <| ld rfl one_3 hc10 rfl <| ag rfl rfl <| fun a H => nk hK7 <| c_ret <| e_ret1 H rfl rfl h
end Go.Proofs.YtabifopphhpciaaGreatDoor

namespace Go.Proofs.YtabifopphhpciaaGreatDoor
open Go Go.Vc
set_option maxRecDepth 100000
set_option maxHeartbeats 4000000
theorem sim_gf_Field_AddMul (f1 : Option Addr) (d2 : Slc) (c3 : Int) (s4 : Slc) (w : World) (Q : Ending → World → Prop) (h : vc_gf_Field_AddMul f1 d2 c3 s4 w Q) : Calls PP F_gf_Field_AddMul #[(.pointer f1), d2.v, (.int .u8 c3), s4.v] w Q := by
 unfold vc_gf_Field_AddMul at h
 have eP {L : List (Nat × Value)} (c : List PanicEntry) (w' : World) (a : Act) (h : Q (.panicked c) w') (H : Has 39 [] a L) : bodyPost PP Tryz.f110 Q (.panic c) a w' := e_panic H h
 refine enter (n := 39) Tryz.func110 rfl rfl (le_ rfl) fun a H => sr fun K5 hK5 => ww H <| ag rfl rfl <| fun a H => nk hK5 <| c_seq fun K6 hK6 => sr fun K7 hK7 => ww H <| mv rfl rfl <| bn rfl rfl (r_eqP0 ptr_103) rfl <| fun a H => nk hK7 <| cd H rfl h (fun h8 h => ?_) (fun h8 h => ?_)
 ·exact sr fun K9 hK9 => ww H <| ag rfl rfl <| fun a H => nk hK9 <| c_ret <| e_ret1 H rfl rfl h
 ·refine c_skip <| hK6 _ _ <| c_seq fun K10 hK10 => sr fun K11 hK11 => ww H <| mv rfl rfl <| bl (vs := [d2.v]) rfl rfl (fun cs => b_lenS (z := d2) sl_49) <| mv rfl rfl <| bl (vs := [s4.v]) rfl rfl (fun cs => b_lenS (z := s4) sl_49) <| bn rfl rfl r_neq rfl <| fun a H => nk hK11 <| cd H rfl h (fun h12 h => ?_) (fun h12 h => ?_)
  ·exact sr fun K13 hK13 => ww H <| ag rfl rfl <| fun a H => nk hK13 <| c_ret <| e_ret1 H rfl rfl h
  ·obtain ⟨s15, w16, h17, h⟩ := h
   refine c_skip <| hK10 _ _ <| sr fun K14 hK14 => ww H <| mv rfl rfl <| fun a H => s_blt H rfl (H.args (vs := [Slc.nil.v, s4.v]) rfl) (lt_ rfl) (fun cs => b_app (z := s15) h17) ?_
   clear H a h17
   intro a H
   refine ww H <| ag rfl rfl <| fun a H => nk hK14 <| c_seq fun K18 hK18 => sr fun K19 hK19 => ww H <| mv rfl rfl <| bl (vs := [s15.v]) rfl rfl (fun cs => b_lenS (z := s15) sl_49) <| mv rfl rfl <| fun a H => nk hK19 <| c_block ?_
   obtain ⟨I22, m23, h56, h57⟩ := h
   refine c_loop (σ := Int) (fun z w => I22 z w) (fun z w => m23 z w) (fun z => [(0, (.pointer f1)), (1, d2.v), (2, (.int .u8 c3)), (21, s15.v), (22, (.i (s15.l : Int))), (23, (.i z))]) 0 h56 (H.weaken ⟨rfl, rfl, rfl, rfl, rfl, rfl, trivial⟩) ?_
   clear H h56
   rintro s20 a w21 h H
   replace h := h57 s20 w21 h
   clear h57
   replace H : Has 39 [] a [(0, (.pointer f1)), (1, d2.v), (2, (.int .u8 c3)), (21, s15.v), (22, (.i (s15.l : Int))), (23, (.i s20))] := H
   refine sr fun K24 hK24 => ww H <| bn rfl rfl r_lss rfl <| fun a H => nk hK24 <| c_seq fun K25 hK25 => cd H rfl h (fun h26 h => ?_) (fun h26 h => ?_)
   ·obtain ⟨a29, h30, h31, h32, h⟩ := h
    refine c_skip <| hK25 _ _ <| c_seq fun K27 hK27 => c_block <| sr fun K28 hK28 => ww H <| mv rfl rfl <| fun a H => s_idxS (s := s15) H rfl rfl rfl slc_49 h30 h31 h32 (lt_ rfl) fun a H => ?_
    obtain ⟨l33, hc34, h⟩ := h
    refine ww H <| ld rfl one_5 hc34 rfl <| ag rfl rfl <| ag rfl rfl <| fun a H => nk hK28 <| ?_
    replace H := H.weaken (L' := [(0, (.pointer f1)), (1, d2.v), (2, (.int .u8 c3)), (10, (.i s20)), (11, (.int .u8 l33)), (21, s15.v), (22, (.i (s15.l : Int))), (23, (.i s20))]) ⟨rfl, rfl, rfl, rfl, rfl, rfl, rfl, rfl, trivial⟩
    obtain ⟨a35, h36, h37, h38, l39, hc40, h⟩ := h
    refine c_any (V := [(0, d2.v), (1, (.i s20)), (2, (.pointer (some (a35.add (Int.toNat (s20) * 1))))), (3, (.int .u8 l39)), (4, (.pointer f1)), (5, (.int .u8 c3)), (6, (.int .u8 l33))]) (⟨[[], [], [0, 1], [2], [], [], [], [4, 5, 6], [3, 7], [0, 1, 2, 3, 4, 5, 6, 7, 8], [0, 1, 2, 3, 4, 5, 6, 7, 8, 9]], [some 28, some 29, some 30, some 31, some 32, some 33, some 34, some 35, some 36, some 37, none], [7, 10], [0, 0, 0, 0, 0, 0, 0, 0, 1, 1, 1], [1, 1, 1, 1, 0, 0, 0, 1, 1, 1, 2]⟩ : Rg) [(0, (.pointer f1)), (1, d2.v), (2, (.int .u8 c3)), (10, (.i s20)), (11, (.int .u8 l33)), (21, s15.v), (22, (.i (s15.l : Int))), (23, (.i s20))] mixed (by kernel_rfl) H <| Stg.eff [0, 1, 2, 3, 4, 5, 6] (by kernel_rfl) rfl (.cons ?_ (.cons ?_ (.cons ?_ (.cons ?_ (.cons ?_ (.cons ?_ (.cons ?_ .nil))))))) ?_
    ·exact Aw rfl rfl <| mv rfl rfl <| An rfl
    ·exact Aw rfl rfl <| mv rfl rfl <| An rfl
    ·exact Ans.mk rfl rfl fun a H => s_idxS (s := d2) H rfl rfl rfl slc_49 h36 h37 h38 (lt_ rfl) fun a H => Ans.fin H rfl
    ·exact Aw rfl rfl <| ld rfl one_5 hc40 rfl <| An rfl
    ·exact Aw rfl rfl <| mv rfl rfl <| An rfl
    ·exact Aw rfl rfl <| mv rfl rfl <| An rfl
    ·exact Aw rfl rfl <| mv rfl rfl <| An rfl
    ·refine cl1 h body_107 rfl rfl eP fun M42 w41 h => fun a H => ?_
     obtain ⟨hc43, a44, h45, h46, h47, h⟩ := h
     refine c_nil <| effQ.go [(8, (.int .u8 (xorI .u8 l39 M42))), (9, (.pointer (some (a44.add (Int.toNat (s20) * 1)))))] H rfl rfl <| Stg.eff [0, 1, 2, 3, 8, 9] (by kernel_rfl) rfl (.cons ?_ (.cons ?_ (.cons ?_ (.cons ?_ (.cons ?_ (.cons ?_ .nil)))))) ?_
     ·exact Aw rfl rfl <| mv rfl rfl <| An rfl
     ·exact Aw rfl rfl <| mv rfl rfl <| An rfl
     ·exact Ans.mk rfl rfl fun a H => s_idxS (s := d2) H rfl rfl rfl slc_49 h36 h37 h38 (lt_ rfl) fun a H => Ans.fin H rfl
     ·exact Aw rfl rfl <| ld rfl one_5 hc43 rfl <| An rfl
     ·exact Aw rfl rfl <| bn rfl rfl r_xor rfl <| An rfl
     ·exact Ans.mk rfl rfl fun a H => s_idxS (s := d2) H rfl rfl rfl slc_49 h45 h46 h47 (lt_ rfl) fun a H => Ans.fin H rfl
     ·refine st h rfl rfl one_5 rfl fun w48 w48S h => fun a H => c_nil <| effQ.go0 [] H rfl rfl <| Stg.fin [] (by kernel_rfl) .nil ?_
      ·intro a H
       replace H := H.weaken (L' := [(0, (.pointer f1)), (1, d2.v), (2, (.int .u8 c3)), (21, s15.v), (22, (.i (s15.l : Int))), (23, (.i s20))]) ⟨rfl, rfl, rfl, rfl, rfl, rfl, trivial⟩
       refine hK27 _ _ <| c_reg <| ww H <| bn rfl rfl r_add rfl <| mv rfl rfl <| fun a H => c_nil <| Exists.intro (wr .i64 (s20 + 1)) ⟨h.1, h.2, H.weaken ⟨rfl, rfl, rfl, rfl, rfl, rfl, trivial⟩⟩
   ·refine c_exit ?_
    first | (simp only [Exit.then, Exit.inBlock, ↓reduceIte]; fail_if_success simp only [Nat.reduceEqDiff]) | simp only [Exit.then, Exit.inBlock, ↓reduceIte, Nat.reduceEqDiff]
    exact hK18 _ _ <| sr fun K55 hK55 => ww H <| ag rfl rfl <| fun a H => nk hK55 <| c_ret <| e_ret1 H rfl rfl h

theorem sim_slices_ContainsFunc_byte_byte_111 (s1 : Slc) (f2 : Value) (w : World) (Q : Ending → World → Prop) (h : vc_slices_ContainsFunc_byte_byte_111 s1 f2 w Q) : Calls PP F_slices_ContainsFunc_byte_byte_111 #[s1.v, f2] w Q := by
 unfold vc_slices_ContainsFunc_byte_byte_111 at h
 have eP {L : List (Nat × Value)} (c : List PanicEntry) (w' : World) (a : Act) (h : Q (.panicked c) w') (H : Has 9 [] a L) : bodyPost PP Tryz.f111 Q (.panic c) a w' := e_panic H h
 exact enter (n := 9) Tryz.func111 rfl rfl (le_ rfl) fun a H => sr fun K3 hK3 => ww H <| ag rfl rfl <| fun a H => nk hK3 <| sr fun K4 hK4 => ww H <| mv rfl rfl <| mv rfl rfl <| cl1 h body_147 rfl rfl eP fun r6 w5 h => bn rfl rfl r_geq rfl <| ag rfl rfl <| fun a H => nk hK4 <| c_ret <| e_ret1 H rfl rfl h

theorem sim_code_Code_shaped_c1 (r1 : Slc) (c2 : Addr) (w : World) (Q : Ending → World → Prop) (h : vc_code_Code_shaped_c1 r1 c2 w Q) : Calls PP F_code_Code_shaped_c1 #[r1.v, (.pointer (some c2))] w Q := by
 unfold vc_code_Code_shaped_c1 at h
 refine enter (n := 11) Tryz.func112 rfl rfl (le_ rfl) fun a H => ?_
 obtain ⟨l5, hc6, a7, h8, h9, h10, h⟩ := h
 refine sr fun K3 hK3 => ww H <| ag rfl rfl <| fun a H => nk hK3 <| sr fun K4 hK4 => ww H <| mv rfl rfl <| bl (vs := [r1.v]) rfl rfl (fun cs => b_lenS (z := r1) sl_49) <| ld rfl one_22 hc6 rfl <| fun a H => s_idxS (s := l5) H rfl rfl rfl slc_22 h8 h9 h10 (lt_ rfl) fun a H => ?_
 obtain ⟨l11, hc12, h⟩ := h
 exact ww H <| ld rfl one_49 hc12 rfl <| bl (vs := [l11.v]) rfl rfl (fun cs => b_lenS (z := l11) sl_49) <| bn rfl rfl r_neq rfl <| ag rfl rfl <| fun a H => nk hK4 <| c_ret <| e_ret1 H rfl rfl h

theorem sim_code_Code_Row (c1 : Option Addr) (d2 : Slc) (i3 : Int) (w : World) (Q : Ending → World → Prop) (h : vc_code_Code_Row c1 d2 i3 w Q) : Calls PP F_code_Code_Row #[(.pointer c1), d2.v, (.i i3)] w Q := by
 unfold vc_code_Code_Row at h
 have eP {L : List (Nat × Value)} (c : List PanicEntry) (w' : World) (a : Act) (h : Q (.panicked c) w') (H : Has 34 [] a L) : bodyPost PP Tryz.f124 Q (.panic c) a w' := e_panic H h
 refine enter (n := 34) Tryz.func124 rfl rfl (le_ rfl) fun a H => sr fun K4 hK4 => ww H <| ag rfl rfl <| ag rfl rfl <| fun a H => nk hK4 <| c_seq fun K5 hK5 => sr fun K6 hK6 => ww H <| mv rfl rfl <| bn rfl rfl (r_eqP0 ptr_42) rfl <| fun a H => nk hK6 <| cd H rfl h (fun h7 h => ?_) (fun h7 h => ?_)
 ·exact sr fun K8 hK8 => ww H <| ag rfl rfl <| ag rfl rfl <| fun a H => nk hK8 <| c_ret <| e_ret2 H rfl rfl rfl h
 ·obtain ⟨x17, h18, h19, h⟩ := h
  refine c_skip <| hK5 _ _ <| c_seq fun K9 hK9 => sr fun K10 hK10 => ww H <| mv rfl rfl <| bn rfl rfl r_lss rfl <| mv rfl rfl <| fun a H => g_join (n := 34) [(19, (.bool x17)), (0, (.pointer c1)), (1, d2.v), (2, (.i i3))] (.succ (.succ (.succ (.succ (.succ (.succ (.succ (.zero _)))))))) ?_ ?_
  ·intro h12
   try clear h
   rcases Bool.eq_false_or_eq_true (decide (i3 < 0)) with h11 | h11
   ·replace H := H.ch (t := 12) (b := true) rfl h11
    refine ww H <| sk rfl rfl rfl rfl <| sk rfl rfl rfl rfl <| sk rfl rfl rfl rfl <| sk rfl rfl rfl rfl <| sk rfl rfl rfl rfl <| sk rfl rfl rfl rfl <| pT rfl rfl rfl <| fun a H => ?_
    replace h := h19 h11
    subst h
    exact h12 _ (H.weaken ⟨rfl, rfl, rfl, rfl, trivial⟩)
   ·replace H := H.ch (t := 12) (b := false) rfl h11
    replace h := h18 h11
    obtain ⟨a13, h16, h⟩ := h
    refine ww H <| gmv rfl rfl rfl rfl <| gmv rfl rfl rfl rfl <| fun a H => ?_
    revert H
    revert h
    subst h16
    intro h H
    obtain ⟨l14, hc15, h⟩ := h
    refine ww H <| gnl rfl rfl rfl rfl <| gfd rfl rfl rfl fld_107_1 rfl <| gld rfl rfl rfl one_3 hc15 rfl <| gbn rfl rfl rfl rfl r_geq rfl <| pF rfl rfl rfl <| fun a H => ?_
    subst h
    exact h12 _ (H.weaken ⟨rfl, rfl, rfl, rfl, trivial⟩)
  ·clear H a
   clear h18 h19
   intro a H
   refine nk hK10 <| cd H rfl h (fun h20 h => ?_) (fun h20 h => ?_)
   ·exact sr fun K21 hK21 => ww H <| ag rfl rfl <| ag rfl rfl <| fun a H => nk hK21 <| c_ret <| e_ret2 H rfl rfl rfl h
   ·refine c_skip <| hK9 _ _ <| c_seq fun K22 hK22 => sr fun K23 hK23 => ww H <| mv rfl rfl <| mv rfl rfl <| cl1 h body_79 rfl rfl eP fun s25 w24 h => fun a H => s_un H rfl rfl r_not (lt_ rfl) fun a H => nk hK23 <| cd H rfl h (fun h26 h => ?_) (fun h26 h => ?_)
    ·exact sr fun K27 hK27 => ww H <| ag rfl rfl <| ag rfl rfl <| fun a H => nk hK27 <| c_ret <| e_ret2 H rfl rfl rfl h
    ·obtain ⟨a29, h44, h⟩ := h
     refine c_skip <| hK22 _ _ <| sr fun K28 hK28 => ww H <| mv rfl rfl <| mv rfl rfl <| fun a H => ?_
     revert H
     revert h
     subst h44
     intro h H
     obtain ⟨l30, hc31, a32, h33, h34, h35, h⟩ := h
     refine ww H <| nl rfl rfl <| fd rfl fld_107_3 rfl <| ld rfl one_22 hc31 rfl <| mv rfl rfl <| fun a H => s_idxS (s := l30) H rfl rfl rfl slc_22 h33 h34 h35 (lt_ rfl) fun a H => ?_
     obtain ⟨l36, hc37, h⟩ := h
     exact ww H <| ld rfl one_49 hc37 rfl <| mv rfl rfl <| cl1 h body_80 rfl rfl eP fun s39 w38 h => ag rfl rfl <| ag rfl rfl <| fun a H => nk hK28 <| c_ret <| e_ret2 H rfl rfl rfl h

theorem sim_tag_Next (C1 C2 u3 c4 : Int) (w : World) (Q : Ending → World → Prop) (h : vc_tag_Next C1 C2 u3 c4 w Q) : Calls PP F_tag_Next #[(.agg #[(.i C1), (.i C2)]), (.i u3), (.i c4)] w Q := by
 unfold vc_tag_Next at h
 have eP {L : List (Nat × Value)} (c : List PanicEntry) (w' : World) (a : Act) (h : Q (.panicked c) w') (H : Has 51 [] a L) : bodyPost PP Tryz.f125 Q (.panic c) a w' := e_panic H h
 refine enter (n := 51) Tryz.func125 rfl rfl (le_ rfl) fun a H => sr fun K5 hK5 => ww H <| bx h rfl rfl rfl rfl fun b6 w7 n8 h => al h zero_27 rfl rfl rfl fun b9 w10 n11 h => ag rfl rfl <| fun a H => nk hK5 <| c_seq fun K12 hK12 => sr fun K13 hK13 => ww H <| lN (l := [(.i C1), (.i C2)]) rfl agg_27 rfl ⟨(n11.old (n8.cell (i := 0) rfl)), (n11.old (n8.cell (i := 1) rfl)), trivial⟩ rfl <| cl1 h body_15 rfl rfl eP fun V15 w14 h => fun a H => s_un H rfl rfl r_not (lt_ rfl) fun a H => nk hK13 <| cd H rfl h (fun h16 h => ?_) (fun h16 h => ?_)
 ·refine sr fun K17 hK17 => s_build H rfl (by rw [H.parts (vs := []) rfl]; exact bd_27 _) (lt_ rfl) fun a H => ww H <| sN h rfl rfl agg_27 rfl rfl fun w18 h => ag rfl rfl <| fun a H => nk hK17 <| c_ret ?_
  obtain ⟨C19, hc20, C21, hc22, h⟩ := h
  exact e_ret2 H rfl ⟨_, rfl, run_loadN (l := [(.i C19), (.i C21)]) agg_27 rfl ⟨hc20, hc22, trivial⟩⟩ rfl h
 ·refine c_skip <| hK12 _ _ <| c_seq fun K23 hK23 => sr fun K24 hK24 => ww H <| mv rfl rfl <| bn rfl rfl r_lss rfl <| mv rfl rfl <| fun a H => g_join (n := 51) [(18, (.bool ((decide (u3 < 0)) || (decide (4611686018427387903 < u3))))), (1, (.i u3)), (2, (.i c4)), (3, (.pointer (some (blk b6)))), (6, (.pointer (some (blk b9))))] (.succ (.succ (.succ (.zero _)))) ?_ ?_
  ·intro h26
   try clear h
   rcases Bool.eq_false_or_eq_true (decide (u3 < 0)) with h25 | h25
   ·replace H := H.ch (t := 15) (b := true) rfl h25
    exact ww H <| sk rfl rfl rfl rfl <| sk rfl rfl rfl rfl <| pT rfl rfl rfl <| fun a H => h26 _ (H.weaken ⟨by rw [h25]; rfl, rfl, rfl, rfl, rfl, trivial⟩)
   ·replace H := H.ch (t := 15) (b := false) rfl h25
    exact ww H <| gmv rfl rfl rfl rfl <| gbn rfl rfl rfl rfl r_gtr rfl <| pF rfl rfl rfl <| fun a H => h26 _ (H.weaken ⟨by rw [h25]; rfl, rfl, rfl, rfl, rfl, trivial⟩)
  ·clear H a
   intro a H
   refine ww H <| mv rfl rfl <| fun a H => g_join (n := 51) [(22, (.bool (((decide (u3 < 0)) || (decide (4611686018427387903 < u3))) || (decide (c4 < 1))))), (1, (.i u3)), (2, (.i c4)), (3, (.pointer (some (blk b6)))), (6, (.pointer (some (blk b9))))] (.succ (.succ (.succ (.zero _)))) ?_ ?_
   ·intro h28
    try clear h
    rcases Bool.eq_false_or_eq_true ((decide (u3 < 0)) || (decide (4611686018427387903 < u3))) with h27 | h27
    ·replace H := H.ch (t := 19) (b := true) rfl h27
     exact ww H <| sk rfl rfl rfl rfl <| sk rfl rfl rfl rfl <| pT rfl rfl rfl <| fun a H => h28 _ (H.weaken ⟨by rw [h27]; rfl, rfl, rfl, rfl, rfl, trivial⟩)
    ·replace H := H.ch (t := 19) (b := false) rfl h27
     exact ww H <| gmv rfl rfl rfl rfl <| gbn rfl rfl rfl rfl r_lss rfl <| pF rfl rfl rfl <| fun a H => h28 _ (H.weaken ⟨by rw [h27]; rfl, rfl, rfl, rfl, rfl, trivial⟩)
   ·clear H a
    intro a H
    refine ww H <| mv rfl rfl <| fun a H => g_join (n := 51) [(26, (.bool ((((decide (u3 < 0)) || (decide (4611686018427387903 < u3))) || (decide (c4 < 1))) || (decide (65535 < c4))))), (1, (.i u3)), (2, (.i c4)), (3, (.pointer (some (blk b6)))), (6, (.pointer (some (blk b9))))] (.succ (.succ (.succ (.zero _)))) ?_ ?_
    ·intro h30
     try clear h
     rcases Bool.eq_false_or_eq_true (((decide (u3 < 0)) || (decide (4611686018427387903 < u3))) || (decide (c4 < 1))) with h29 | h29
     ·replace H := H.ch (t := 23) (b := true) rfl h29
      exact ww H <| sk rfl rfl rfl rfl <| sk rfl rfl rfl rfl <| pT rfl rfl rfl <| fun a H => h30 _ (H.weaken ⟨by rw [h29]; rfl, rfl, rfl, rfl, rfl, trivial⟩)
     ·replace H := H.ch (t := 23) (b := false) rfl h29
      exact ww H <| gmv rfl rfl rfl rfl <| gbn rfl rfl rfl rfl r_gtr rfl <| pF rfl rfl rfl <| fun a H => h30 _ (H.weaken ⟨by rw [h29]; rfl, rfl, rfl, rfl, rfl, trivial⟩)
    ·clear H a
     intro a H
     refine nk hK24 <| cd H rfl h (fun h31 h => ?_) (fun h31 h => ?_)
     ·refine sr fun K32 hK32 => s_build H rfl (by rw [H.parts (vs := []) rfl]; exact bd_27 _) (lt_ rfl) fun a H => ww H <| sN h rfl rfl agg_27 rfl rfl fun w33 h => ag rfl rfl <| fun a H => nk hK32 <| c_ret ?_
      obtain ⟨C34, hc35, C36, hc37, h⟩ := h
      exact e_ret2 H rfl ⟨_, rfl, run_loadN (l := [(.i C34), (.i C36)]) agg_27 rfl ⟨hc35, hc37, trivial⟩⟩ rfl h
     ·obtain ⟨l39, hc40, h⟩ := h
      refine c_skip <| hK23 _ _ <| sr fun K38 hK38 => ww H <| fd rfl fld_27_0 rfl <| ld rfl one_2 hc40 rfl <| mv rfl rfl <| bn rfl rfl r_add rfl <| bl (vs := [(.i l39), (.i (wr .i64 (u3 + 1)))]) rfl rfl (fun cs => b_max) <| ag rfl rfl <| fun a H => nk hK38 <| c_seq fun K41 hK41 => ?_
      obtain ⟨R43, h, h72⟩ := h
      have h60 : ∀ (a : Act) (c42 : Int) (w44 : World), R43 c42 w44 → Has 51 [] a [(2, (.i c4)), (6, (.pointer (some (blk b9)))), (8, (.i c42))] → K41 a w44 := by
       clear h
       intro a c42 w44 h H
       replace h := h72 c42 w44 h
       refine hK41 _ _ <| c_seq fun K45 hK45 => sr fun K46 hK46 => ww H <| mv rfl rfl <| bn rfl rfl r_gtr rfl <| fun a H => nk hK46 <| cd H rfl h (fun h47 h => ?_) (fun h47 h => ?_)
       ·refine sr fun K48 hK48 => s_build H rfl (by rw [H.parts (vs := []) rfl]; exact bd_27 _) (lt_ rfl) fun a H => ww H <| sN h rfl rfl agg_27 rfl rfl fun w49 h => ag rfl rfl <| fun a H => nk hK48 <| c_ret ?_
        obtain ⟨C50, hc51, C52, hc53, h⟩ := h
        exact e_ret2 H rfl ⟨_, rfl, run_loadN (l := [(.i C50), (.i C52)]) agg_27 rfl ⟨hc51, hc53, trivial⟩⟩ rfl h
       ·refine c_skip <| hK45 _ _ <| sr fun K54 hK54 => ww H <| mv rfl rfl <| mv rfl rfl <| fun a H => s_build H rfl (by rw [H.parts (vs := [(0, (.i c42)), (1, (.i c4))]) rfl]; exact bd_27_ii640_ii641 _ c42 c4) (lt_ rfl) fun a H => ww H <| sN h rfl rfl agg_27 rfl rfl fun w55 h => ag rfl rfl <| fun a H => nk hK54 <| c_ret ?_
        obtain ⟨C56, hc57, C58, hc59, h⟩ := h
        exact e_ret2 H rfl ⟨_, rfl, run_loadN (l := [(.i C56), (.i C58)]) agg_27 rfl ⟨hc57, hc59, trivial⟩⟩ rfl h
      clear h72
      obtain ⟨l62, hc63, x68, h69, h70, h⟩ := h
      refine sr fun K61 hK61 => ww H <| mv rfl rfl <| fd rfl fld_27_0 rfl <| ld rfl one_2 hc63 rfl <| bn rfl rfl r_eql rfl <| mv rfl rfl <| fun a H => g_join (n := 51) [(42, (.bool x68)), (2, (.i c4)), (6, (.pointer (some (blk b9)))), (8, (.i (maxI l39 (wr .i64 (u3 + 1)))))] (.succ (.succ (.succ (.succ (.succ (.zero _)))))) ?_ ?_
      ·intro h65
       try clear h
       rcases Bool.eq_false_or_eq_true (decide ((maxI l39 (wr .i64 (u3 + 1))) = l62)) with h64 | h64
       ·replace H := H.ch (t := 37) (b := true) rfl h64
        replace h := h69 h64
        obtain ⟨l66, hc67, h⟩ := h
        refine ww H <| gmv rfl rfl rfl rfl <| gfd rfl rfl rfl fld_27_1 rfl <| gld rfl rfl rfl one_3 hc67 rfl <| gbn rfl rfl rfl rfl r_leq rfl <| pT rfl rfl rfl <| fun a H => ?_
        subst h
        exact h65 _ (H.weaken ⟨rfl, rfl, rfl, rfl, trivial⟩)
       ·replace H := H.ch (t := 37) (b := false) rfl h64
        refine ww H <| sk rfl rfl rfl rfl <| sk rfl rfl rfl rfl <| sk rfl rfl rfl rfl <| sk rfl rfl rfl rfl <| pF rfl rfl rfl <| fun a H => ?_
        replace h := h70 h64
        subst h
        exact h65 _ (H.weaken ⟨rfl, rfl, rfl, rfl, trivial⟩)
      ·clear H a
       clear h69 h70
       intro a H
       refine nk hK61 <| cd H rfl h (fun h71 h => ?_) (fun h71 h => ?_)
       ·exact c_reg <| ww H <| mv rfl rfl <| bn rfl rfl r_add rfl <| ag rfl rfl <| fun a H => c_nil <| h60 _ _ _ h (H.weaken ⟨rfl, rfl, rfl, trivial⟩)
       ·exact c_skip <| h60 _ _ _ h (H.weaken ⟨rfl, rfl, rfl, trivial⟩)

theorem sim_client_operation_top_c1 (p1 C2 C3 : Int) (h4 : Bool) (d5 : Slc) (c6 : Addr) (w : World) (Q : Ending → World → Prop) (h : vc_client_operation_top_c1 p1 C2 C3 h4 d5 c6 w Q) : Calls PP F_client_operation_top_c1 #[(.i p1), (.agg #[(.i C2), (.i C3), (.bool h4), d5.v]), (.pointer (some c6))] w Q := by
 unfold vc_client_operation_top_c1 at h
 have eP {L : List (Nat × Value)} (c : List PanicEntry) (w' : World) (a : Act) (h : Q (.panicked c) w') (H : Has 11 [] a L) : bodyPost PP Tryz.f126 Q (.panic c) a w' := e_panic H h
 refine enter (n := 11) Tryz.func126 rfl rfl (le_ rfl) fun a H => sr fun K7 hK7 => ww H <| bx h rfl rfl rfl rfl fun b8 w9 n10 h => fun a H => ?_
 obtain ⟨C12, hc13, C14, hc15, h⟩ := h
 refine ww H <| ag rfl rfl <| fun a H => nk hK7 <| sr fun K11 hK11 => ww H <| lN (l := [(.i C12), (.i C14)]) rfl agg_27 rfl ⟨hc13, hc15, trivial⟩ rfl <| fd rfl fld_119_0 rfl <| lN (l := [(.i C2), (.i C3)]) rfl agg_27 rfl ⟨(n10.cell (i := 0) rfl), (n10.cell (i := 1) rfl), trivial⟩ rfl <| fun a H => ?_
 replace h := h.get
 obtain ⟨b16, w17, n18, h⟩ := h
 refine s_bslc H rfl (by rw [H.parts (vs := [(0, (.agg #[(.i C12), (.i C14)])), (1, (.agg #[(.i C2), (.i C3)]))]) rfl]; exact bs_174_2_ii64ii640_ii64ii641 w9 C12 C14 C2 C3) (lt_ rfl) ?_
 rw [← n18.at_]
 clear H a
 intro a H
 exact n18.go <| ww H <| cl2 h body_51 rfl rfl eP fun C20 C21 w19 h => sN h rfl rfl agg_27 rfl rfl fun w22 h => fun a H => nk hK11 <| sr fun K23 hK23 => ww H <| ag rfl rfl <| fun a H => nk hK23 <| c_ret <| e_ret1 H rfl rfl h

end Go.Proofs.YtabifopphhpciaaGreatDoor

namespace Go.Proofs.YtabifopphhpciaaGreatDoor
open Go Go.Vc
set_option maxRecDepth 100000
set_option maxHeartbeats 4000000
theorem sim_matrix_eliminate_c1 (i1 j2 : Int) (c3 : Addr) (w : World) (Q : Ending → World → Prop) (h : vc_matrix_eliminate_c1 i1 j2 c3 w Q) : Calls PP F_matrix_eliminate_c1 #[(.i i1), (.i j2), (.pointer (some c3))] w Q := by
 unfold vc_matrix_eliminate_c1 at h
 refine enter (n := 19) Tryz.func143 rfl rfl (le_ rfl) fun a H => ?_
 replace H := H.weaken (L' := [(0, (.i i1)), (1, (.i j2)), (2, (.pointer (some c3)))]) ⟨rfl, rfl, rfl, trivial⟩
 obtain ⟨l4, hc5, l6, hc7, l8, hc9, a10, h11, h12, h13, l14, hc15, l16, hc17, a18, h19, h20, h21, l22, hc23, a24, h25, h26, h27, h⟩ := h
 refine c_any (V := [(0, l4.v), (1, (.i i1)), (2, l6.v), (3, (.i j2)), (4, l8.v), (5, (.i j2)), (6, (.pointer (some (a10.add (Int.toNat (j2) * 1))))), (7, l14.v), (8, l16.v), (9, (.i i1)), (10, (.pointer (some (a18.add (Int.toNat (i1) * 1))))), (11, l22.v), (12, (.pointer (some (a24.add (Int.toNat (i1) * 1)))))]) (⟨[[], [], [], [], [], [], [4, 5], [6], [], [], [8, 9], [10], [0, 1, 4, 5, 6, 7, 11], [0, 1, 4, 5, 6, 7, 11, 12], [0, 1, 2, 3, 4, 5, 6, 7, 8, 9, 10, 11, 12, 13], [0, 1, 2, 3, 4, 5, 6, 7, 8, 9, 10, 11, 12, 13, 14]], [some 5, some 6, some 7, some 8, some 9, some 10, some 11, some 12, some 13, some 14, some 15, some 16, some 17, none, some 18, none], [13, 15], [0, 0, 0, 0, 0, 0, 0, 0, 0, 0, 0, 0, 0, 0, 1, 1], [0, 0, 1, 1, 0, 0, 0, 0, 0, 0, 0, 0, 0, 1, 1, 2]⟩ : Rg) [(0, (.i i1)), (1, (.i j2)), (2, (.pointer (some c3)))] mixed (by kernel_rfl) H <| Stg.eff [0, 1, 2, 3, 4, 5, 6, 7, 8, 9, 10, 11, 12] (by kernel_rfl) rfl (.cons ?_ (.cons ?_ (.cons ?_ (.cons ?_ (.cons ?_ (.cons ?_ (.cons ?_ (.cons ?_ (.cons ?_ (.cons ?_ (.cons ?_ (.cons ?_ (.cons ?_ .nil))))))))))))) ?_
 ·exact Aw rfl rfl <| ld rfl one_22 hc5 rfl <| An rfl
 ·exact Aw rfl rfl <| mv rfl rfl <| An rfl
 ·exact Aw rfl rfl <| ld rfl one_22 hc7 rfl <| An rfl
 ·exact Aw rfl rfl <| mv rfl rfl <| An rfl
 ·exact Aw rfl rfl <| ld rfl one_22 hc9 rfl <| An rfl
 ·exact Aw rfl rfl <| mv rfl rfl <| An rfl
 ·exact Ans.mk rfl rfl fun a H => s_idxS (s := l8) H rfl rfl rfl slc_22 h11 h12 h13 (lt_ rfl) fun a H => Ans.fin H rfl
 ·exact Aw rfl rfl <| ld rfl one_49 hc15 rfl <| An rfl
 ·exact Aw rfl rfl <| ld rfl one_22 hc17 rfl <| An rfl
 ·exact Aw rfl rfl <| mv rfl rfl <| An rfl
 ·exact Ans.mk rfl rfl fun a H => s_idxS (s := l16) H rfl rfl rfl slc_22 h19 h20 h21 (lt_ rfl) fun a H => Ans.fin H rfl
 ·exact Aw rfl rfl <| ld rfl one_49 hc23 rfl <| An rfl
 ·exact Ans.mk rfl rfl fun a H => s_idxS (s := l4) H rfl rfl rfl slc_22 h25 h26 h27 (lt_ rfl) fun a H => Ans.fin H rfl
 ·refine st h rfl rfl one_49 rfl fun w28 w28S h => fun a H => ?_
  obtain ⟨hc31, a32, h33, h34, h35, h⟩ := h
  refine c_nil <| effQ.go0 [(14, (.pointer (some (a32.add (Int.toNat (j2) * 1)))))] H rfl rfl <| Stg.eff [2, 3, 14] (by kernel_rfl) rfl (.cons ?_ (.cons ?_ (.cons ?_ .nil))) ?_
  ·exact Aw rfl rfl <| ld rfl one_22 hc31 rfl <| An rfl
  ·exact Aw rfl rfl <| mv rfl rfl <| An rfl
  ·exact Ans.mk rfl rfl fun a H => s_idxS (s := l6) H rfl rfl rfl slc_22 h33 h34 h35 (lt_ rfl) fun a H => Ans.fin H rfl
  ·refine st h rfl rfl one_49 rfl fun w36 w36S h => fun a H => c_nil <| effQ.go0 [] H rfl rfl <| Stg.fin [] (by kernel_rfl) .nil ?_
   ·intro a H
    replace H := H.weaken (L' := []) trivial
    exact e_ret0 H rfl h

theorem sim_matrix_eliminate_c2 (t1 c2 f3 : Int) (c4 c5 : Addr) (w : World) (Q : Ending → World → Prop) (h : vc_matrix_eliminate_c2 t1 c2 f3 c4 c5 w Q) : Calls PP F_matrix_eliminate_c2 #[(.i t1), (.int .u8 c2), (.i f3), (.pointer (some c4)), (.pointer (some c5))] w Q := by
 unfold vc_matrix_eliminate_c2 at h
 have eP {L : List (Nat × Value)} (c : List PanicEntry) (w' : World) (a : Act) (h : Q (.panicked c) w') (H : Has 19 [] a L) : bodyPost PP Tryz.f144 Q (.panic c) a w' := e_panic H h
 refine enter (n := 19) Tryz.func144 rfl rfl (le_ rfl) fun a H => ?_
 replace H := H.weaken (L' := [(0, (.i t1)), (1, (.int .u8 c2)), (2, (.i f3)), (3, (.pointer (some c4))), (4, (.pointer (some c5)))]) ⟨rfl, rfl, rfl, rfl, rfl, trivial⟩
 obtain ⟨l6, hc7, l8, hc9, a10, h11, h12, h13, l14, hc15, l16, hc17, a18, h19, h20, h21, l22, hc23, h⟩ := h
 refine c_any (V := [(0, (.pointer l6)), (1, l8.v), (2, (.i t1)), (3, (.pointer (some (a10.add (Int.toNat (t1) * 1))))), (4, l14.v), (5, (.int .u8 c2)), (6, l16.v), (7, (.i f3)), (8, (.pointer (some (a18.add (Int.toNat (f3) * 1))))), (9, l22.v)]) (⟨[[], [], [], [1, 2], [3], [], [], [], [6, 7], [8], [0, 4, 5, 9]], [some 8, some 9, some 10, some 11, some 12, some 13, some 14, some 15, some 16, some 17, some 18], [10], [0, 0, 0, 0, 0, 0, 0, 0, 0, 0, 0], [0, 0, 0, 0, 0, 0, 0, 0, 0, 0, 1]⟩ : Rg) [(0, (.i t1)), (1, (.int .u8 c2)), (2, (.i f3)), (3, (.pointer (some c4))), (4, (.pointer (some c5)))] mixed (by kernel_rfl) H <| Stg.eff [0, 1, 2, 3, 4, 5, 6, 7, 8, 9] (by kernel_rfl) rfl (.cons ?_ (.cons ?_ (.cons ?_ (.cons ?_ (.cons ?_ (.cons ?_ (.cons ?_ (.cons ?_ (.cons ?_ (.cons ?_ .nil)))))))))) ?_
 ·exact Aw rfl rfl <| ld rfl one_103 hc7 rfl <| An rfl
 ·exact Aw rfl rfl <| ld rfl one_22 hc9 rfl <| An rfl
 ·exact Aw rfl rfl <| mv rfl rfl <| An rfl
 ·exact Ans.mk rfl rfl fun a H => s_idxS (s := l8) H rfl rfl rfl slc_22 h11 h12 h13 (lt_ rfl) fun a H => Ans.fin H rfl
 ·exact Aw rfl rfl <| ld rfl one_49 hc15 rfl <| An rfl
 ·exact Aw rfl rfl <| mv rfl rfl <| An rfl
 ·exact Aw rfl rfl <| ld rfl one_22 hc17 rfl <| An rfl
 ·exact Aw rfl rfl <| mv rfl rfl <| An rfl
 ·exact Ans.mk rfl rfl fun a H => s_idxS (s := l16) H rfl rfl rfl slc_22 h19 h20 h21 (lt_ rfl) fun a H => Ans.fin H rfl
 ·exact Aw rfl rfl <| ld rfl one_49 hc23 rfl <| An rfl
 ·refine cl1 h body_110 rfl rfl eP fun A25 w24 h => fun a H => c_nil <| effQ.go [] H rfl rfl <| Stg.fin [] (by kernel_rfl) .nil ?_
  ·intro a H
   replace H := H.weaken (L' := []) trivial
   exact e_ret0 H rfl h

theorem sim_matrix_eliminate_c3 (i1 c2 : Int) (c3 c4 : Addr) (w : World) (Q : Ending → World → Prop) (h : vc_matrix_eliminate_c3 i1 c2 c3 c4 w Q) : Calls PP F_matrix_eliminate_c3 #[(.i i1), (.int .u8 c2), (.pointer (some c3)), (.pointer (some c4))] w Q := by
 unfold vc_matrix_eliminate_c3 at h
 have eP {L : List (Nat × Value)} (c : List PanicEntry) (w' : World) (a : Act) (h : Q (.panicked c) w') (H : Has 29 [] a L) : bodyPost PP Tryz.f145 Q (.panic c) a w' := e_panic H h
 refine enter (n := 29) Tryz.func145 rfl rfl (le_ rfl) fun a H => ?_
 obtain ⟨l6, hc7, a8, h9, h10, h11, h⟩ := h
 refine sr fun K5 hK5 => ww H <| ld rfl one_22 hc7 rfl <| mv rfl rfl <| fun a H => s_idxS (s := l6) H rfl rfl rfl slc_22 h9 h10 h11 (lt_ rfl) fun a H => ?_
 obtain ⟨l12, hc13, h⟩ := h
 refine ww H <| ld rfl one_49 hc13 rfl <| bl (vs := [l12.v]) rfl rfl (fun cs => b_lenS (z := l12) sl_49) <| mv rfl rfl <| fun a H => nk hK5 <| c_block ?_
 obtain ⟨I16, m17, h54, h55⟩ := h
 refine c_loop (σ := Int) (fun z w => I16 z w) (fun z w => m17 z w) (fun z => [(0, (.i i1)), (1, (.int .u8 c2)), (2, (.pointer (some c3))), (3, (.pointer (some c4))), (11, l12.v), (12, (.i (l12.l : Int))), (13, (.i z))]) 0 h54 (H.weaken ⟨rfl, rfl, rfl, rfl, rfl, rfl, rfl, trivial⟩) ?_
 clear H h54
 rintro s14 a w15 h H
 replace h := h55 s14 w15 h
 clear h55
 replace H : Has 29 [] a [(0, (.i i1)), (1, (.int .u8 c2)), (2, (.pointer (some c3))), (3, (.pointer (some c4))), (11, l12.v), (12, (.i (l12.l : Int))), (13, (.i s14))] := H
 refine sr fun K18 hK18 => ww H <| bn rfl rfl r_lss rfl <| fun a H => nk hK18 <| c_seq fun K19 hK19 => cd H rfl h (fun h20 h => ?_) (fun h20 h => ?_)
 ·obtain ⟨a23, h24, h25, h26, h⟩ := h
  refine c_skip <| hK19 _ _ <| c_seq fun K21 hK21 => c_block <| sr fun K22 hK22 => ww H <| mv rfl rfl <| fun a H => s_idxS (s := l12) H rfl rfl rfl slc_49 h24 h25 h26 (lt_ rfl) fun a H => ?_
  obtain ⟨l27, hc28, h⟩ := h
  refine ww H <| ld rfl one_5 hc28 rfl <| ag rfl rfl <| ag rfl rfl <| fun a H => nk hK22 <| ?_
  replace H := H.weaken (L' := [(0, (.i i1)), (1, (.int .u8 c2)), (2, (.pointer (some c3))), (3, (.pointer (some c4))), (6, (.i s14)), (7, (.int .u8 l27)), (11, l12.v), (12, (.i (l12.l : Int))), (13, (.i s14))]) ⟨rfl, rfl, rfl, rfl, rfl, rfl, rfl, rfl, rfl, trivial⟩
  obtain ⟨l29, hc30, a31, h32, h33, h34, l35, hc36, l37, hc38, h⟩ := h
  refine c_any (V := [(0, l29.v), (1, (.i i1)), (2, (.pointer (some (a31.add (Int.toNat (i1) * 1))))), (3, l35.v), (4, (.i s14)), (5, (.pointer l37)), (6, (.int .u8 l27)), (7, (.int .u8 c2))]) (⟨[[], [], [0, 1], [2], [], [], [], [], [5, 6, 7], [0, 1, 2, 3, 4, 5, 6, 7, 8], [0, 1, 2, 3, 4, 5, 6, 7, 8, 9]], [some 18, some 19, some 20, some 21, some 22, some 23, some 24, some 25, some 26, some 27, none], [8, 10], [0, 0, 0, 0, 0, 0, 0, 0, 0, 1, 1], [1, 1, 1, 1, 1, 0, 0, 0, 1, 1, 2]⟩ : Rg) [(0, (.i i1)), (1, (.int .u8 c2)), (2, (.pointer (some c3))), (3, (.pointer (some c4))), (6, (.i s14)), (7, (.int .u8 l27)), (11, l12.v), (12, (.i (l12.l : Int))), (13, (.i s14))] mixed (by kernel_rfl) H <| Stg.eff [0, 1, 2, 3, 4, 5, 6, 7] (by kernel_rfl) rfl (.cons ?_ (.cons ?_ (.cons ?_ (.cons ?_ (.cons ?_ (.cons ?_ (.cons ?_ (.cons ?_ .nil)))))))) ?_
  ·exact Aw rfl rfl <| ld rfl one_22 hc30 rfl <| An rfl
  ·exact Aw rfl rfl <| mv rfl rfl <| An rfl
  ·exact Ans.mk rfl rfl fun a H => s_idxS (s := l29) H rfl rfl rfl slc_22 h32 h33 h34 (lt_ rfl) fun a H => Ans.fin H rfl
  ·exact Aw rfl rfl <| ld rfl one_49 hc36 rfl <| An rfl
  ·exact Aw rfl rfl <| mv rfl rfl <| An rfl
  ·exact Aw rfl rfl <| ld rfl one_103 hc38 rfl <| An rfl
  ·exact Aw rfl rfl <| mv rfl rfl <| An rfl
  ·exact Aw rfl rfl <| mv rfl rfl <| An rfl
  ·refine cl1 h body_107 rfl rfl eP fun M40 w39 h => fun a H => ?_
   obtain ⟨hc41, hc42, a43, h44, h45, h46, h⟩ := h
   refine c_nil <| effQ.go [(9, (.pointer (some (a43.add (Int.toNat (s14) * 1)))))] H rfl rfl <| Stg.eff [0, 1, 2, 3, 4, 9] (by kernel_rfl) rfl (.cons ?_ (.cons ?_ (.cons ?_ (.cons ?_ (.cons ?_ (.cons ?_ .nil)))))) ?_
   ·exact Aw rfl rfl <| ld rfl one_22 hc41 rfl <| An rfl
   ·exact Aw rfl rfl <| mv rfl rfl <| An rfl
   ·exact Ans.mk rfl rfl fun a H => s_idxS (s := l29) H rfl rfl rfl slc_22 h32 h33 h34 (lt_ rfl) fun a H => Ans.fin H rfl
   ·exact Aw rfl rfl <| ld rfl one_49 hc42 rfl <| An rfl
   ·exact Aw rfl rfl <| mv rfl rfl <| An rfl
   ·exact Ans.mk rfl rfl fun a H => s_idxS (s := l35) H rfl rfl rfl slc_49 h44 h45 h46 (lt_ rfl) fun a H => Ans.fin H rfl
   ·refine st h rfl rfl one_5 rfl fun w47 w47S h => fun a H => c_nil <| effQ.go0 [] H rfl rfl <| Stg.fin [] (by kernel_rfl) .nil ?_
    ·intro a H
     replace H := H.weaken (L' := [(0, (.i i1)), (1, (.int .u8 c2)), (2, (.pointer (some c3))), (3, (.pointer (some c4))), (11, l12.v), (12, (.i (l12.l : Int))), (13, (.i s14))]) ⟨rfl, rfl, rfl, rfl, rfl, rfl, rfl, trivial⟩
     refine hK21 _ _ <| c_reg <| ww H <| bn rfl rfl r_add rfl <| mv rfl rfl <| fun a H => c_nil <| Exists.intro (wr .i64 (s14 + 1)) ⟨h.1, h.2, H.weaken ⟨rfl, rfl, rfl, rfl, rfl, rfl, rfl, trivial⟩⟩
 ·refine c_exit ?_
  first | (simp only [Exit.then, Exit.inBlock, ↓reduceIte]; fail_if_success simp only [Nat.reduceEqDiff]) | simp only [Exit.then, Exit.inBlock, ↓reduceIte, Nat.reduceEqDiff]
  exact e_ret0 H rfl h

theorem sim_gf_Field_Inv (f1 : Option Addr) (a2 : Int) (w : World) (Q : Ending → World → Prop) (h : vc_gf_Field_Inv f1 a2 w Q) : Calls PP F_gf_Field_Inv #[(.pointer f1), (.int .u8 a2)] w Q := by
 unfold vc_gf_Field_Inv at h
 refine enter (n := 22) Tryz.func146 rfl rfl (le_ rfl) fun a H => sr fun K3 hK3 => ww H <| ag rfl rfl <| ag rfl rfl <| fun a H => nk hK3 <| c_seq fun K4 hK4 => sr fun K5 hK5 => ww H <| mv rfl rfl <| bn rfl rfl (r_eqP0 ptr_103) rfl <| fun a H => nk hK5 <| cd H rfl h (fun h6 h => ?_) (fun h6 h => ?_)
 ·exact sr fun K7 hK7 => ww H <| ag rfl rfl <| ag rfl rfl <| fun a H => nk hK7 <| c_ret <| e_ret2 H rfl rfl rfl h
 ·refine c_skip <| hK4 _ _ <| c_seq fun K8 hK8 => sr fun K9 hK9 => ww H <| mv rfl rfl <| bn rfl rfl r_eql rfl <| fun a H => nk hK9 <| cd H rfl h (fun h10 h => ?_) (fun h10 h => ?_)
  ·exact sr fun K11 hK11 => ww H <| ag rfl rfl <| ag rfl rfl <| fun a H => nk hK11 <| c_ret <| e_ret2 H rfl rfl rfl h
  ·refine c_skip <| hK8 _ _ <| c_seq fun K12 hK12 => c_regD mixed (by kernel_rfl) ?_
   iterate 3 refine z_move H rfl rfl (lt_ rfl) fun a H => ?_
   obtain ⟨a14, h23, h⟩ := h
   revert H
   revert h
   subst h23
   intro h H
   refine z_nil H rfl rfl (lt_ rfl) fun a H => z_fld H rfl rfl fld_190_2 (lt_ rfl) fun a H => ?_
   obtain ⟨h15, h16, h⟩ := h
   refine z_idxA H rfl rfl rfl arr_188 h15 h16 (lt_ rfl) fun a H => ?_
   obtain ⟨l17, hc18, h⟩ := h
   refine z_load (v := (.i l17)) H rfl rfl one_3 hc18 (lt_ rfl) fun a H => z_bin H rfl rfl rfl r_sub (lt_ rfl) fun a H => z_nil H rfl rfl (lt_ rfl) fun a H => z_fld H rfl rfl fld_190_1 (lt_ rfl) fun a H => ?_
   obtain ⟨h19, h20, h⟩ := h
   refine z_idxA H rfl rfl rfl arr_187 h19 h20 (lt_ rfl) fun a H => ?_
   obtain ⟨l21, hc22, h⟩ := h
   refine z_load (v := (.int .u8 l21)) H rfl rfl one_5 hc22 (lt_ rfl) fun a H => z_assign H rfl rfl (lt_ rfl) fun a H => z_assign H rfl rfl (lt_ rfl) fun a H => wpQuiet_nil ?_
   rintro _ ⟨k13, rfl⟩
   replace h := h k13
   exact hK12 _ _ <| c_ret <| e_ret2 H rfl rfl rfl h

theorem sim_slices_IndexFunc_byte_byte_147 (s1 : Slc) (f2 : Value) (w : World) (Q : Ending → World → Prop) (h : vc_slices_IndexFunc_byte_byte_147 s1 f2 w Q) : Calls PP F_slices_IndexFunc_byte_byte_147 #[s1.v, f2] w Q := by
 unfold vc_slices_IndexFunc_byte_byte_147 at h
 have eP {L : List (Nat × Value)} (c : List PanicEntry) (w' : World) (a : Act) (h : Q (.panicked c) w') (H : Has 19 [] a L) : bodyPost PP Tryz.f147 Q (.panic c) a w' := e_panic H h
 refine enter (n := 19) Tryz.func147 rfl rfl (le_ rfl) fun a H => sr fun K3 hK3 => ww H <| ag rfl rfl <| fun a H => nk hK3 <| c_seq fun K4 hK4 => sr fun K5 hK5 => ww H <| mv rfl rfl <| bl (vs := [s1.v]) rfl rfl (fun cs => b_lenS (z := s1) sl_22) <| mv rfl rfl <| fun a H => nk hK5 <| c_block ?_
 obtain ⟨I8, m9, h30, h31⟩ := h
 refine c_loop (σ := Int) (fun z w => I8 z w) (fun z w => m9 z w) (fun z => [(0, s1.v), (1, f2), (7, (.i (s1.l : Int))), (8, (.i z))]) 0 h30 (H.weaken ⟨rfl, rfl, rfl, rfl, trivial⟩) ?_
 clear H h30
 rintro s6 a w7 h H
 replace h := h31 s6 w7 h
 clear h31
 replace H : Has 19 [] a [(0, s1.v), (1, f2), (7, (.i (s1.l : Int))), (8, (.i s6))] := H
 refine sr fun K10 hK10 => ww H <| bn rfl rfl r_lss rfl <| fun a H => nk hK10 <| c_seq fun K11 hK11 => cd H rfl h (fun h12 h => ?_) (fun h12 h => ?_)
 ·obtain ⟨a16, h17, h18, h19, h⟩ := h
  refine c_skip <| hK11 _ _ <| c_seq fun K13 hK13 => c_block <| sr fun K14 hK14 => ww H <| mv rfl rfl <| ag rfl rfl <| fun a H => nk hK14 <| sr fun K15 hK15 => ww H <| mv rfl rfl <| mv rfl rfl <| mv rfl rfl <| fun a H => s_idxS (s := s1) H rfl rfl rfl slc_22 h17 h18 h19 (lt_ rfl) fun a H => ?_
  obtain ⟨l20, hc21, h⟩ := h
  refine ww H <| ld rfl one_49 hc21 rfl <| fun a H => s_callV H rfl rfl (H.args (vs := [l20.v]) rfl) (lt_ rfl) h ?_ (fun c w' => eP c w' _)
  clear H h a
  rintro _ w22 a ⟨r23, rfl, h⟩ H
  refine nk hK15 <| cd H rfl h (fun h24 h => ?_) (fun h24 h => ?_)
  ·exact sr fun K25 hK25 => ww H <| mv rfl rfl <| ag rfl rfl <| fun a H => nk hK25 <| c_ret <| e_ret1 H rfl rfl h
  ·refine c_skip <| hK13 _ _ <| c_reg <| ww H <| bn rfl rfl r_add rfl <| mv rfl rfl <| fun a H => c_nil <| Exists.intro (wr .i64 (s6 + 1)) ⟨h.1, h.2, H.weaken ⟨rfl, rfl, rfl, rfl, trivial⟩⟩
 ·refine c_exit ?_
  first | (simp only [Exit.then, Exit.inBlock, ↓reduceIte]; fail_if_success simp only [Nat.reduceEqDiff]) | simp only [Exit.then, Exit.inBlock, ↓reduceIte, Nat.reduceEqDiff]
  exact hK4 _ _ <| sr fun K29 hK29 => ww H <| ag rfl rfl <| fun a H => nk hK29 <| c_ret <| e_ret1 H rfl rfl h

end Go.Proofs.YtabifopphhpciaaGreatDoor

namespace Go.Proofs.YtabifopphhpciaaGreatDoor
open Go Go.Vc
set_option maxRecDepth 100000
set_option maxHeartbeats 4000000
end Go.Proofs.YtabifopphhpciaaGreatDoor
