/-
  The conditions give the machine's calls; printed by vcgen.py.
-/
import Derived.Test.YtabifopphhpciaaGreatDoorRecVc
namespace Go.Proofs.YtabifopphhpciaaGreatDoor
open Go Go.Vc
set_option maxRecDepth 100000
set_option maxHeartbeats 4000000
theorem sim_client_Client_requests (c1 : Option Addr) (s2 : Slc) (w : World) (Q : Ending → World → Prop) (h : vc_client_Client_requests c1 s2 w Q) : Calls PP F_client_Client_requests #[(.pointer c1), s2.v] w Q := by
 unfold vc_client_Client_requests at h
 have eP {L : List (Nat × Value)} (c : List PanicEntry) (w' : World) (a : Act) (h : Q (.panicked c) w') (H : Has 89 [] a L) : bodyPost PP Tryz.f48 Q (.panic c) a w' := e_panic H h
 refine enter (n := 89) Tryz.func48 rfl rfl (le_ rfl) fun a H => ?_
 obtain ⟨a5, h150, h⟩ := h
 refine sr fun K3 hK3 => ww H <| ag rfl rfl <| fun a H => nk hK3 <| sr fun K4 hK4 => ww H <| mv rfl rfl <| fun a H => ?_
 revert H
 revert h
 subst h150
 intro h H
 obtain ⟨l6, hc7, h⟩ := h
 refine ww H <| nl rfl rfl <| fd rfl fld_102_5 rfl <| ld rfl one_100 hc7 rfl <| ag rfl rfl <| fun a H => nk hK4 <| sr fun K8 hK8 => ww H <| ag rfl rfl <| fun a H => nk hK8 <| c_seq fun K9 hK9 => sr fun K10 hK10 => ww H <| mv rfl rfl <| bl (vs := [s2.v]) rfl rfl (fun cs => b_lenS (z := s2) sl_23) <| mv rfl rfl <| fun a H => nk hK10 <| c_block ?_
 obtain ⟨I14, m15, h148, h149⟩ := h
 refine c_loop (σ := Slc × Int) (fun z w => I14 z.1 z.2 w) (fun z w => m15 z.1 z.2 w) (fun z => [(0, (.pointer (some a5))), (5, (.pointer l6)), (6, z.1.v), (14, s2.v), (15, (.i (s2.l : Int))), (16, (.i z.2))]) (Slc.nil, 0) h148 (H.weaken ⟨rfl, rfl, rfl, rfl, rfl, rfl, trivial⟩) ?_
 clear H h148
 rintro ⟨o11, s12⟩ a w13 h H
 replace h := h149 o11 s12 w13 h
 clear h149
 replace H : Has 89 [] a [(0, (.pointer (some a5))), (5, (.pointer l6)), (6, o11.v), (14, s2.v), (15, (.i (s2.l : Int))), (16, (.i s12))] := H
 refine sr fun K16 hK16 => ww H <| bn rfl rfl r_lss rfl <| fun a H => nk hK16 <| c_seq fun K17 hK17 => cd H rfl h (fun h18 h => ?_) (fun h18 h => ?_)
 ·obtain ⟨a21, h22, h23, h24, h⟩ := h
  refine c_skip <| hK17 _ _ <| c_seq fun K19 hK19 => c_block <| sr fun K20 hK20 => s_idxS (s := s2) H rfl rfl rfl slc_23 h22 h23 h24 (lt_ rfl) fun a H => ?_
  obtain ⟨l25, hc26, h⟩ := h
  refine ww H <| ld rfl one_3 hc26 rfl <| ag rfl rfl <| fun a H => nk hK20 <| c_seq fun K27 hK27 => ?_
  replace H := H.weaken (L' := [(0, (.pointer (some a5))), (5, (.pointer l6)), (6, o11.v), (8, (.i l25)), (14, s2.v), (15, (.i (s2.l : Int))), (16, (.i s12))]) ⟨rfl, rfl, rfl, rfl, rfl, rfl, rfl, trivial⟩
  obtain ⟨l28, hc29, a30, h31, h⟩ := h
  revert H
  revert h
  subst h31
  intro h H
  obtain ⟨l32, hc33, l34, hc35, h⟩ := h
  refine c_any (V := [(0, (.pointer (some a5))), (1, (.pointer (some a5))), (2, (.pointer (some (a5.add 3)))), (3, (.i l28)), (4, (.i l25)), (5, (.pointer (some a30))), (6, (.pointer (some a30))), (7, (.pointer (some (a30.add 0)))), (8, (.i l32)), (9, (.pointer (some a30))), (10, (.pointer (some a30))), (11, (.pointer (some (a30.add 2)))), (12, (.string l34)), (13, (.agg #[(.i 0), (.i l28), (.i l25), (.i l32), (.string l34), (.i 0), (.i 0), (.i 0), (.i 0), (.bool false), Slc.nil.v]))]) (⟨[[], [0], [1], [2], [], [], [5], [6], [7], [], [9], [10], [11], [3, 4, 8, 12], [], [0, 1, 2, 3, 4, 5, 6, 7, 8, 9, 10, 11, 12, 13, 14]], [some 20, some 21, some 22, some 23, some 24, some 25, some 26, some 27, some 28, some 29, some 30, some 31, some 32, some 33, some 9, none], [14, 15], [0, 0, 0, 0, 0, 0, 0, 0, 0, 0, 0, 0, 0, 0, 0, 1], [1, 1, 1, 1, 1, 1, 1, 1, 1, 1, 1, 1, 1, 1, 1, 2]⟩ : Rg) [(0, (.pointer (some a5))), (5, (.pointer (some a30))), (6, o11.v), (8, (.i l25)), (14, s2.v), (15, (.i (s2.l : Int))), (16, (.i s12))] mixed (by kernel_rfl) H ?_
  refine Stg.eff [0, 1, 2, 3, 4, 5, 6, 7, 8, 9, 10, 11, 12, 13] (by kernel_rfl) rfl (.cons ?_ (.cons ?_ (.cons ?_ (.cons ?_ (.cons ?_ (.cons ?_ (.cons ?_ (.cons ?_ (.cons ?_ (.cons ?_ (.cons ?_ (.cons ?_ (.cons ?_ (.cons ?_ .nil)))))))))))))) ?_
  ·exact Aw rfl rfl <| mv rfl rfl <| An rfl
  ·exact Aw rfl rfl <| nl rfl rfl <| An rfl
  ·exact Aw rfl rfl <| fd rfl fld_102_1 rfl <| An rfl
  ·exact Aw rfl rfl <| ld rfl one_3 hc29 rfl <| An rfl
  ·exact Aw rfl rfl <| mv rfl rfl <| An rfl
  ·exact Aw rfl rfl <| mv rfl rfl <| An rfl
  ·exact Aw rfl rfl <| nl rfl rfl <| An rfl
  ·exact Aw rfl rfl <| fd rfl fld_116_0 rfl <| An rfl
  ·exact Aw rfl rfl <| ld rfl one_2 hc33 rfl <| An rfl
  ·exact Aw rfl rfl <| mv rfl rfl <| An rfl
  ·exact Aw rfl rfl <| nl rfl rfl <| An rfl
  ·exact Aw rfl rfl <| fd rfl fld_116_2 rfl <| An rfl
  ·exact Aw rfl rfl <| ld rfl one_9 hc35 rfl <| An rfl
  ·exact Ans.mk rfl rfl fun a H => s_build H rfl (by rw [H.parts (vs := [(1, (.i l28)), (2, (.i l25)), (3, (.i l32)), (4, (.string l34))]) rfl]; exact bd_56_ii641_ii642_ii643_s4 _ l28 l25 l32 l34) (lt_ rfl) fun a H => Ans.fin H rfl
  ·refine al h zero_56 rfl rfl rfl fun b36 w37 n38 h => fun a H => ?_
   obtain ⟨hc39, hc40, hc41, h⟩ := h
   refine c_nil <| effQ.go [] H rfl rfl <| Stg.eff [0, 1, 2, 3, 4, 5, 6, 7, 8, 9, 10, 11, 12, 13] (by kernel_rfl) rfl (.cons ?_ (.cons ?_ (.cons ?_ (.cons ?_ (.cons ?_ (.cons ?_ (.cons ?_ (.cons ?_ (.cons ?_ (.cons ?_ (.cons ?_ (.cons ?_ (.cons ?_ (.cons ?_ .nil)))))))))))))) ?_
   ·exact Aw rfl rfl <| mv rfl rfl <| An rfl
   ·exact Aw rfl rfl <| nl rfl rfl <| An rfl
   ·exact Aw rfl rfl <| fd rfl fld_102_1 rfl <| An rfl
   ·exact Aw rfl rfl <| ld rfl one_3 hc39 rfl <| An rfl
   ·exact Aw rfl rfl <| mv rfl rfl <| An rfl
   ·exact Aw rfl rfl <| mv rfl rfl <| An rfl
   ·exact Aw rfl rfl <| nl rfl rfl <| An rfl
   ·exact Aw rfl rfl <| fd rfl fld_116_0 rfl <| An rfl
   ·exact Aw rfl rfl <| ld rfl one_2 hc40 rfl <| An rfl
   ·exact Aw rfl rfl <| mv rfl rfl <| An rfl
   ·exact Aw rfl rfl <| nl rfl rfl <| An rfl
   ·exact Aw rfl rfl <| fd rfl fld_116_2 rfl <| An rfl
   ·exact Aw rfl rfl <| ld rfl one_9 hc41 rfl <| An rfl
   ·exact Ans.mk rfl rfl fun a H => s_build H rfl (by rw [H.parts (vs := [(1, (.i l28)), (2, (.i l25)), (3, (.i l32)), (4, (.string l34))]) rfl]; exact bd_56_ii641_ii642_ii643_s4 _ l28 l25 l32 l34) (lt_ rfl) fun a H => Ans.fin H rfl
   ·refine sN h rfl rfl agg_56 rfl rfl fun w42 h => fun a H => c_nil <| effQ.go0 [] H rfl rfl <| Stg.fin [] (by kernel_rfl) .nil ?_
    ·intro a H
     replace H := H.weaken (L' := [(0, (.pointer (some a5))), (5, (.pointer (some a30))), (6, o11.v), (8, (.i l25)), (9, (.pointer (some (blk b36)))), (14, s2.v), (15, (.i (s2.l : Int))), (16, (.i s12))]) ⟨rfl, rfl, rfl, rfl, rfl, rfl, rfl, rfl, trivial⟩
     refine hK27 _ _ <| c_seq fun K43 hK43 => ?_
     obtain ⟨R44, h, h146⟩ := h
     have h74 : ∀ (a : Act) (w45 : World), R44 w45 → Has 89 [] a [(0, (.pointer (some a5))), (5, (.pointer (some a30))), (6, o11.v), (9, (.pointer (some (blk b36)))), (14, s2.v), (15, (.i (s2.l : Int))), (16, (.i s12))] → K43 a w45 := by
      clear h
      intro a w45 h H
      replace h := h146 w45 h
      obtain ⟨K46, hc47, C48, hc49, S50, hc51, O52, hc53, K54, hc55, C56, hc57, C58, hc59, C60, hc61, C62, hc63, H64, hc65, D66, hc67, h⟩ := h
      refine hK43 _ _ <| c_reg <| ww H <| mv rfl rfl <| lN (l := [(.i K46), (.i C48), (.i S50), (.i O52), (.string K54), (.i C56), (.i C58), (.i C60), (.i C62), (.bool H64), D66.v]) rfl agg_56 rfl ⟨hc47, hc49, hc51, hc53, hc55, hc57, hc59, hc61, hc63, hc65, hc67, trivial⟩ rfl <| fun a H => ?_
      replace h := h.get
      obtain ⟨b68, w69, n70, h⟩ := h
      refine s_bslc H rfl (by rw [H.parts (vs := [(0, (.agg #[(.i K46), (.i C48), (.i S50), (.i O52), (.string K54), (.i C56), (.i C58), (.i C60), (.i C62), (.bool H64), D66.v]))]) rfl]; exact bs_46_1_ii64ii64ii64ii64sii64ii64ii64ii64bs0 w45 K46 C48 S50 O52 K54 C56 C58 C60 C62 H64 D66) (lt_ rfl) ?_
      rw [← n70.at_]
      clear H a
      intro a H
      refine n70.go ?_
      obtain ⟨s71, w72, h73, h⟩ := h
      refine s_blt H rfl (H.args (vs := [o11.v, (Slc.v (Slc.mk (some (blk b68)) 1 1))]) rfl) (lt_ rfl) (fun cs => b_app (z := s71) h73) ?_
      clear H a h73
      intro a H
      refine ww H <| ag rfl rfl <| fun a H => nk hK19 <| c_reg <| ww H <| bn rfl rfl r_add rfl <| mv rfl rfl <| fun a H => c_nil <| Exists.intro (s71, wr .i64 (s12 + 1)) ⟨h.1, h.2, H.weaken ⟨rfl, rfl, rfl, rfl, rfl, rfl, trivial⟩⟩
     clear h146
     obtain ⟨l76, hc77, h⟩ := h
     refine sr fun K75 hK75 => ww H <| mv rfl rfl <| nl rfl rfl <| fd rfl fld_116_4 rfl <| ld rfl one_113 hc77 rfl <| fun a H => nk hK75 <| c_block <| sr fun K78 hK78 => ?_
     obtain ⟨_, h81, o79, rfl, h⟩ := h
     refine s_tas H rfl rfl (h81 _) (lt_ rfl) fun a H => ww H <| ex rfl rfl rfl <| ex rfl rfl rfl <| fun a H => nk hK78 <| cd H rfl h (fun h82 h => ?_) (fun h82 h => ?_)
     ·exact c_reg <| ww H <| fd rfl fld_56_0 rfl <| st h rfl rfl one_3 rfl fun w83 w83S h => fun a H => c_nil <| h74 _ _ h (H.weaken ⟨rfl, rfl, rfl, rfl, rfl, rfl, rfl, trivial⟩)
     ·refine sr fun K86 hK86 => ?_
      obtain ⟨_, h89, o87, rfl, h⟩ := h
      refine s_tas H rfl rfl (h89 _) (lt_ rfl) fun a H => ww H <| ex rfl rfl rfl <| ex rfl rfl rfl <| fun a H => nk hK86 <| cd H rfl h (fun h90 h => ?_) (fun h90 h => ?_)
      ·refine c_seq fun K91 hK91 => ?_
       replace H := H.weaken (L' := [(0, (.pointer (some a5))), (5, (.pointer (some a30))), (6, o11.v), (8, (.i l25)), (9, (.pointer (some (blk b36)))), (14, s2.v), (15, (.i (s2.l : Int))), (16, (.i s12))]) ⟨rfl, rfl, rfl, rfl, rfl, rfl, rfl, rfl, trivial⟩
       obtain ⟨C92, hc93, C94, hc95, h⟩ := h
       refine c_any (V := [(0, (.pointer (some a30))), (1, (.pointer (some a30))), (2, (.pointer (some (a30.add 5)))), (3, (.agg #[(.i C92), (.i C94)])), (4, (.pointer (some ((blk b36).add 0))))]) (⟨[[], [0], [1], [2], [], [4], [0, 1, 2, 3, 4, 5], [0, 1, 2, 3, 4, 5, 6]], [some 45, some 46, some 47, some 48, some 49, none, some 50, none], [5, 7], [0, 0, 0, 0, 0, 0, 1, 1], [1, 1, 1, 1, 0, 1, 1, 2]⟩ : Rg) [(0, (.pointer (some a5))), (5, (.pointer (some a30))), (6, o11.v), (8, (.i l25)), (9, (.pointer (some (blk b36)))), (14, s2.v), (15, (.i (s2.l : Int))), (16, (.i s12))] mixed (by kernel_rfl) H <| Stg.eff [0, 1, 2, 3, 4] (by kernel_rfl) rfl (.cons ?_ (.cons ?_ (.cons ?_ (.cons ?_ (.cons ?_ .nil))))) ?_
       ·exact Aw rfl rfl <| mv rfl rfl <| An rfl
       ·exact Aw rfl rfl <| nl rfl rfl <| An rfl
       ·exact Aw rfl rfl <| fd rfl fld_116_5 rfl <| An rfl
       ·exact Aw rfl rfl <| lN (l := [(.i C92), (.i C94)]) rfl agg_27 rfl ⟨hc93, hc95, trivial⟩ rfl <| An rfl
       ·exact Aw rfl rfl <| fd rfl fld_56_0 rfl <| An rfl
       ·refine st h rfl rfl one_3 rfl fun w96 w96S h => fun a H => ?_
        obtain ⟨hc99, hc100, h⟩ := h
        refine c_nil <| effQ.go0 [(6, (.pointer (some ((blk b36).add 5))))] H rfl rfl <| Stg.eff [0, 1, 2, 3, 6] (by kernel_rfl) rfl (.cons ?_ (.cons ?_ (.cons ?_ (.cons ?_ (.cons ?_ .nil))))) ?_
        ·exact Aw rfl rfl <| mv rfl rfl <| An rfl
        ·exact Aw rfl rfl <| nl rfl rfl <| An rfl
        ·exact Aw rfl rfl <| fd rfl fld_116_5 rfl <| An rfl
        ·exact Aw rfl rfl <| lN (l := [(.i C92), (.i C94)]) rfl agg_27 rfl ⟨hc99, hc100, trivial⟩ rfl <| An rfl
        ·exact Aw rfl rfl <| fd rfl fld_56_5 rfl <| An rfl
        ·refine sN h rfl rfl agg_27 rfl rfl fun w101 h => fun a H => c_nil <| effQ.go0 [] H rfl rfl <| Stg.fin [] (by kernel_rfl) .nil ?_
         ·intro a H
          replace H := H.weaken (L' := [(0, (.pointer (some a5))), (5, (.pointer (some a30))), (6, o11.v), (8, (.i l25)), (9, (.pointer (some (blk b36)))), (14, s2.v), (15, (.i (s2.l : Int))), (16, (.i s12))]) ⟨rfl, rfl, rfl, rfl, rfl, rfl, rfl, rfl, trivial⟩
          refine hK91 _ _ ?_
          replace H := H.weaken (L' := [(0, (.pointer (some a5))), (5, (.pointer (some a30))), (6, o11.v), (8, (.i l25)), (9, (.pointer (some (blk b36)))), (14, s2.v), (15, (.i (s2.l : Int))), (16, (.i s12))]) ⟨rfl, rfl, rfl, rfl, rfl, rfl, rfl, rfl, trivial⟩
          obtain ⟨l102, hc103, l104, hc105, h⟩ := h
          refine c_any (V := [(0, (.pointer (some a5))), (1, (.pointer (some a5))), (2, (.pointer (some (a5.add 4)))), (3, (.pointer l102)), (4, (.pointer (some a30))), (5, (.pointer (some a30))), (6, (.pointer (some (a30.add 3)))), (7, l104.v), (8, (.i l25))]) (⟨[[], [0], [1], [2], [], [4], [5], [6], [], [3, 7, 8], [9], [10], [10], [0, 1, 2, 3, 4, 5, 6, 7, 8, 9, 10, 11], [0, 1, 2, 3, 4, 5, 6, 7, 8, 9, 10, 11, 13]], [some 52, some 53, some 54, some 55, some 56, some 57, some 58, some 59, some 60, some 61, some 51, some 62, some 63, some 64, none], [9, 14], [0, 0, 0, 0, 0, 0, 0, 0, 0, 0, 1, 1, 1, 1, 1], [0, 0, 0, 0, 0, 0, 0, 0, 0, 1, 1, 1, 2, 1, 2]⟩ : Rg) [(0, (.pointer (some a5))), (5, (.pointer (some a30))), (6, o11.v), (8, (.i l25)), (9, (.pointer (some (blk b36)))), (14, s2.v), (15, (.i (s2.l : Int))), (16, (.i s12))] mixed (by kernel_rfl) H <| Stg.eff [0, 1, 2, 3, 4, 5, 6, 7, 8] (by kernel_rfl) rfl (.cons ?_ (.cons ?_ (.cons ?_ (.cons ?_ (.cons ?_ (.cons ?_ (.cons ?_ (.cons ?_ (.cons ?_ .nil))))))))) ?_
          ·exact Aw rfl rfl <| mv rfl rfl <| An rfl
          ·exact Aw rfl rfl <| nl rfl rfl <| An rfl
          ·exact Aw rfl rfl <| fd rfl fld_102_2 rfl <| An rfl
          ·exact Aw rfl rfl <| ld rfl one_42 hc103 rfl <| An rfl
          ·exact Aw rfl rfl <| mv rfl rfl <| An rfl
          ·exact Aw rfl rfl <| nl rfl rfl <| An rfl
          ·exact Aw rfl rfl <| fd rfl fld_116_3 rfl <| An rfl
          ·exact Aw rfl rfl <| ld rfl one_49 hc105 rfl <| An rfl
          ·exact Aw rfl rfl <| mv rfl rfl <| An rfl
          ·refine cl2 h body_85 rfl rfl eP fun C107 C108 w106 h => fun a H => c_nil <| effQ.go [(10, (.tuple #[C107.v, (.i C108)])), (11, C107.v), (12, (.i C108)), (13, (.pointer (some ((blk b36).add 10))))] H rfl rfl <| Stg.eff [10, 11, 12, 13] (by kernel_rfl) rfl (.cons ?_ (.cons ?_ (.cons ?_ (.cons ?_ .nil)))) ?_
           ·exact Aw rfl rfl <| mv rfl rfl <| An rfl
           ·exact Aw rfl rfl <| ex rfl rfl rfl <| An rfl
           ·exact Aw rfl rfl <| ex rfl rfl rfl <| An rfl
           ·exact Aw rfl rfl <| fd rfl fld_56_8 rfl <| An rfl
           ·refine st h rfl rfl one_49 rfl fun w109 w109S h => fun a H => c_nil <| effQ.go0 [] H rfl rfl <| Stg.fin [12] (by kernel_rfl) (.cons ?_ .nil) ?_
            ·exact Aw rfl rfl <| ex rfl rfl rfl <| An rfl
            ·intro a H
             replace H := H.weaken (L' := [(0, (.pointer (some a5))), (5, (.pointer (some a30))), (6, o11.v), (9, (.pointer (some (blk b36)))), (14, s2.v), (15, (.i (s2.l : Int))), (16, (.i s12))]) ⟨rfl, rfl, rfl, rfl, rfl, rfl, rfl, trivial⟩
             exact h74 _ _ h (H.weaken ⟨rfl, rfl, rfl, rfl, rfl, rfl, rfl, trivial⟩)
      ·refine sr fun K116 hK116 => ?_
       obtain ⟨_, h119, o117, rfl, h⟩ := h
       refine s_tas H rfl rfl (h119 _) (lt_ rfl) fun a H => ww H <| ex rfl rfl rfl <| ex rfl rfl rfl <| fun a H => nk hK116 <| cd H rfl h (fun h120 h => ?_) (fun h120 h => ?_)
       ·replace H := H.weaken (L' := [(0, (.pointer (some a5))), (5, (.pointer (some a30))), (6, o11.v), (9, (.pointer (some (blk b36)))), (14, s2.v), (15, (.i (s2.l : Int))), (16, (.i s12))]) ⟨rfl, rfl, rfl, rfl, rfl, rfl, rfl, trivial⟩
        obtain ⟨C121, hc122, C123, hc124, h⟩ := h
        refine c_any (V := [(0, (.pointer (some a30))), (1, (.pointer (some a30))), (2, (.pointer (some (a30.add 5)))), (3, (.agg #[(.i C121), (.i C123)])), (4, (.pointer (some ((blk b36).add 0))))]) (⟨[[], [0], [1], [2], [], [4], [0, 1, 2, 3, 4, 5], [0, 1, 2, 3, 4, 5, 6]], [some 68, some 69, some 70, some 71, some 72, none, some 73, none], [5, 7], [0, 0, 0, 0, 0, 0, 1, 1], [1, 1, 1, 1, 0, 1, 1, 2]⟩ : Rg) [(0, (.pointer (some a5))), (5, (.pointer (some a30))), (6, o11.v), (9, (.pointer (some (blk b36)))), (14, s2.v), (15, (.i (s2.l : Int))), (16, (.i s12))] mixed (by kernel_rfl) H <| Stg.eff [0, 1, 2, 3, 4] (by kernel_rfl) rfl (.cons ?_ (.cons ?_ (.cons ?_ (.cons ?_ (.cons ?_ .nil))))) ?_
        ·exact Aw rfl rfl <| mv rfl rfl <| An rfl
        ·exact Aw rfl rfl <| nl rfl rfl <| An rfl
        ·exact Aw rfl rfl <| fd rfl fld_116_5 rfl <| An rfl
        ·exact Aw rfl rfl <| lN (l := [(.i C121), (.i C123)]) rfl agg_27 rfl ⟨hc122, hc124, trivial⟩ rfl <| An rfl
        ·exact Aw rfl rfl <| fd rfl fld_56_0 rfl <| An rfl
        ·refine st h rfl rfl one_3 rfl fun w125 w125S h => fun a H => ?_
         obtain ⟨hc128, hc129, h⟩ := h
         refine c_nil <| effQ.go0 [(6, (.pointer (some ((blk b36).add 5))))] H rfl rfl <| Stg.eff [0, 1, 2, 3, 6] (by kernel_rfl) rfl (.cons ?_ (.cons ?_ (.cons ?_ (.cons ?_ (.cons ?_ .nil))))) ?_
         ·exact Aw rfl rfl <| mv rfl rfl <| An rfl
         ·exact Aw rfl rfl <| nl rfl rfl <| An rfl
         ·exact Aw rfl rfl <| fd rfl fld_116_5 rfl <| An rfl
         ·exact Aw rfl rfl <| lN (l := [(.i C121), (.i C123)]) rfl agg_27 rfl ⟨hc128, hc129, trivial⟩ rfl <| An rfl
         ·exact Aw rfl rfl <| fd rfl fld_56_5 rfl <| An rfl
         ·refine sN h rfl rfl agg_27 rfl rfl fun w130 h => fun a H => c_nil <| effQ.go0 [] H rfl rfl <| Stg.fin [] (by kernel_rfl) .nil ?_
          ·intro a H
           replace H := H.weaken (L' := [(0, (.pointer (some a5))), (5, (.pointer (some a30))), (6, o11.v), (9, (.pointer (some (blk b36)))), (14, s2.v), (15, (.i (s2.l : Int))), (16, (.i s12))]) ⟨rfl, rfl, rfl, rfl, rfl, rfl, rfl, trivial⟩
           exact h74 _ _ h (H.weaken ⟨rfl, rfl, rfl, rfl, rfl, rfl, rfl, trivial⟩)
       ·refine sr fun K131 hK131 => ?_
        obtain ⟨_, h134, o132, rfl, h⟩ := h
        refine s_tas H rfl rfl (h134 _) (lt_ rfl) fun a H => ww H <| ex rfl rfl rfl <| ex rfl rfl rfl <| fun a H => nk hK131 <| cd H rfl h (fun h135 h => ?_) (fun h135 h => ?_)
        ·replace H := H.weaken (L' := [(0, (.pointer (some a5))), (5, (.pointer (some a30))), (6, o11.v), (9, (.pointer (some (blk b36)))), (14, s2.v), (15, (.i (s2.l : Int))), (16, (.i s12))]) ⟨rfl, rfl, rfl, rfl, rfl, rfl, rfl, trivial⟩
         obtain ⟨C136, hc137, C138, hc139, h⟩ := h
         refine c_any (V := [(0, (.pointer (some a30))), (1, (.pointer (some a30))), (2, (.pointer (some (a30.add 5)))), (3, (.agg #[(.i C136), (.i C138)])), (4, (.pointer (some ((blk b36).add 0))))]) (⟨[[], [0], [1], [2], [], [4], [0, 1, 2, 3, 4, 5], [0, 1, 2, 3, 4, 5, 6]], [some 77, some 78, some 79, some 80, some 81, none, some 82, none], [5, 7], [0, 0, 0, 0, 0, 0, 1, 1], [1, 1, 1, 1, 0, 1, 1, 2]⟩ : Rg) [(0, (.pointer (some a5))), (5, (.pointer (some a30))), (6, o11.v), (9, (.pointer (some (blk b36)))), (14, s2.v), (15, (.i (s2.l : Int))), (16, (.i s12))] mixed (by kernel_rfl) H <| Stg.eff [0, 1, 2, 3, 4] (by kernel_rfl) rfl (.cons ?_ (.cons ?_ (.cons ?_ (.cons ?_ (.cons ?_ .nil))))) ?_
         ·exact Aw rfl rfl <| mv rfl rfl <| An rfl
         ·exact Aw rfl rfl <| nl rfl rfl <| An rfl
         ·exact Aw rfl rfl <| fd rfl fld_116_5 rfl <| An rfl
         ·exact Aw rfl rfl <| lN (l := [(.i C136), (.i C138)]) rfl agg_27 rfl ⟨hc137, hc139, trivial⟩ rfl <| An rfl
         ·exact Aw rfl rfl <| fd rfl fld_56_0 rfl <| An rfl
         ·refine st h rfl rfl one_3 rfl fun w140 w140S h => fun a H => ?_
          obtain ⟨hc143, hc144, h⟩ := h
          refine c_nil <| effQ.go0 [(6, (.pointer (some ((blk b36).add 5))))] H rfl rfl <| Stg.eff [0, 1, 2, 3, 6] (by kernel_rfl) rfl (.cons ?_ (.cons ?_ (.cons ?_ (.cons ?_ (.cons ?_ .nil))))) ?_
          ·exact Aw rfl rfl <| mv rfl rfl <| An rfl
          ·exact Aw rfl rfl <| nl rfl rfl <| An rfl
          ·exact Aw rfl rfl <| fd rfl fld_116_5 rfl <| An rfl
          ·exact Aw rfl rfl <| lN (l := [(.i C136), (.i C138)]) rfl agg_27 rfl ⟨hc143, hc144, trivial⟩ rfl <| An rfl
          ·exact Aw rfl rfl <| fd rfl fld_56_5 rfl <| An rfl
          ·refine sN h rfl rfl agg_27 rfl rfl fun w145 h => fun a H => c_nil <| effQ.go0 [] H rfl rfl <| Stg.fin [] (by kernel_rfl) .nil ?_
           ·intro a H
            replace H := H.weaken (L' := [(0, (.pointer (some a5))), (5, (.pointer (some a30))), (6, o11.v), (9, (.pointer (some (blk b36)))), (14, s2.v), (15, (.i (s2.l : Int))), (16, (.i s12))]) ⟨rfl, rfl, rfl, rfl, rfl, rfl, rfl, trivial⟩
            exact h74 _ _ h (H.weaken ⟨rfl, rfl, rfl, rfl, rfl, rfl, rfl, trivial⟩)
        ·exact c_skip <| h74 _ _ h (H.weaken ⟨rfl, rfl, rfl, rfl, rfl, rfl, rfl, trivial⟩)
 ·refine c_exit ?_
  first | (simp only [Exit.then, Exit.inBlock, ↓reduceIte]; fail_if_success simp only [Nat.reduceEqDiff]) | simp only [Exit.then, Exit.inBlock, ↓reduceIte, Nat.reduceEqDiff]
  exact hK9 _ _ <| sr fun K147 hK147 => ww H <| mv rfl rfl <| ag rfl rfl <| fun a H => nk hK147 <| c_ret <| e_ret1 H rfl rfl h

theorem sim_client_Client_counts (c1 : Option Addr) (K2 C3 S4 O5 : Int) (K6 : ByteArray) (C7 C8 C9 C10 : Int) (H11 : Bool) (D12 : Slc) (w : World) (Q : Ending → World → Prop) (h : vc_client_Client_counts c1 K2 C3 S4 O5 K6 C7 C8 C9 C10 H11 D12 w Q) : Calls PP F_client_Client_counts #[(.pointer c1), (.agg #[(.i K2), (.i C3), (.i S4), (.i O5), (.string K6), (.i C7), (.i C8), (.i C9), (.i C10), (.bool H11), D12.v])] w Q := by
 unfold vc_client_Client_counts at h
 have eP {L : List (Nat × Value)} (c : List PanicEntry) (w' : World) (a : Act) (h : Q (.panicked c) w') (H : Has 119 [] a L) : bodyPost PP Tryz.f49 Q (.panic c) a w' := e_panic H h
 refine enter (n := 119) Tryz.func49 rfl rfl (le_ rfl) fun a H => sr fun K13 hK13 => ww H <| bx h rfl rfl rfl rfl fun b14 w15 n16 h => fun a H => ?_
 obtain ⟨a18, h150, h⟩ := h
 refine ww H <| ag rfl rfl <| fun a H => nk hK13 <| sr fun K17 hK17 => ww H <| mv rfl rfl <| fun a H => ?_
 revert H
 revert h
 subst h150
 intro h H
 obtain ⟨l19, hc20, h⟩ := h
 refine ww H <| nl rfl rfl <| fd rfl fld_102_5 rfl <| ld rfl one_100 hc20 rfl <| ag rfl rfl <| fun a H => nk hK17 <| c_seq fun K21 hK21 => c_seq fun K22 hK22 => c_regD mixed (by kernel_rfl) <| z_move H rfl rfl (lt_ rfl) fun a H => z_bin H rfl rfl rfl (r_eqP0 ptr_100) (lt_ rfl) fun a H => z_move H rfl rfl (lt_ rfl) fun a H => ?_
 obtain ⟨x28, h29, h30, h⟩ := h
 refine zg_join (n := 119) [(20, (.bool x28)), (0, (.pointer (some a18))), (3, (.pointer (some (blk b14)))), (5, (.pointer l19))] (.succ (.succ (.succ (.succ (.succ (.succ (.succ (.succ (.zero _))))))))) ?_ ?_
 ·intro h25
  try clear h
  rcases Bool.eq_false_or_eq_true l19.isNone with h24 | h24
  ·replace H := H.ch (t := 12) (b := true) rfl h24
   iterate 7 refine z_skip H (wantN H rfl rfl rfl) rfl (lt_ rfl) fun a H => ?_
   refine z_pickT H rfl rfl rfl (lt_ rfl) fun a H => ?_
   replace h := h30 h24
   subst h
   exact h25 _ (H.weaken ⟨rfl, rfl, rfl, rfl, trivial⟩)
  ·replace H := H.ch (t := 12) (b := false) rfl h24
   replace h := h29 h24
   refine z_fld H (wantG H rfl rfl) rfl fld_56_1 (lt_ rfl) fun a H => z_load (v := (.i C3)) H (wantG H rfl rfl) rfl one_3 (n16.cell (i := 1) rfl) (lt_ rfl) fun a H => z_move H (wantG H rfl rfl) rfl (lt_ rfl) fun a H => z_nil H (wantG H rfl rfl) rfl (lt_ rfl) fun a H => z_fld H (wantG H rfl rfl) rfl fld_102_1 (lt_ rfl) fun a H => ?_
   obtain ⟨l26, hc27, h⟩ := h
   refine z_load (v := (.i l26)) H (wantG H rfl rfl) rfl one_3 hc27 (lt_ rfl) fun a H => z_bin H (wantG H rfl rfl) rfl rfl r_neq (lt_ rfl) fun a H => z_pickF H rfl rfl rfl (lt_ rfl) fun a H => ?_
   subst h
   exact h25 _ (H.weaken ⟨rfl, rfl, rfl, rfl, trivial⟩)
 ·clear H a
  clear h29 h30
  intro a H
  refine z_move H rfl rfl (lt_ rfl) fun a H => ?_
  obtain ⟨x37, h38, h39, h⟩ := h
  refine zg_join (n := 119) [(29, (.bool x37)), (0, (.pointer (some a18))), (3, (.pointer (some (blk b14)))), (5, (.pointer l19))] (.succ (.succ (.succ (.succ (.succ (.succ (.succ (.succ (.zero _))))))))) ?_ ?_
  ·intro h32
   try clear h
   rcases Bool.eq_false_or_eq_true x28 with h31 | h31
   ·replace H := H.ch (t := 21) (b := true) rfl h31
    iterate 7 refine z_skip H (wantN H rfl rfl rfl) rfl (lt_ rfl) fun a H => ?_
    refine z_pickT H rfl rfl rfl (lt_ rfl) fun a H => ?_
    replace h := h39 h31
    subst h
    exact h32 _ (H.weaken ⟨rfl, rfl, rfl, rfl, trivial⟩)
   ·replace H := H.ch (t := 21) (b := false) rfl h31
    replace h := h38 h31
    refine z_fld H (wantG H rfl rfl) rfl fld_56_3 (lt_ rfl) fun a H => z_load (v := (.i O5)) H (wantG H rfl rfl) rfl one_2 (n16.cell (i := 3) rfl) (lt_ rfl) fun a H => z_move H (wantG H rfl rfl) rfl (lt_ rfl) fun a H => ?_
    obtain ⟨a33, h36, h⟩ := h
    revert H
    revert h
    subst h36
    intro h H
    refine z_nil H (wantG H rfl rfl) rfl (lt_ rfl) fun a H => z_fld H (wantG H rfl rfl) rfl fld_116_0 (lt_ rfl) fun a H => ?_
    obtain ⟨l34, hc35, h⟩ := h
    refine z_load (v := (.i l34)) H (wantG H rfl rfl) rfl one_2 hc35 (lt_ rfl) fun a H => z_bin H (wantG H rfl rfl) rfl rfl r_neq (lt_ rfl) fun a H => z_pickF H rfl rfl rfl (lt_ rfl) fun a H => ?_
    subst h
    exact h32 _ (H.weaken ⟨rfl, rfl, rfl, rfl, trivial⟩)
  ·clear H a
   clear h38 h39
   intro a H
   refine z_move H rfl rfl (lt_ rfl) fun a H => ?_
   obtain ⟨x46, h47, h48, h⟩ := h
   refine zg_join (n := 119) [(38, (.bool x46)), (0, (.pointer (some a18))), (3, (.pointer (some (blk b14)))), (5, (.pointer l19))] (.succ (.succ (.succ (.succ (.succ (.succ (.succ (.succ (.zero _))))))))) ?_ ?_
   ·intro h41
    try clear h
    rcases Bool.eq_false_or_eq_true x37 with h40 | h40
    ·replace H := H.ch (t := 30) (b := true) rfl h40
     iterate 7 refine z_skip H (wantN H rfl rfl rfl) rfl (lt_ rfl) fun a H => ?_
     refine z_pickT H rfl rfl rfl (lt_ rfl) fun a H => ?_
     replace h := h48 h40
     subst h
     exact h41 _ (H.weaken ⟨rfl, rfl, rfl, rfl, trivial⟩)
    ·replace H := H.ch (t := 30) (b := false) rfl h40
     replace h := h47 h40
     refine z_fld H (wantG H rfl rfl) rfl fld_56_4 (lt_ rfl) fun a H => z_load (v := (.string K6)) H (wantG H rfl rfl) rfl one_9 (n16.cell (i := 4) rfl) (lt_ rfl) fun a H => z_move H (wantG H rfl rfl) rfl (lt_ rfl) fun a H => ?_
     obtain ⟨a42, h45, h⟩ := h
     revert H
     revert h
     subst h45
     intro h H
     refine z_nil H (wantG H rfl rfl) rfl (lt_ rfl) fun a H => z_fld H (wantG H rfl rfl) rfl fld_116_2 (lt_ rfl) fun a H => ?_
     obtain ⟨l43, hc44, h⟩ := h
     refine z_load (v := (.string l43)) H (wantG H rfl rfl) rfl one_9 hc44 (lt_ rfl) fun a H => z_bin H (wantG H rfl rfl) rfl rfl r_neqS (lt_ rfl) fun a H => z_pickF H rfl rfl rfl (lt_ rfl) fun a H => ?_
     subst h
     exact h41 _ (H.weaken ⟨rfl, rfl, rfl, rfl, trivial⟩)
   ·clear H a
    clear h47 h48
    intro a H
    refine z_move H rfl rfl (lt_ rfl) fun a H => zg_join (n := 119) [(43, (.bool (x46 || (decide (S4 < 0))))), (0, (.pointer (some a18))), (3, (.pointer (some (blk b14)))), (5, (.pointer l19))] (.succ (.succ (.succ (.succ (.zero _))))) ?_ ?_
    ·intro h50
     try clear h
     rcases Bool.eq_false_or_eq_true x46 with h49 | h49
     ·replace H := H.ch (t := 39) (b := true) rfl h49
      iterate 3 refine z_skip H (wantN H rfl rfl rfl) rfl (lt_ rfl) fun a H => ?_
      exact z_pickT H rfl rfl rfl (lt_ rfl) fun a H => h50 _ (H.weaken ⟨by rw [h49]; rfl, rfl, rfl, rfl, trivial⟩)
     ·replace H := H.ch (t := 39) (b := false) rfl h49
      exact z_fld H (wantG H rfl rfl) rfl fld_56_2 (lt_ rfl) fun a H => z_load (v := (.i S4)) H (wantG H rfl rfl) rfl one_3 (n16.cell (i := 2) rfl) (lt_ rfl) fun a H => z_bin H (wantG H rfl rfl) rfl rfl r_lss (lt_ rfl) fun a H => z_pickF H rfl rfl rfl (lt_ rfl) fun a H => h50 _ (H.weaken ⟨by rw [h49]; rfl, rfl, rfl, rfl, trivial⟩)
    ·clear H a
     intro a H
     refine z_move H rfl rfl (lt_ rfl) fun a H => ?_
     obtain ⟨x55, h56, h57, h⟩ := h
     refine zg_join (n := 119) [(53, (.bool x55)), (3, (.pointer (some (blk b14)))), (5, (.pointer l19))] (.succ (.succ (.succ (.succ (.succ (.succ (.succ (.succ (.succ (.zero _)))))))))) ?_ ?_
     ·intro h52
      try clear h
      rcases Bool.eq_false_or_eq_true (x46 || (decide (S4 < 0))) with h51 | h51
      ·replace H := H.ch (t := 44) (b := true) rfl h51
       iterate 8 refine z_skip H (wantN H rfl rfl rfl) rfl (lt_ rfl) fun a H => ?_
       refine z_pickT H rfl rfl rfl (lt_ rfl) fun a H => ?_
       replace h := h57 h51
       subst h
       exact h52 _ (H.weaken ⟨rfl, rfl, rfl, trivial⟩)
      ·replace H := H.ch (t := 44) (b := false) rfl h51
       replace h := h56 h51
       refine z_fld H (wantG H rfl rfl) rfl fld_56_2 (lt_ rfl) fun a H => z_load (v := (.i S4)) H (wantG H rfl rfl) rfl one_3 (n16.cell (i := 2) rfl) (lt_ rfl) fun a H => z_move H (wantG H rfl rfl) rfl (lt_ rfl) fun a H => z_nil H (wantG H rfl rfl) rfl (lt_ rfl) fun a H => z_fld H (wantG H rfl rfl) rfl fld_102_0 (lt_ rfl) fun a H => z_fld H (wantG H rfl rfl) rfl fld_35_0 (lt_ rfl) fun a H => ?_
       obtain ⟨l53, hc54, h⟩ := h
       refine z_load (v := (.i l53)) H (wantG H rfl rfl) rfl one_3 hc54 (lt_ rfl) fun a H => z_bin H (wantG H rfl rfl) rfl rfl r_geq (lt_ rfl) fun a H => z_pickF H rfl rfl rfl (lt_ rfl) fun a H => ?_
       subst h
       exact h52 _ (H.weaken ⟨rfl, rfl, rfl, trivial⟩)
     ·clear H a
      clear h56 h57
      intro a H
      refine wpQuiet_nil ?_
      rintro _ ⟨k23, rfl⟩
      replace h := h k23
      refine hK22 _ _ <| cd H rfl h (fun h58 h => ?_) (fun h58 h => ?_)
      ·exact sr fun K59 hK59 => ww H <| ag rfl rfl <| fun a H => nk hK59 <| c_ret <| e_ret1 H rfl rfl h
      ·obtain ⟨a62, h149, h⟩ := h
       refine c_skip <| hK21 _ _ <| c_seq fun K60 hK60 => sr fun K61 hK61 => ww H <| mv rfl rfl <| fun a H => ?_
       revert H
       revert h
       subst h149
       intro h H
       obtain ⟨l63, hc64, h⟩ := h
       refine ww H <| nl rfl rfl <| fd rfl fld_116_4 rfl <| ld rfl one_113 hc64 rfl <| fun a H => nk hK61 <| c_block <| sr fun K65 hK65 => ?_
       obtain ⟨_, h68, o66, rfl, h⟩ := h
       refine s_tas H rfl rfl (h68 _) (lt_ rfl) fun a H => ww H <| ex rfl rfl rfl <| ex rfl rfl rfl <| fun a H => nk hK65 <| cd H rfl h (fun h69 h => ?_) (fun h69 h => ?_)
       ·refine sr fun K70 hK70 => ww H <| fd rfl fld_56_0 rfl <| fun a H => s_load (v := (.i K2)) H rfl rfl one_3 (n16.cell (i := 0) rfl) (lt_ rfl) fun a H => ww H <| bn rfl rfl r_eql rfl <| mv rfl rfl <| fun a H => ?_
        obtain ⟨R73, h, h82⟩ := h
        refine g_joinW (n := 119) R73 (fun x74 => [(68, (.bool x74))]) (.succ (.succ (.succ (.succ (.zero _))))) ?_ ?_
        ·intro h72
         clear h82
         rcases Bool.eq_false_or_eq_true (decide (K2 = 2)) with h71 | h71
         ·replace H := H.ch (t := 64) (b := true) rfl h71
          replace h := h.1 h71
          refine ww H <| gfd rfl rfl rfl fld_56_6 rfl <| glN (l := [(.i C9), (.i C10)]) rfl rfl rfl agg_27 rfl ⟨(n16.cell (i := 7) rfl), (n16.cell (i := 8) rfl), trivial⟩ rfl <| fun a H => s_call H (wantG H rfl rfl) body_15 (H.args (vs := [(.agg #[(.i C9), (.i C10)])]) rfl) (lt_ rfl) h ?_ (fun c w' => eP c w' _)
          clear H h a
          rintro _ w76 a ⟨V77, rfl, h⟩ H
          exact ww H <| pT rfl rfl rfl <| fun a H => h72 _ _ _ h (H.weaken ⟨rfl, trivial⟩)
         ·replace H := H.ch (t := 64) (b := false) rfl h71
          replace h := h.2 h71
          exact ww H <| sk rfl rfl rfl rfl <| sk rfl rfl rfl rfl <| sk rfl rfl rfl rfl <| pF rfl rfl rfl <| fun a H => h72 _ _ _ h (H.weaken ⟨rfl, trivial⟩)
        ·clear H a h
         intro a x74 w75 h H
         replace h := h82 x74 w75 h
         clear h82
         exact ww H <| ag rfl rfl <| fun a H => nk hK70 <| c_ret <| e_ret1 H rfl rfl h
       ·refine sr fun K83 hK83 => ?_
        obtain ⟨_, h86, o84, rfl, h⟩ := h
        refine s_tas H rfl rfl (h86 _) (lt_ rfl) fun a H => ww H <| ex rfl rfl rfl <| ex rfl rfl rfl <| fun a H => nk hK83 <| cd H rfl h (fun h87 h => ?_) (fun h87 h => ?_)
        ·refine c_seq fun K88 hK88 => c_regD mixed (by kernel_rfl) <| z_fld H rfl rfl fld_56_0 (lt_ rfl) fun a H => z_load (v := (.i K2)) H rfl rfl one_3 (n16.cell (i := 0) rfl) (lt_ rfl) fun a H => z_bin H rfl rfl rfl r_eql (lt_ rfl) fun a H => z_move H rfl rfl (lt_ rfl) fun a H => ?_
         obtain ⟨x96, h97, h98, h⟩ := h
         refine zg_join (n := 119) [(83, (.bool x96))] (.succ (.succ (.succ (.succ (.succ (.succ (.succ (.succ (.zero _))))))))) ?_ ?_
         ·intro h91
          try clear h
          rcases Bool.eq_false_or_eq_true (decide (K2 = 4)) with h90 | h90
          ·replace H := H.ch (t := 75) (b := true) rfl h90
           replace h := h97 h90
           refine z_fld H (wantG H rfl rfl) rfl fld_56_5 (lt_ rfl) fun a H => z_loadN (l := [(.i C7), (.i C8)]) H (wantG H rfl rfl) rfl agg_27 rfl ⟨(n16.cell (i := 5) rfl), (n16.cell (i := 6) rfl), trivial⟩ (lt_ rfl) fun a H => z_move H (wantG H rfl rfl) rfl (lt_ rfl) fun a H => z_nil H (wantG H rfl rfl) rfl (lt_ rfl) fun a H => z_fld H (wantG H rfl rfl) rfl fld_116_5 (lt_ rfl) fun a H => ?_
           obtain ⟨C92, hc93, C94, hc95, h⟩ := h
           refine z_loadN (l := [(.i C92), (.i C94)]) H (wantG H rfl rfl) rfl agg_27 rfl ⟨hc93, hc95, trivial⟩ (lt_ rfl) fun a H => z_bin H (wantG H rfl rfl) rfl rfl (r_eqst eqg_27 (eqst_27 0) rfl) (lt_ rfl) fun a H => z_pickT H rfl rfl rfl (lt_ rfl) fun a H => ?_
           subst h
           exact h91 _ (H.weaken ⟨rfl, trivial⟩)
          ·replace H := H.ch (t := 75) (b := false) rfl h90
           iterate 7 refine z_skip H (wantN H rfl rfl rfl) rfl (lt_ rfl) fun a H => ?_
           refine z_pickF H rfl rfl rfl (lt_ rfl) fun a H => ?_
           replace h := h98 h90
           subst h
           exact h91 _ (H.weaken ⟨rfl, trivial⟩)
         ·clear H a
          clear h97 h98
          intro a H
          refine z_assign H rfl rfl (lt_ rfl) fun a H => wpQuiet_nil ?_
          rintro _ ⟨k89, rfl⟩
          replace h := h k89
          exact hK88 _ _ <| c_ret <| e_ret1 H rfl rfl h
        ·refine sr fun K99 hK99 => ?_
         obtain ⟨_, h102, o100, rfl, h⟩ := h
         refine s_tas H rfl rfl (h102 _) (lt_ rfl) fun a H => ww H <| ex rfl rfl rfl <| ex rfl rfl rfl <| fun a H => nk hK99 <| cd H rfl h (fun h103 h => ?_) (fun h103 h => ?_)
         ·refine c_seq fun K104 hK104 => c_regD mixed (by kernel_rfl) <| z_fld H rfl rfl fld_56_0 (lt_ rfl) fun a H => z_load (v := (.i K2)) H rfl rfl one_3 (n16.cell (i := 0) rfl) (lt_ rfl) fun a H => z_bin H rfl rfl rfl r_eql (lt_ rfl) fun a H => z_move H rfl rfl (lt_ rfl) fun a H => ?_
          obtain ⟨x112, h113, h114, h⟩ := h
          refine zg_join (n := 119) [(98, (.bool x112))] (.succ (.succ (.succ (.succ (.succ (.succ (.succ (.succ (.zero _))))))))) ?_ ?_
          ·intro h107
           try clear h
           rcases Bool.eq_false_or_eq_true (decide (K2 = 6)) with h106 | h106
           ·replace H := H.ch (t := 90) (b := true) rfl h106
            replace h := h113 h106
            refine z_fld H (wantG H rfl rfl) rfl fld_56_5 (lt_ rfl) fun a H => z_loadN (l := [(.i C7), (.i C8)]) H (wantG H rfl rfl) rfl agg_27 rfl ⟨(n16.cell (i := 5) rfl), (n16.cell (i := 6) rfl), trivial⟩ (lt_ rfl) fun a H => z_move H (wantG H rfl rfl) rfl (lt_ rfl) fun a H => z_nil H (wantG H rfl rfl) rfl (lt_ rfl) fun a H => z_fld H (wantG H rfl rfl) rfl fld_116_5 (lt_ rfl) fun a H => ?_
            obtain ⟨C108, hc109, C110, hc111, h⟩ := h
            refine z_loadN (l := [(.i C108), (.i C110)]) H (wantG H rfl rfl) rfl agg_27 rfl ⟨hc109, hc111, trivial⟩ (lt_ rfl) fun a H => z_bin H (wantG H rfl rfl) rfl rfl (r_eqst eqg_27 (eqst_27 0) rfl) (lt_ rfl) fun a H => z_pickT H rfl rfl rfl (lt_ rfl) fun a H => ?_
            subst h
            exact h107 _ (H.weaken ⟨rfl, trivial⟩)
           ·replace H := H.ch (t := 90) (b := false) rfl h106
            iterate 7 refine z_skip H (wantN H rfl rfl rfl) rfl (lt_ rfl) fun a H => ?_
            refine z_pickF H rfl rfl rfl (lt_ rfl) fun a H => ?_
            replace h := h114 h106
            subst h
            exact h107 _ (H.weaken ⟨rfl, trivial⟩)
          ·clear H a
           clear h113 h114
           intro a H
           refine z_assign H rfl rfl (lt_ rfl) fun a H => wpQuiet_nil ?_
           rintro _ ⟨k105, rfl⟩
           replace h := h k105
           exact hK104 _ _ <| c_ret <| e_ret1 H rfl rfl h
         ·refine sr fun K115 hK115 => ?_
          obtain ⟨_, h118, o116, rfl, h⟩ := h
          refine s_tas H rfl rfl (h118 _) (lt_ rfl) fun a H => ww H <| ex rfl rfl rfl <| ex rfl rfl rfl <| fun a H => nk hK115 <| cd H rfl h (fun h119 h => ?_) (fun h119 h => ?_)
          ·refine c_seq fun K120 hK120 => ?_
           obtain ⟨R122, h, h147⟩ := h
           have h124 : ∀ (a : Act) (s121 : Bool) (w123 : World), R122 s121 w123 → Has 119 [] a [(4, (.bool s121))] → K120 a w123 := by
            clear h
            intro a s121 w123 h H
            replace h := h147 s121 w123 h
            exact hK120 _ _ <| c_ret <| e_ret1 H rfl rfl h
           clear h147
           replace H := H.weaken (L' := [(3, (.pointer (some (blk b14)))), (5, (.pointer (some a62)))]) ⟨rfl, rfl, trivial⟩
           obtain ⟨l125, hc126, h⟩ := h
           rcases Bool.eq_false_or_eq_true (decide (l125 = 8)) with h127 | h127
           ·replace h := h.1 h127
            obtain ⟨C128, hc129, C130, hc131, C132, hc133, C134, hc135, h⟩ := h
            rcases Bool.eq_false_or_eq_true (decide (C128 = C132) && (decide (C130 = C134))) with h136 | h136
            ·replace h := h.1 h136
             obtain ⟨C137, hc138, C139, hc140, h⟩ := h
             refine c_any (V := [(0, (.pointer (some ((blk b14).add 0)))), (1, (.i l125)), (2, (.bool (decide (l125 = 8)))), (3, (.bool (decide (l125 = 8)))), (4, (.pointer (some ((blk b14).add 5)))), (5, (.agg #[(.i C128), (.i C130)])), (6, (.pointer (some a62))), (7, (.pointer (some a62))), (8, (.pointer (some (a62.add 5)))), (9, (.agg #[(.i C132), (.i C134)])), (10, (.bool (decide (C128 = C132) && (decide (C130 = C134))))), (11, (.bool (decide (C128 = C132) && (decide (C130 = C134))))), (12, (.bool (decide (C128 = C132) && (decide (C130 = C134))))), (13, (.pointer (some ((blk b14).add 7)))), (14, (.agg #[(.i C137), (.i C139)]))]) (⟨[[], [0], [1], [2], [3], [3, 4], [3], [3, 6], [3, 7], [3, 8], [3, 5, 9], [3, 10], [3, 11], [12], [12, 13], [12, 14], [12, 15], [0, 1, 2, 3, 4, 5, 6, 7, 8, 9, 10, 11, 12, 13, 14, 15, 16]], [some 102, some 103, some 104, some 105, some 106, some 107, some 108, some 109, some 110, some 111, some 112, some 113, some 114, some 115, some 116, some 117, some 118, some 4], [15], [0, 0, 0, 0, 0, 0, 0, 0, 0, 0, 0, 0, 0, 0, 0, 0, 1, 1], [0, 0, 0, 0, 0, 0, 0, 0, 0, 0, 0, 0, 0, 0, 0, 1, 1, 1]⟩ : Rg) [(3, (.pointer (some (blk b14)))), (5, (.pointer (some a62)))] mixed (by kernel_rfl) H ?_
             refine Stg.eff [0, 1, 2, 3, 4, 5, 6, 7, 8, 9, 10, 11, 12, 13, 14] (by kernel_rfl) rfl (.cons ?_ (.cons ?_ (.cons ?_ (.cons ?_ (.cons ?_ (.cons ?_ (.cons ?_ (.cons ?_ (.cons ?_ (.cons ?_ (.cons ?_ (.cons ?_ (.cons ?_ (.cons ?_ (.cons ?_ .nil))))))))))))))) ?_
             ·exact Aw rfl rfl <| fd rfl fld_56_0 rfl <| An rfl
             ·exact Aw rfl rfl <| ld rfl one_3 hc126 rfl <| An rfl
             ·exact Aw rfl rfl <| bn rfl rfl r_eql rfl <| An rfl
             ·exact Aw rfl rfl <| mv rfl rfl <| An rfl
             ·refine Ans.mk rfl rfl fun a H => ?_
              replace H := H.ch (t := 105) (b := true) rfl h127
              exact ww H <| gfd rfl rfl rfl fld_56_5 rfl <| fun a H => Ans.fin H rfl
             ·refine Ans.mk rfl rfl fun a H => ?_
              replace H := H.ch (t := 105) (b := true) rfl h127
              exact ww H <| glN (l := [(.i C128), (.i C130)]) rfl rfl rfl agg_27 rfl ⟨hc129, hc131, trivial⟩ rfl <| fun a H => Ans.fin H rfl
             ·refine Ans.mk rfl rfl fun a H => ?_
              replace H := H.ch (t := 105) (b := true) rfl h127
              exact ww H <| gmv rfl rfl rfl rfl <| fun a H => Ans.fin H rfl
             ·refine Ans.mk rfl rfl fun a H => ?_
              replace H := H.ch (t := 105) (b := true) rfl h127
              exact ww H <| gnl rfl rfl rfl rfl <| fun a H => Ans.fin H rfl
             ·refine Ans.mk rfl rfl fun a H => ?_
              replace H := H.ch (t := 105) (b := true) rfl h127
              exact ww H <| gfd rfl rfl rfl fld_116_5 rfl <| fun a H => Ans.fin H rfl
             ·refine Ans.mk rfl rfl fun a H => ?_
              replace H := H.ch (t := 105) (b := true) rfl h127
              exact ww H <| glN (l := [(.i C132), (.i C134)]) rfl rfl rfl agg_27 rfl ⟨hc133, hc135, trivial⟩ rfl <| fun a H => Ans.fin H rfl
             ·refine Ans.mk rfl rfl fun a H => ?_
              replace H := H.ch (t := 105) (b := true) rfl h127
              exact ww H <| gbn rfl rfl rfl rfl (r_eqst eqg_27 (eqst_27 0) rfl) rfl <| fun a H => Ans.fin H rfl
             ·refine Ans.mk rfl rfl fun a H => ?_
              replace H := H.ch (t := 105) (b := true) rfl h127
              exact ww H <| pT rfl rfl rfl <| fun a H => Ans.fin H rfl
             ·exact Aw rfl rfl <| mv rfl rfl <| An rfl
             ·refine Ans.mk rfl rfl fun a H => ?_
              replace H := H.ch (t := 114) (b := true) rfl h136
              exact ww H <| gfd rfl rfl rfl fld_56_6 rfl <| fun a H => Ans.fin H rfl
             ·refine Ans.mk rfl rfl fun a H => ?_
              replace H := H.ch (t := 114) (b := true) rfl h136
              exact ww H <| glN (l := [(.i C137), (.i C139)]) rfl rfl rfl agg_27 rfl ⟨hc138, hc140, trivial⟩ rfl <| fun a H => Ans.fin H rfl
             ·intro a H
              replace H := H.weaken (L' := [(114, (.bool (decide (C128 = C132) && (decide (C130 = C134))))), (116, (.agg #[(.i C137), (.i C139)]))]) ⟨rfl, rfl, trivial⟩
              replace H := H.ch (t := 114) (b := true) rfl h136
              refine s_call H (wantG H rfl rfl) body_15 (H.args (vs := [(.agg #[(.i C137), (.i C139)])]) rfl) (lt_ rfl) h ?_ (fun c w' => eP c w' _)
              clear H h a
              rintro _ w141 a ⟨V142, rfl, h⟩ H
              refine c_nil <| effQ.go [(16, (.bool V142)), (17, (.bool V142))] H rfl rfl <| Stg.fin [16, 17] (by kernel_rfl) (.cons ?_ (.cons ?_ .nil)) ?_
              ·refine Ans.mk rfl rfl fun a H => ?_
               replace H := H.ch (t := 114) (b := true) rfl h136
               exact ww H <| pT rfl rfl rfl <| fun a H => Ans.fin H rfl
              ·exact Aw rfl rfl <| ag rfl rfl <| An rfl
              ·intro a H
               replace H := H.weaken (L' := [(4, (.bool V142))]) ⟨rfl, trivial⟩
               exact h124 _ _ _ h (H.weaken ⟨rfl, trivial⟩)
            ·replace h := h.2 h136
             refine c_any (V := [(0, (.pointer (some ((blk b14).add 0)))), (1, (.i l125)), (2, (.bool (decide (l125 = 8)))), (3, (.bool (decide (l125 = 8)))), (4, (.pointer (some ((blk b14).add 5)))), (5, (.agg #[(.i C128), (.i C130)])), (6, (.pointer (some a62))), (7, (.pointer (some a62))), (8, (.pointer (some (a62.add 5)))), (9, (.agg #[(.i C132), (.i C134)])), (10, (.bool (decide (C128 = C132) && (decide (C130 = C134))))), (11, (.bool (decide (C128 = C132) && (decide (C130 = C134))))), (12, (.bool (decide (C128 = C132) && (decide (C130 = C134))))), (13, undef), (14, undef)]) (⟨[[], [0], [1], [2], [3], [3, 4], [3], [3, 6], [3, 7], [3, 8], [3, 5, 9], [3, 10], [3, 11], [12], [12, 13], [12, 14], [12, 15], [0, 1, 2, 3, 4, 5, 6, 7, 8, 9, 10, 11, 12, 13, 14, 15, 16]], [some 102, some 103, some 104, some 105, some 106, some 107, some 108, some 109, some 110, some 111, some 112, some 113, some 114, some 115, some 116, some 117, some 118, some 4], [15], [0, 0, 0, 0, 0, 0, 0, 0, 0, 0, 0, 0, 0, 0, 0, 0, 1, 1], [0, 0, 0, 0, 0, 0, 0, 0, 0, 0, 0, 0, 0, 0, 0, 1, 1, 1]⟩ : Rg) [(3, (.pointer (some (blk b14)))), (5, (.pointer (some a62)))] mixed (by kernel_rfl) H ?_
             refine Stg.eff [0, 1, 2, 3, 4, 5, 6, 7, 8, 9, 10, 11, 12, 13, 14] (by kernel_rfl) rfl (.cons ?_ (.cons ?_ (.cons ?_ (.cons ?_ (.cons ?_ (.cons ?_ (.cons ?_ (.cons ?_ (.cons ?_ (.cons ?_ (.cons ?_ (.cons ?_ (.cons ?_ (.cons ?_ (.cons ?_ .nil))))))))))))))) ?_
             ·exact Aw rfl rfl <| fd rfl fld_56_0 rfl <| An rfl
             ·exact Aw rfl rfl <| ld rfl one_3 hc126 rfl <| An rfl
             ·exact Aw rfl rfl <| bn rfl rfl r_eql rfl <| An rfl
             ·exact Aw rfl rfl <| mv rfl rfl <| An rfl
             ·refine Ans.mk rfl rfl fun a H => ?_
              replace H := H.ch (t := 105) (b := true) rfl h127
              exact ww H <| gfd rfl rfl rfl fld_56_5 rfl <| fun a H => Ans.fin H rfl
             ·refine Ans.mk rfl rfl fun a H => ?_
              replace H := H.ch (t := 105) (b := true) rfl h127
              exact ww H <| glN (l := [(.i C128), (.i C130)]) rfl rfl rfl agg_27 rfl ⟨hc129, hc131, trivial⟩ rfl <| fun a H => Ans.fin H rfl
             ·refine Ans.mk rfl rfl fun a H => ?_
              replace H := H.ch (t := 105) (b := true) rfl h127
              exact ww H <| gmv rfl rfl rfl rfl <| fun a H => Ans.fin H rfl
             ·refine Ans.mk rfl rfl fun a H => ?_
              replace H := H.ch (t := 105) (b := true) rfl h127
              exact ww H <| gnl rfl rfl rfl rfl <| fun a H => Ans.fin H rfl
             ·refine Ans.mk rfl rfl fun a H => ?_
              replace H := H.ch (t := 105) (b := true) rfl h127
              exact ww H <| gfd rfl rfl rfl fld_116_5 rfl <| fun a H => Ans.fin H rfl
             ·refine Ans.mk rfl rfl fun a H => ?_
              replace H := H.ch (t := 105) (b := true) rfl h127
              exact ww H <| glN (l := [(.i C132), (.i C134)]) rfl rfl rfl agg_27 rfl ⟨hc133, hc135, trivial⟩ rfl <| fun a H => Ans.fin H rfl
             ·refine Ans.mk rfl rfl fun a H => ?_
              replace H := H.ch (t := 105) (b := true) rfl h127
              exact ww H <| gbn rfl rfl rfl rfl (r_eqst eqg_27 (eqst_27 0) rfl) rfl <| fun a H => Ans.fin H rfl
             ·refine Ans.mk rfl rfl fun a H => ?_
              replace H := H.ch (t := 105) (b := true) rfl h127
              exact ww H <| pT rfl rfl rfl <| fun a H => Ans.fin H rfl
             ·exact Aw rfl rfl <| mv rfl rfl <| An rfl
             ·exact .skip rfl rfl rfl rfl rfl rfl h136 rfl
             ·exact .skip rfl rfl rfl rfl rfl rfl h136 rfl
             ·intro a H
              replace H := H.weaken (L' := [(114, (.bool (decide (C128 = C132) && (decide (C130 = C134))))), (116, undef)]) ⟨rfl, rfl, trivial⟩
              replace H := H.ch (t := 114) (b := false) rfl h136
              refine ww H <| sk rfl rfl rfl rfl <| fun a H => c_nil <| effQ.go [(16, (.bool false)), (17, (.bool false))] H rfl rfl <| Stg.fin [16, 17] (by kernel_rfl) (.cons ?_ (.cons ?_ .nil)) ?_
              ·refine Ans.mk rfl rfl fun a H => ?_
               replace H := H.ch (t := 114) (b := false) rfl h136
               exact ww H <| pF rfl rfl rfl <| fun a H => Ans.fin H rfl
              ·exact Aw rfl rfl <| ag rfl rfl <| An rfl
              ·intro a H
               replace H := H.weaken (L' := [(4, (.bool false))]) ⟨rfl, trivial⟩
               exact h124 _ _ _ h (H.weaken ⟨rfl, trivial⟩)
           ·replace h := h.2 h127
            refine c_any (V := [(0, (.pointer (some ((blk b14).add 0)))), (1, (.i l125)), (2, (.bool (decide (l125 = 8)))), (3, (.bool (decide (l125 = 8)))), (4, undef), (5, undef), (6, undef), (7, undef), (8, undef), (9, undef), (10, undef), (11, (.bool false)), (12, (.bool false)), (13, undef), (14, undef)]) (⟨[[], [0], [1], [2], [3], [3, 4], [3], [3, 6], [3, 7], [3, 8], [3, 5, 9], [3, 10], [3, 11], [12], [12, 13], [12, 14], [12, 15], [0, 1, 2, 3, 4, 5, 6, 7, 8, 9, 10, 11, 12, 13, 14, 15, 16]], [some 102, some 103, some 104, some 105, some 106, some 107, some 108, some 109, some 110, some 111, some 112, some 113, some 114, some 115, some 116, some 117, some 118, some 4], [15], [0, 0, 0, 0, 0, 0, 0, 0, 0, 0, 0, 0, 0, 0, 0, 0, 1, 1], [0, 0, 0, 0, 0, 0, 0, 0, 0, 0, 0, 0, 0, 0, 0, 1, 1, 1]⟩ : Rg) [(3, (.pointer (some (blk b14)))), (5, (.pointer (some a62)))] mixed (by kernel_rfl) H <| Stg.eff [0, 1, 2, 3, 4, 5, 6, 7, 8, 9, 10, 11, 12, 13, 14] (by kernel_rfl) rfl (.cons ?_ (.cons ?_ (.cons ?_ (.cons ?_ (.cons ?_ (.cons ?_ (.cons ?_ (.cons ?_ (.cons ?_ (.cons ?_ (.cons ?_ (.cons ?_ (.cons ?_ (.cons ?_ (.cons ?_ .nil))))))))))))))) ?_
            ·exact Aw rfl rfl <| fd rfl fld_56_0 rfl <| An rfl
            ·exact Aw rfl rfl <| ld rfl one_3 hc126 rfl <| An rfl
            ·exact Aw rfl rfl <| bn rfl rfl r_eql rfl <| An rfl
            ·exact Aw rfl rfl <| mv rfl rfl <| An rfl
            ·exact .skip rfl rfl rfl rfl rfl rfl h127 rfl
            ·exact .skip rfl rfl rfl rfl rfl rfl h127 rfl
            ·exact .skip rfl rfl rfl rfl rfl rfl h127 rfl
            ·exact .skip rfl rfl rfl rfl rfl rfl h127 rfl
            ·exact .skip rfl rfl rfl rfl rfl rfl h127 rfl
            ·exact .skip rfl rfl rfl rfl rfl rfl h127 rfl
            ·exact .skip rfl rfl rfl rfl rfl rfl h127 rfl
            ·refine Ans.mk rfl rfl fun a H => ?_
             replace H := H.ch (t := 105) (b := false) rfl h127
             exact ww H <| pF rfl rfl rfl <| fun a H => Ans.fin H rfl
            ·exact Aw rfl rfl <| mv rfl rfl <| An rfl
            ·exact .skip rfl rfl rfl rfl rfl rfl rfl rfl
            ·exact .skip rfl rfl rfl rfl rfl rfl rfl rfl
            ·intro a H
             replace H := H.weaken (L' := [(114, (.bool false)), (116, undef)]) ⟨rfl, rfl, trivial⟩
             refine ww H <| sk rfl rfl rfl rfl <| fun a H => c_nil <| effQ.go [(16, (.bool false)), (17, (.bool false))] H rfl rfl <| Stg.fin [16, 17] (by kernel_rfl) (.cons ?_ (.cons ?_ .nil)) ?_
             ·exact Aw rfl rfl <| pF rfl rfl rfl <| An rfl
             ·exact Aw rfl rfl <| ag rfl rfl <| An rfl
             ·intro a H
              replace H := H.weaken (L' := [(4, (.bool false))]) ⟨rfl, trivial⟩
              exact h124 _ _ _ h (H.weaken ⟨rfl, trivial⟩)
          ·exact c_skip <| hK60 _ _ <| sr fun K148 hK148 => ww H <| ag rfl rfl <| fun a H => nk hK148 <| c_ret <| e_ret1 H rfl rfl h

theorem sim_client_reply_Get (p1 : Option Addr) (s2 : Int) (w : World) (Q : Ending → World → Prop) (h : vc_client_reply_Get p1 s2 w Q) : Calls PP F_client_reply_Get #[(.pointer p1), (.i s2)] w Q := by
 unfold vc_client_reply_Get at h
 refine enter (n := 23) Tryz.func50 rfl rfl (le_ rfl) fun a H => sr fun K3 hK3 => ww H <| al h zero_119 rfl rfl rfl fun b4 w5 n6 h => ag rfl rfl <| fun a H => nk hK3 <| sr fun K7 hK7 => ww H <| al h zero_119 rfl rfl rfl fun b8 w9 n10 h => fun a H => nk hK7 <| c_seq fun K11 hK11 => sr fun K12 hK12 => ww H <| mv rfl rfl <| bn rfl rfl (r_eqP0 ptr_114) rfl <| fun a H => nk hK12 <| cd H rfl h (fun h13 h => ?_) (fun h13 h => ?_)
 ·refine sr fun K14 hK14 => ww H <| lN (l := [(.i 0), (.i 0), (.bool false), Slc.nil.v]) rfl agg_119 rfl ⟨(n10.cell (i := 0) rfl), (n10.cell (i := 1) rfl), (n10.cell (i := 2) rfl), (n10.cell (i := 3) rfl), trivial⟩ rfl <| sN h rfl rfl agg_119 rfl rfl fun w15 h => ag rfl rfl <| fun a H => nk hK14 <| c_ret ?_
  obtain ⟨C16, hc17, C18, hc19, h20, hc21, d22, hc23, h⟩ := h
  exact e_ret2 H rfl ⟨_, rfl, run_loadN (l := [(.i C16), (.i C18), (.bool h20), d22.v]) agg_119 rfl ⟨hc17, hc19, hc21, hc23, trivial⟩⟩ rfl h
 ·obtain ⟨a25, h57, h⟩ := h
  refine c_skip <| hK11 _ _ <| sr fun K24 hK24 => ww H <| mv rfl rfl <| fun a H => ?_
  revert H
  revert h
  subst h57
  intro h H
  obtain ⟨l26, hc27, h⟩ := h
  refine ww H <| nl rfl rfl <| fd rfl fld_166_1 rfl <| ld rfl one_164 hc27 rfl <| mv rfl rfl <| fun a H => ?_
  obtain ⟨_, h34, C28, C29, h30, d31, o32, rfl, h⟩ := h
  refine s_lkp H rfl rfl rfl h34 (lt_ rfl) ?_
  clear H a h34
  intro a H
  refine ww H <| mv rfl rfl <| ex rfl rfl rfl <| ex rfl rfl rfl <| al h zero_119 rfl rfl rfl fun b35 w36 n37 h => sN h rfl rfl agg_119 rfl rfl fun w38 h => fun a H => ?_
  obtain ⟨C40, hc41, C42, hc43, h44, hc45, d46, hc47, h⟩ := h
  refine ww H <| ag rfl rfl <| fun a H => nk hK24 <| sr fun K39 hK39 => ww H <| lN (l := [(.i C40), (.i C42), (.bool h44), d46.v]) rfl agg_119 rfl ⟨hc41, hc43, hc45, hc47, trivial⟩ rfl <| mv rfl rfl <| sN h rfl rfl agg_119 rfl rfl fun w48 h => ag rfl rfl <| fun a H => nk hK39 <| c_ret ?_
  obtain ⟨C49, hc50, C51, hc52, h53, hc54, d55, hc56, h⟩ := h
  exact e_ret2 H rfl ⟨_, rfl, run_loadN (l := [(.i C49), (.i C51), (.bool h53), d55.v]) agg_119 rfl ⟨hc50, hc52, hc54, hc56, trivial⟩⟩ rfl h

theorem sim_tag_Max (t1 : Slc) (w : World) (Q : Ending → World → Prop) (h : vc_tag_Max t1 w Q) : Calls PP F_tag_Max #[t1.v] w Q := by
 unfold vc_tag_Max at h
 have eP {L : List (Nat × Value)} (c : List PanicEntry) (w' : World) (a : Act) (h : Q (.panicked c) w') (H : Has 9 [] a L) : bodyPost PP Tryz.f51 Q (.panic c) a w' := e_panic H h
 refine enter (n := 9) Tryz.func51 rfl rfl (le_ rfl) fun a H => sr fun K2 hK2 => ww H <| al h zero_27 rfl rfl rfl fun b3 w4 n5 h => fun a H => nk hK2 <| c_seq fun K6 hK6 => sr fun K7 hK7 => ww H <| mv rfl rfl <| bl (vs := [t1.v]) rfl rfl (fun cs => b_lenS (z := t1) sl_174) <| bn rfl rfl r_eql rfl <| fun a H => nk hK7 <| cd H rfl h (fun h8 h => ?_) (fun h8 h => ?_)
 ·refine sr fun K9 hK9 => s_build H rfl (by rw [H.parts (vs := []) rfl]; exact bd_27 _) (lt_ rfl) fun a H => ww H <| sN h rfl rfl agg_27 rfl rfl fun w10 h => fun a H => nk hK9 <| c_ret ?_
  obtain ⟨C11, hc12, C13, hc14, h⟩ := h
  exact e_ret1 H rfl ⟨_, rfl, run_loadN (l := [(.i C11), (.i C13)]) agg_27 rfl ⟨hc12, hc14, trivial⟩⟩ h
 ·refine c_skip <| hK6 _ _ <| sr fun K15 hK15 => ww H <| mv rfl rfl <| cl2 h body_86 rfl rfl eP fun C17 C18 w16 h => sN h rfl rfl agg_27 rfl rfl fun w19 h => fun a H => nk hK15 <| c_ret ?_
  obtain ⟨C20, hc21, C22, hc23, h⟩ := h
  exact e_ret1 H rfl ⟨_, rfl, run_loadN (l := [(.i C20), (.i C22)]) agg_27 rfl ⟨hc21, hc23, trivial⟩⟩ h

theorem sim_bytes_Clone (b1 : Slc) (w : World) (Q : Ending → World → Prop) (h : vc_bytes_Clone b1 w Q) : Calls PP F_bytes_Clone #[b1.v] w Q := by
 unfold vc_bytes_Clone at h
 refine enter (n := 8) Tryz.func52 rfl rfl (le_ rfl) fun a H => sr fun K2 hK2 => ww H <| ag rfl rfl <| fun a H => nk hK2 <| c_seq fun K3 hK3 => sr fun K4 hK4 => ww H <| mv rfl rfl <| bn rfl rfl (r_eqS0 (z := b1) sl_49) rfl <| fun a H => nk hK4 <| cd H rfl h (fun h5 h => ?_) (fun h5 h => ?_)
 ·exact sr fun K6 hK6 => ww H <| ag rfl rfl <| fun a H => nk hK6 <| c_ret <| e_ret1 H rfl rfl h
 ·refine c_skip <| hK3 _ _ <| sr fun K7 hK7 => ?_
  replace h := h.get
  obtain ⟨b8, w9, n10, h⟩ := h
  refine s_bslc H rfl (by rw [H.parts (vs := []) rfl]; exact bs_49_0 w) (lt_ rfl) ?_
  rw [← n10.at_]
  clear H a
  intro a H
  refine n10.go ?_
  obtain ⟨s11, w12, h13, h⟩ := h
  refine ww H <| mv rfl rfl <| fun a H => s_blt H rfl (H.args (vs := [(Slc.v (Slc.mk (some (blk b8)) 0 0)), b1.v]) rfl) (lt_ rfl) (fun cs => b_app (z := s11) h13) ?_
  clear H a h13
  intro a H
  exact ww H <| ag rfl rfl <| fun a H => nk hK7 <| c_ret <| e_ret1 H rfl rfl h

theorem sim_client_reply_Answer (p1 : Option Addr) (s2 C3 C4 : Int) (h5 : Bool) (d6 : Slc) (w : World) (Q : Ending → World → Prop) (h : vc_client_reply_Answer p1 s2 C3 C4 h5 d6 w Q) : Calls PP F_client_reply_Answer #[(.pointer p1), (.i s2), (.agg #[(.i C3), (.i C4), (.bool h5), d6.v])] w Q := by
 unfold vc_client_reply_Answer at h
 refine enter (n := 40) Tryz.func53 rfl rfl (le_ rfl) fun a H => sr fun K7 hK7 => ww H <| bx h rfl rfl rfl rfl fun b8 w9 n10 h => ag rfl rfl <| ag rfl rfl <| fun a H => nk hK7 <| c_seq fun K11 hK11 => sr fun K12 hK12 => ww H <| mv rfl rfl <| bn rfl rfl (r_eqP0 ptr_114) rfl <| fun a H => nk hK12 <| cd H rfl h (fun h13 h => ?_) (fun h13 h => ?_)
 ·exact sr fun K14 hK14 => ww H <| ag rfl rfl <| ag rfl rfl <| fun a H => nk hK14 <| c_ret <| e_ret2 H rfl rfl rfl h
 ·obtain ⟨x23, h24, h25, h⟩ := h
  refine c_skip <| hK11 _ _ <| c_seq fun K15 hK15 => sr fun K16 hK16 => ww H <| mv rfl rfl <| bn rfl rfl r_lss rfl <| mv rfl rfl <| fun a H => g_join (n := 40) [(22, (.bool x23)), (0, (.pointer p1)), (1, (.i s2)), (5, (.pointer (some (blk b8))))] (.succ (.succ (.succ (.succ (.succ (.succ (.succ (.succ (.zero _))))))))) ?_ ?_
  ·intro h18
   try clear h
   rcases Bool.eq_false_or_eq_true (decide (s2 < 0)) with h17 | h17
   ·replace H := H.ch (t := 14) (b := true) rfl h17
    refine ww H <| sk rfl rfl rfl rfl <| sk rfl rfl rfl rfl <| sk rfl rfl rfl rfl <| sk rfl rfl rfl rfl <| sk rfl rfl rfl rfl <| sk rfl rfl rfl rfl <| sk rfl rfl rfl rfl <| pT rfl rfl rfl <| fun a H => ?_
    replace h := h25 h17
    subst h
    exact h18 _ (H.weaken ⟨rfl, rfl, rfl, rfl, trivial⟩)
   ·replace H := H.ch (t := 14) (b := false) rfl h17
    replace h := h24 h17
    obtain ⟨a19, h22, h⟩ := h
    refine ww H <| gmv rfl rfl rfl rfl <| gmv rfl rfl rfl rfl <| fun a H => ?_
    revert H
    revert h
    subst h22
    intro h H
    obtain ⟨l20, hc21, h⟩ := h
    refine ww H <| gnl rfl rfl rfl rfl <| gfd rfl rfl rfl fld_166_0 rfl <| gfd rfl rfl rfl fld_35_0 rfl <| gld rfl rfl rfl one_3 hc21 rfl <| gbn rfl rfl rfl rfl r_geq rfl <| pF rfl rfl rfl <| fun a H => ?_
    subst h
    exact h18 _ (H.weaken ⟨rfl, rfl, rfl, rfl, trivial⟩)
  ·clear H a
   clear h24 h25
   intro a H
   refine nk hK16 <| cd H rfl h (fun h26 h => ?_) (fun h26 h => ?_)
   ·exact sr fun K27 hK27 => ww H <| ag rfl rfl <| ag rfl rfl <| fun a H => nk hK27 <| c_ret <| e_ret2 H rfl rfl rfl h
   ·obtain ⟨a29, h57, h⟩ := h
    refine c_skip <| hK15 _ _ <| sr fun K28 hK28 => ww H <| mv rfl rfl <| fun a H => ?_
    revert H
    revert h
    subst h57
    intro h H
    obtain ⟨l30, hc31, h⟩ := h
    refine ww H <| nl rfl rfl <| fd rfl fld_166_1 rfl <| ld rfl one_164 hc31 rfl <| mv rfl rfl <| fun a H => ?_
    obtain ⟨_, h38, C32, C33, h34, d35, o36, rfl, h⟩ := h
    refine s_lkp H rfl rfl rfl h38 (lt_ rfl) ?_
    clear H a h38
    intro a H
    refine ww H <| mv rfl rfl <| ex rfl rfl rfl <| ex rfl rfl rfl <| al h zero_119 rfl rfl rfl fun b39 w40 n41 h => sN h rfl rfl agg_119 rfl rfl fun w42 h => ag rfl rfl <| fun a H => nk hK28 <| c_seq fun K43 hK43 => ?_
    replace H := H.weaken (L' := [(0, (.pointer (some a29))), (1, (.i s2)), (5, (.pointer (some (blk b8)))), (9, (.bool o36))]) ⟨rfl, rfl, rfl, rfl, trivial⟩
    obtain ⟨l44, hc45, C46, hc47, C48, hc49, h50, hc51, d52, hc53, h⟩ := h
    refine c_any (V := [(0, (.pointer (some a29))), (1, (.pointer (some a29))), (2, (.pointer (some (a29.add 3)))), (3, (.map l44)), (4, (.i s2)), (5, (.agg #[(.i C46), (.i C48), (.bool h50), d52.v]))]) (⟨[[], [0], [1], [2], [], [], [0, 1, 2, 3, 4, 5]], [some 32, some 33, some 34, some 35, some 36, some 37, none], [6], [0, 0, 0, 0, 0, 0, 0], [0, 0, 0, 0, 0, 0, 1]⟩ : Rg) [(0, (.pointer (some a29))), (1, (.i s2)), (5, (.pointer (some (blk b8)))), (9, (.bool o36))] mixed (by kernel_rfl) H <| Stg.eff [0, 1, 2, 3, 4, 5] (by kernel_rfl) rfl (.cons ?_ (.cons ?_ (.cons ?_ (.cons ?_ (.cons ?_ (.cons ?_ .nil)))))) ?_
    ·exact Aw rfl rfl <| mv rfl rfl <| An rfl
    ·exact Aw rfl rfl <| nl rfl rfl <| An rfl
    ·exact Aw rfl rfl <| fd rfl fld_166_1 rfl <| An rfl
    ·exact Aw rfl rfl <| ld rfl one_164 hc45 rfl <| An rfl
    ·exact Aw rfl rfl <| mv rfl rfl <| An rfl
    ·exact Aw rfl rfl <| lN (l := [(.i C46), (.i C48), (.bool h50), d52.v]) rfl agg_119 rfl ⟨hc47, hc49, hc51, hc53, trivial⟩ rfl <| An rfl
    ·intro a H
     replace H := H.weaken (L' := [(35, (.map l44)), (36, (.i s2)), (37, (.agg #[(.i C46), (.i C48), (.bool h50), d52.v]))]) ⟨rfl, rfl, rfl, trivial⟩
     obtain ⟨w54, h55, h⟩ := h
     refine s_mup H rfl rfl rfl rfl h55 ?_
     clear H h55
     intro H
     refine c_nil <| effQ.go0 [] H rfl rfl <| Stg.fin [] (by kernel_rfl) .nil ?_
     ·intro a H
      replace H := H.weaken (L' := [(9, (.bool o36))]) ⟨rfl, trivial⟩
      exact hK43 _ _ <| sr fun K56 hK56 => ww H <| mv rfl rfl <| fun a H => s_un H rfl rfl r_not (lt_ rfl) fun a H => ww H <| ag rfl rfl <| ag rfl rfl <| fun a H => nk hK56 <| c_ret <| e_ret2 H rfl rfl rfl h

theorem sim_client_reply_Met (p1 : Option Addr) (w : World) (Q : Ending → World → Prop) (h : vc_client_reply_Met p1 w Q) : Calls PP F_client_reply_Met #[(.pointer p1)] w Q := by
 unfold vc_client_reply_Met at h
 have eP {L : List (Nat × Value)} (c : List PanicEntry) (w' : World) (a : Act) (h : Q (.panicked c) w') (H : Has 22 [] a L) : bodyPost PP Tryz.f54 Q (.panic c) a w' := e_panic H h
 refine enter (n := 22) Tryz.func54 rfl rfl (le_ rfl) fun a H => sr fun K2 hK2 => ww H <| ag rfl rfl <| fun a H => nk hK2 <| c_seq fun K3 hK3 => sr fun K4 hK4 => ww H <| mv rfl rfl <| bn rfl rfl (r_eqP0 ptr_114) rfl <| fun a H => nk hK4 <| cd H rfl h (fun h5 h => ?_) (fun h5 h => ?_)
 ·exact sr fun K6 hK6 => ww H <| ag rfl rfl <| fun a H => nk hK6 <| c_ret <| e_ret1 H rfl rfl h
 ·obtain ⟨a8, h27, h⟩ := h
  refine c_skip <| hK3 _ _ <| sr fun K7 hK7 => ww H <| mv rfl rfl <| fun a H => ?_
  revert H
  revert h
  subst h27
  intro h H
  obtain ⟨N9, hc10, K11, hc12, D13, hc14, h⟩ := h
  refine ww H <| nl rfl rfl <| fd rfl fld_166_0 rfl <| lN (l := [(.i N9), (.i K11), (.i D13)]) rfl agg_35 rfl ⟨hc10, hc12, hc14, trivial⟩ rfl <| cl2 h body_10 rfl rfl eP fun S16 S17 w15 h => fun a H => ?_
  obtain ⟨l19, hc20, n21, h22, h⟩ := h
  exact ww H <| mv rfl rfl <| ex rfl rfl rfl <| ex rfl rfl rfl <| ag rfl rfl <| ag rfl rfl <| fun a H => nk hK7 <| sr fun K18 hK18 => ww H <| mv rfl rfl <| nl rfl rfl <| fd rfl fld_166_1 rfl <| ld rfl one_164 hc20 rfl <| bl (vs := [(.map l19)]) rfl rfl (fun cs => b_mlen h22) <| mv rfl rfl <| bn rfl rfl r_geq rfl <| ag rfl rfl <| fun a H => nk hK18 <| c_ret <| e_ret1 H rfl rfl h

theorem sim_client_Client_met (c1 : Option Addr) (w : World) (Q : Ending → World → Prop) (h : vc_client_Client_met c1 w Q) : Calls PP F_client_Client_met #[(.pointer c1)] w Q := by
 unfold vc_client_Client_met at h
 have eP {L : List (Nat × Value)} (c : List PanicEntry) (w' : World) (a : Act) (h : Q (.panicked c) w') (H : Has 60 [] a L) : bodyPost PP Tryz.f55 Q (.panic c) a w' := e_panic H h
 refine enter (n := 60) Tryz.func55 rfl rfl (le_ rfl) fun a H => sr fun K2 hK2 => ww H <| ag rfl rfl <| al h zero_60 rfl rfl rfl fun b3 w4 n5 h => fun a H => ?_
 obtain ⟨a7, h192, h⟩ := h
 refine ww H <| ag rfl rfl <| fun a H => nk hK2 <| sr fun K6 hK6 => ww H <| mv rfl rfl <| fun a H => ?_
 revert H
 revert h
 subst h192
 intro h H
 obtain ⟨l8, hc9, h⟩ := h
 refine ww H <| nl rfl rfl <| fd rfl fld_102_5 rfl <| ld rfl one_100 hc9 rfl <| ag rfl rfl <| fun a H => nk hK6 <| sr fun K10 hK10 => ww H <| al h zero_60 rfl rfl rfl fun b11 w12 n13 h => fun a H => nk hK10 <| sr fun K14 hK14 => ww H <| ag rfl rfl <| fun a H => nk hK14 <| c_seq fun K15 hK15 => ?_
 obtain ⟨R17, h, h191⟩ := h
 have h45 : ∀ (a : Act) (e16 : Bool) (w18 : World), R17 e16 w18 → Has 60 [] a [(3, (.pointer (some (blk b3)))), (6, (.pointer (some (blk b11)))), (7, (.bool e16))] → K15 a w18 := by
  clear h
  intro a e16 w18 h H
  replace h := h191 e16 w18 h
  refine hK15 _ _ <| c_seq fun K19 hK19 => ?_
  replace H := H.weaken (L' := [(3, (.pointer (some (blk b3)))), (6, (.pointer (some (blk b11)))), (7, (.bool e16))]) ⟨rfl, rfl, rfl, trivial⟩
  obtain ⟨O20, hc21, P22, hc23, S24, hc25, C26, hc27, C28, hc29, V30, hc31, h⟩ := h
  refine c_any (V := [(0, (.agg #[(.i O20), (.bool P22), (.i S24), (.i C26), (.i C28), V30.v])), (1, (.bool e16)), (2, Slc.nil.v)]) (⟨[[], [], [], [0, 2], [0, 1, 2, 3]], [some 58, some 59, some 2, none, some 4], [3], [0, 0, 0, 0, 1], [0, 1, 0, 1, 1]⟩ : Rg) [(3, (.pointer (some (blk b3)))), (6, (.pointer (some (blk b11)))), (7, (.bool e16))] mixed (by kernel_rfl) H <| Stg.eff [0, 1, 2] (by kernel_rfl) rfl (.cons ?_ (.cons ?_ (.cons ?_ .nil))) ?_
  ·exact Aw rfl rfl <| lN (l := [(.i O20), (.bool P22), (.i S24), (.i C26), (.i C28), V30.v]) rfl agg_60 rfl ⟨hc21, hc23, hc25, hc27, hc29, hc31, trivial⟩ rfl <| An rfl
  ·exact Aw rfl rfl <| mv rfl rfl <| An rfl
  ·exact Aw rfl rfl <| ag rfl rfl <| An rfl
  ·refine sN h rfl rfl agg_60 rfl rfl fun w32 h => fun a H => c_nil <| effQ.go0 [(4, (.bool e16))] H rfl rfl <| Stg.fin [1, 4] (by kernel_rfl) (.cons ?_ (.cons ?_ .nil)) ?_
   ·exact Aw rfl rfl <| mv rfl rfl <| An rfl
   ·exact Aw rfl rfl <| ag rfl rfl <| An rfl
   ·intro a H
    replace H := H.weaken (L' := [(2, Slc.nil.v), (3, (.pointer (some (blk b3)))), (4, (.bool e16))]) ⟨rfl, rfl, rfl, trivial⟩
    refine hK19 _ _ <| c_ret ?_
    obtain ⟨O33, hc34, P35, hc36, S37, hc38, C39, hc40, C41, hc42, V43, hc44, h⟩ := h
    exact e_ret3 H rfl rfl ⟨_, rfl, run_loadN (l := [(.i O33), (.bool P35), (.i S37), (.i C39), (.i C41), V43.v]) agg_60 rfl ⟨hc34, hc36, hc38, hc40, hc42, hc44, trivial⟩⟩ rfl h
 clear h191
 obtain ⟨a47, h190, h⟩ := h
 refine sr fun K46 hK46 => ww H <| mv rfl rfl <| fun a H => ?_
 revert H
 revert h
 subst h190
 intro h H
 obtain ⟨l48, hc49, h⟩ := h
 refine ww H <| nl rfl rfl <| fd rfl fld_116_4 rfl <| ld rfl one_113 hc49 rfl <| fun a H => nk hK46 <| c_block <| sr fun K50 hK50 => ?_
 obtain ⟨_, h53, o51, rfl, h⟩ := h
 refine s_tas H rfl rfl (h53 _) (lt_ rfl) fun a H => ww H <| ex rfl rfl rfl <| ex rfl rfl rfl <| fun a H => nk hK50 <| cd H rfl h (fun h54 h => ?_) (fun h54 h => ?_)
 ·refine sr fun K55 hK55 => ww H <| mv rfl rfl <| mv rfl rfl <| cl2 h body_88 rfl rfl eP fun C57 C58 w56 h => fun a H => s_call H rfl body_87 (H.args (vs := [(.pointer (some a7)), (.agg #[(.i C57), (.i C58)])]) rfl) (lt_ rfl) h ?_ (fun c w' => eP c w' _)
  clear H h a
  rintro _ w59 a ⟨c60, O61, P62, S63, C64, C65, V66, c67, rfl, h⟩ H
  refine ww H <| ex rfl rfl rfl <| ex rfl rfl rfl <| ex rfl rfl rfl <| ag rfl rfl <| sN h rfl rfl agg_60 rfl rfl fun w68 h => ag rfl rfl <| fun a H => nk hK55 <| c_ret ?_
  obtain ⟨O69, hc70, P71, hc72, S73, hc74, C75, hc76, C77, hc78, V79, hc80, h⟩ := h
  exact e_ret3 H rfl rfl ⟨_, rfl, run_loadN (l := [(.i O69), (.bool P71), (.i S73), (.i C75), (.i C77), V79.v]) agg_60 rfl ⟨hc70, hc72, hc74, hc76, hc78, hc80, trivial⟩⟩ rfl h
 ·refine sr fun K89 hK89 => ?_
  obtain ⟨_, h92, o90, rfl, h⟩ := h
  refine s_tas H rfl rfl (h92 _) (lt_ rfl) fun a H => ww H <| ex rfl rfl rfl <| ex rfl rfl rfl <| fun a H => nk hK89 <| cd H rfl h (fun h93 h => ?_) (fun h93 h => ?_)
  ·refine c_seq fun K94 hK94 => ?_
   replace H := H.weaken (L' := [(0, (.pointer (some a7))), (2, Slc.nil.v), (3, (.pointer (some (blk b3)))), (4, (.bool false)), (5, (.pointer (some a47))), (6, (.pointer (some (blk b11))))]) ⟨rfl, rfl, rfl, rfl, rfl, rfl, trivial⟩
   obtain ⟨C95, hc96, C97, hc98, O99, hc100, P101, hc102, S103, hc104, C105, hc106, C107, hc108, V109, hc110, h⟩ := h
   refine c_any (V := [(0, (.pointer (some a7))), (1, (.agg #[])), (2, (.iface 173 (.agg #[]))), (3, (.pointer (some a47))), (4, (.pointer (some a47))), (5, (.pointer (some (a47.add 5)))), (6, (.agg #[(.i C95), (.i C97)])), (8, (.agg #[(.i O99), (.bool P101), (.i S103), (.i C105), (.i C107), V109.v]))]) (⟨[[], [], [1], [], [3], [4], [5], [0, 2, 6], [], [0, 1, 2, 3, 4, 5, 6, 7], [0, 1, 2, 3, 4, 5, 6, 7, 8, 9], [0, 1, 2, 3, 4, 5, 6, 7, 8, 9, 10]], [some 29, some 30, some 31, some 32, some 33, some 34, some 35, some 36, some 37, some 2, none, some 4], [7, 10], [0, 0, 0, 0, 0, 0, 0, 0, 0, 1, 1, 2], [0, 0, 0, 0, 0, 0, 0, 1, 1, 1, 2, 2]⟩ : Rg) [(0, (.pointer (some a7))), (2, Slc.nil.v), (3, (.pointer (some (blk b3)))), (4, (.bool false)), (5, (.pointer (some a47))), (6, (.pointer (some (blk b11))))] mixed (by kernel_rfl) H <| Stg.eff [0, 1, 2, 3, 4, 5, 6, 8] (by kernel_rfl) rfl (.cons ?_ (.cons ?_ (.cons ?_ (.cons ?_ (.cons ?_ (.cons ?_ (.cons ?_ (.cons ?_ .nil)))))))) ?_
   ·exact Aw rfl rfl <| mv rfl rfl <| An rfl
   ·exact Ans.mk rfl rfl fun a H => s_build H rfl (by rw [H.parts (vs := []) rfl]; exact bd_173 _) (lt_ rfl) fun a H => Ans.fin H rfl
   ·exact Ans.mk rfl rfl fun a H => s_iface H rfl rfl ni_173 (lt_ rfl) fun a H => Ans.fin H rfl
   ·exact Aw rfl rfl <| mv rfl rfl <| An rfl
   ·exact Aw rfl rfl <| nl rfl rfl <| An rfl
   ·exact Aw rfl rfl <| fd rfl fld_116_5 rfl <| An rfl
   ·exact Aw rfl rfl <| lN (l := [(.i C95), (.i C97)]) rfl agg_27 rfl ⟨hc96, hc98, trivial⟩ rfl <| An rfl
   ·exact Aw rfl rfl <| lN (l := [(.i O99), (.bool P101), (.i S103), (.i C105), (.i C107), V109.v]) rfl agg_60 rfl ⟨hc100, hc102, hc104, hc106, hc108, hc110, trivial⟩ rfl <| An rfl
   ·refine cl1 h body_78 rfl rfl eP fun e112 w111 h => fun a H => ?_
    obtain ⟨hc113, hc114, hc115, hc116, hc117, hc118, h⟩ := h
    refine c_nil <| effQ.go [(9, e112.v)] H rfl rfl <| Stg.eff [8, 9] (by kernel_rfl) rfl (.cons ?_ (.cons ?_ .nil)) ?_
    ·exact Aw rfl rfl <| lN (l := [(.i O99), (.bool P101), (.i S103), (.i C105), (.i C107), V109.v]) rfl agg_60 rfl ⟨hc113, hc114, hc115, hc116, hc117, hc118, trivial⟩ rfl <| An rfl
    ·exact Aw rfl rfl <| ag rfl rfl <| An rfl
    ·refine sN h rfl rfl agg_60 rfl rfl fun w119 h => fun a H => c_nil <| effQ.go0 [(11, (.bool false))] H rfl rfl <| Stg.fin [11] (by kernel_rfl) (.cons ?_ .nil) ?_
     ·exact Aw rfl rfl <| ag rfl rfl <| An rfl
     ·intro a H
      replace H := H.weaken (L' := [(2, e112.v), (3, (.pointer (some (blk b3)))), (4, (.bool false))]) ⟨rfl, rfl, rfl, trivial⟩
      refine hK94 _ _ <| c_ret ?_
      obtain ⟨O120, hc121, P122, hc123, S124, hc125, C126, hc127, C128, hc129, V130, hc131, h⟩ := h
      exact e_ret3 H rfl rfl ⟨_, rfl, run_loadN (l := [(.i O120), (.bool P122), (.i S124), (.i C126), (.i C128), V130.v]) agg_60 rfl ⟨hc121, hc123, hc125, hc127, hc129, hc131, trivial⟩⟩ rfl h
  ·refine sr fun K136 hK136 => ?_
   obtain ⟨_, h139, o137, rfl, h⟩ := h
   refine s_tas H rfl rfl (h139 _) (lt_ rfl) fun a H => ww H <| ex rfl rfl rfl <| ex rfl rfl rfl <| fun a H => nk hK136 <| cd H rfl h (fun h140 h => ?_) (fun h140 h => ?_)
   ·obtain ⟨C141, hc142, C143, hc144, h⟩ := h
    refine c_reg <| ww H <| mv rfl rfl <| mv rfl rfl <| nl rfl rfl <| fd rfl fld_116_5 rfl <| lN (l := [(.i C141), (.i C143)]) rfl agg_27 rfl ⟨hc142, hc144, trivial⟩ rfl <| fun a H => s_call H rfl body_89 (H.args (vs := [(.pointer (some a7)), (.i 0), (.agg #[(.i C141), (.i C143)]), Slc.nil.v]) rfl) (lt_ rfl) h ?_ (fun c w' => eP c w' _)
    clear H h a
    rintro _ w145 a ⟨O146, P147, S148, C149, C150, V151, e152, rfl, h⟩ H
    exact ww H <| mv rfl rfl <| ex rfl rfl rfl <| ex rfl rfl rfl <| sN h rfl rfl agg_60 rfl rfl fun w153 h => ag rfl rfl <| fun a H => c_nil <| h45 _ _ _ h (H.weaken ⟨rfl, rfl, rfl, trivial⟩)
   ·refine sr fun K158 hK158 => ?_
    obtain ⟨_, h161, o159, rfl, h⟩ := h
    refine s_tas H rfl rfl (h161 _) (lt_ rfl) fun a H => ww H <| ex rfl rfl rfl <| ex rfl rfl rfl <| fun a H => nk hK158 <| cd H rfl h (fun h162 h => ?_) (fun h162 h => ?_)
    ·refine sr fun K163 hK163 => ww H <| mv rfl rfl <| fun a H => s_call H rfl body_90 (H.args (vs := [(.pointer (some a7))]) rfl) (lt_ rfl) h ?_ (fun c w' => eP c w' _)
     clear H h a
     rintro _ w164 a ⟨r165, O166, P167, S168, C169, C170, V171, r172, rfl, h⟩ H
     refine ww H <| ex rfl rfl rfl <| ex rfl rfl rfl <| ex rfl rfl rfl <| ag rfl rfl <| sN h rfl rfl agg_60 rfl rfl fun w173 h => ag rfl rfl <| fun a H => nk hK163 <| c_ret ?_
     obtain ⟨O174, hc175, P176, hc177, S178, hc179, C180, hc181, C182, hc183, V184, hc185, h⟩ := h
     exact e_ret3 H rfl rfl ⟨_, rfl, run_loadN (l := [(.i O174), (.bool P176), (.i S178), (.i C180), (.i C182), V184.v]) agg_60 rfl ⟨hc175, hc177, hc179, hc181, hc183, hc185, trivial⟩⟩ rfl h
    ·exact c_skip <| h45 _ _ _ h (H.weaken ⟨rfl, rfl, rfl, trivial⟩)

theorem sim_cmp_Compare_int64 (x1 y2 : Int) (w : World) (Q : Ending → World → Prop) (h : vc_cmp_Compare_int64 x1 y2 w Q) : Calls PP F_cmp_Compare_int64 #[(.i x1), (.i y2)] w Q := by
 unfold vc_cmp_Compare_int64 at h
 have eP {L : List (Nat × Value)} (c : List PanicEntry) (w' : World) (a : Act) (h : Q (.panicked c) w') (H : Has 20 [] a L) : bodyPost PP Tryz.f56 Q (.panic c) a w' := e_panic H h
 refine enter (n := 20) Tryz.func56 rfl rfl (le_ rfl) fun a H => sr fun K3 hK3 => ww H <| ag rfl rfl <| fun a H => nk hK3 <| sr fun K4 hK4 => ww H <| mv rfl rfl <| cl1 h body_91 rfl rfl eP fun i6 w5 h => ag rfl rfl <| fun a H => nk hK4 <| sr fun K7 hK7 => ww H <| mv rfl rfl <| cl1 h body_91 rfl rfl eP fun i9 w8 h => ag rfl rfl <| fun a H => nk hK7 <| c_seq fun K10 hK10 => sr fun K11 hK11 => ww H <| mv rfl rfl <| fun a H => nk hK11 <| cd H rfl h (fun h12 h => ?_) (fun h12 h => ?_)
 ·refine c_seq fun K13 hK13 => sr fun K14 hK14 => ww H <| mv rfl rfl <| fun a H => nk hK14 <| cd H rfl h (fun h15 h => ?_) (fun h15 h => ?_)
  ·exact sr fun K16 hK16 => ww H <| ag rfl rfl <| fun a H => nk hK16 <| c_ret <| e_ret1 H rfl rfl h
  ·exact c_skip <| hK13 _ _ <| sr fun K17 hK17 => ww H <| ag rfl rfl <| fun a H => nk hK17 <| c_ret <| e_ret1 H rfl rfl h
 ·refine c_skip <| hK10 _ _ <| c_seq fun K18 hK18 => sr fun K19 hK19 => ww H <| mv rfl rfl <| fun a H => nk hK19 <| cd H rfl h (fun h20 h => ?_) (fun h20 h => ?_)
  ·exact sr fun K21 hK21 => ww H <| ag rfl rfl <| fun a H => nk hK21 <| c_ret <| e_ret1 H rfl rfl h
  ·refine c_skip <| hK18 _ _ <| c_seq fun K22 hK22 => sr fun K23 hK23 => ww H <| mv rfl rfl <| mv rfl rfl <| bn rfl rfl r_lss rfl <| fun a H => nk hK23 <| cd H rfl h (fun h24 h => ?_) (fun h24 h => ?_)
   ·exact sr fun K25 hK25 => ww H <| ag rfl rfl <| fun a H => nk hK25 <| c_ret <| e_ret1 H rfl rfl h
   ·refine c_skip <| hK22 _ _ <| c_seq fun K26 hK26 => sr fun K27 hK27 => ww H <| mv rfl rfl <| mv rfl rfl <| bn rfl rfl r_gtr rfl <| fun a H => nk hK27 <| cd H rfl h (fun h28 h => ?_) (fun h28 h => ?_)
    ·exact sr fun K29 hK29 => ww H <| ag rfl rfl <| fun a H => nk hK29 <| c_ret <| e_ret1 H rfl rfl h
    ·exact c_skip <| hK26 _ _ <| sr fun K30 hK30 => ww H <| ag rfl rfl <| fun a H => nk hK30 <| c_ret <| e_ret1 H rfl rfl h

theorem sim_cmp_Compare_int (x1 y2 : Int) (w : World) (Q : Ending → World → Prop) (h : vc_cmp_Compare_int x1 y2 w Q) : Calls PP F_cmp_Compare_int #[(.i x1), (.i y2)] w Q := by
 unfold vc_cmp_Compare_int at h
 have eP {L : List (Nat × Value)} (c : List PanicEntry) (w' : World) (a : Act) (h : Q (.panicked c) w') (H : Has 20 [] a L) : bodyPost PP Tryz.f57 Q (.panic c) a w' := e_panic H h
 refine enter (n := 20) Tryz.func57 rfl rfl (le_ rfl) fun a H => sr fun K3 hK3 => ww H <| ag rfl rfl <| fun a H => nk hK3 <| sr fun K4 hK4 => ww H <| mv rfl rfl <| cl1 h body_92 rfl rfl eP fun i6 w5 h => ag rfl rfl <| fun a H => nk hK4 <| sr fun K7 hK7 => ww H <| mv rfl rfl <| cl1 h body_92 rfl rfl eP fun i9 w8 h => ag rfl rfl <| fun a H => nk hK7 <| c_seq fun K10 hK10 => sr fun K11 hK11 => ww H <| mv rfl rfl <| fun a H => nk hK11 <| cd H rfl h (fun h12 h => ?_) (fun h12 h => ?_)
 ·refine c_seq fun K13 hK13 => sr fun K14 hK14 => ww H <| mv rfl rfl <| fun a H => nk hK14 <| cd H rfl h (fun h15 h => ?_) (fun h15 h => ?_)
  ·exact sr fun K16 hK16 => ww H <| ag rfl rfl <| fun a H => nk hK16 <| c_ret <| e_ret1 H rfl rfl h
  ·exact c_skip <| hK13 _ _ <| sr fun K17 hK17 => ww H <| ag rfl rfl <| fun a H => nk hK17 <| c_ret <| e_ret1 H rfl rfl h
 ·refine c_skip <| hK10 _ _ <| c_seq fun K18 hK18 => sr fun K19 hK19 => ww H <| mv rfl rfl <| fun a H => nk hK19 <| cd H rfl h (fun h20 h => ?_) (fun h20 h => ?_)
  ·exact sr fun K21 hK21 => ww H <| ag rfl rfl <| fun a H => nk hK21 <| c_ret <| e_ret1 H rfl rfl h
  ·refine c_skip <| hK18 _ _ <| c_seq fun K22 hK22 => sr fun K23 hK23 => ww H <| mv rfl rfl <| mv rfl rfl <| bn rfl rfl r_lss rfl <| fun a H => nk hK23 <| cd H rfl h (fun h24 h => ?_) (fun h24 h => ?_)
   ·exact sr fun K25 hK25 => ww H <| ag rfl rfl <| fun a H => nk hK25 <| c_ret <| e_ret1 H rfl rfl h
   ·refine c_skip <| hK22 _ _ <| c_seq fun K26 hK26 => sr fun K27 hK27 => ww H <| mv rfl rfl <| mv rfl rfl <| bn rfl rfl r_gtr rfl <| fun a H => nk hK27 <| cd H rfl h (fun h28 h => ?_) (fun h28 h => ?_)
    ·exact sr fun K29 hK29 => ww H <| ag rfl rfl <| fun a H => nk hK29 <| c_ret <| e_ret1 H rfl rfl h
    ·exact c_skip <| hK26 _ _ <| sr fun K30 hK30 => ww H <| ag rfl rfl <| fun a H => nk hK30 <| c_ret <| e_ret1 H rfl rfl h

theorem sim_sherdlaw18_Plain_top (p1 : Option Addr) (w : World) (Q : Ending → World → Prop) (h : vc_sherdlaw18_Plain_top p1 w Q) : Calls PP F_sherdlaw18_Plain_top #[(.pointer p1)] w Q := by
 unfold vc_sherdlaw18_Plain_top at h
 have eP {L : List (Nat × Value)} (c : List PanicEntry) (w' : World) (a : Act) (h : Q (.panicked c) w') (H : Has 34 [] a L) : bodyPost PP Tryz.f58 Q (.panic c) a w' := e_panic H h
 refine enter (n := 34) Tryz.func58 rfl rfl (le_ rfl) fun a H => sr fun K2 hK2 => ww H <| al h zero_27 rfl rfl rfl fun b3 w4 n5 h => fun a H => nk hK2 <| sr fun K6 hK6 => ww H <| al h zero_27 rfl rfl rfl fun b7 w8 n9 h => fun a H => nk hK6 <| c_seq fun K10 hK10 => sr fun K11 hK11 => ww H <| ag rfl rfl <| fun a H => nk hK11 <| c_block ?_
 obtain ⟨I14, m15, h73, h74⟩ := h
 refine c_loop (σ := Int) (fun z w => I14 z w) (fun z w => m15 z w) (fun z => [(0, (.pointer p1)), (2, (.pointer (some (blk b3)))), (3, (.pointer (some (blk b7)))), (4, (.i z))]) 0 h73 (H.weaken ⟨rfl, rfl, rfl, rfl, trivial⟩) ?_
 clear H h73
 rintro i12 a w13 h H
 replace h := h74 i12 w13 h
 clear h74
 replace H : Has 34 [] a [(0, (.pointer p1)), (2, (.pointer (some (blk b3)))), (3, (.pointer (some (blk b7)))), (4, (.i i12))] := H
 obtain ⟨a18, h72, h⟩ := h
 refine c_seq fun K16 hK16 => sr fun K17 hK17 => ww H <| mv rfl rfl <| mv rfl rfl <| fun a H => ?_
 revert H
 revert h
 subst h72
 intro h H
 obtain ⟨l19, hc20, h⟩ := h
 refine ww H <| nl rfl rfl <| fd rfl fld_97_0 rfl <| ld rfl one_95 hc20 rfl <| bl (vs := [l19.v]) rfl rfl (fun cs => b_lenS (z := l19) sl_95) <| bn rfl rfl r_lss rfl <| fun a H => nk hK17 <| cd H rfl h (fun h21 h => ?_) (fun h21 h => ?_)
 ·refine c_skip <| hK16 _ _ <| c_seq fun K22 hK22 => ?_
  obtain ⟨R23, h, h61⟩ := h
  have h25 : ∀ (a : Act) (w24 : World), R23 w24 → Has 34 [] a [(0, (.pointer (some a18))), (2, (.pointer (some (blk b3)))), (3, (.pointer (some (blk b7)))), (4, (.i i12))] → K22 a w24 := by
   clear h
   intro a w24 h H
   replace h := h61 w24 h
   refine hK22 _ _ <| c_reg <| ww H <| mv rfl rfl <| bn rfl rfl r_add rfl <| ag rfl rfl <| fun a H => c_nil <| Exists.intro (wr .i64 (i12 + 1)) ⟨h.1, h.2, H.weaken ⟨rfl, rfl, rfl, rfl, trivial⟩⟩
  clear h61
  obtain ⟨l27, hc28, a29, h30, h31, h32, h⟩ := h
  refine c_block <| sr fun K26 hK26 => ww H <| mv rfl rfl <| nl rfl rfl <| fd rfl fld_97_0 rfl <| ld rfl one_95 hc28 rfl <| mv rfl rfl <| fun a H => s_idxS (s := l27) H rfl rfl rfl slc_95 h30 h31 h32 (lt_ rfl) fun a H => ?_
  obtain ⟨l33, hc34, h⟩ := h
  refine ww H <| fd rfl fld_139_1 rfl <| ld rfl one_4 hc34 rfl <| fun a H => nk hK26 <| cd H rfl h (fun h35 h => ?_) (fun h35 h => ?_)
  ·replace H := H.weaken (L' := [(0, (.pointer (some a18))), (2, (.pointer (some (blk b3)))), (3, (.pointer (some (blk b7)))), (4, (.i i12))]) ⟨rfl, rfl, rfl, rfl, trivial⟩
   obtain ⟨C36, hc37, C38, hc39, l40, hc41, a42, h43, h44, h45, C46, hc47, C48, hc49, h⟩ := h
   refine c_any (V := [(0, (.agg #[(.i C36), (.i C38)])), (1, (.pointer (some a18))), (2, (.pointer (some a18))), (3, (.pointer (some (a18.add 0)))), (4, l40.v), (5, (.i i12)), (6, (.pointer (some (a42.add (Int.toNat (i12) * 5))))), (7, (.pointer (some ((a42.add (Int.toNat (i12) * 5)).add 0)))), (8, (.agg #[(.i C46), (.i C48)]))]) (⟨[[], [], [1], [2], [3], [], [4, 5], [6], [7], [0, 8], [9], [0, 1, 2, 3, 4, 5, 6, 7, 8, 9, 10]], [some 22, some 23, some 24, some 25, some 26, some 27, some 28, some 29, some 30, some 31, some 32, none], [9, 10, 11], [0, 0, 0, 0, 0, 0, 0, 0, 0, 0, 1, 2], [0, 0, 0, 0, 0, 0, 0, 0, 0, 1, 2, 3]⟩ : Rg) [(0, (.pointer (some a18))), (2, (.pointer (some (blk b3)))), (3, (.pointer (some (blk b7)))), (4, (.i i12))] mixed (by kernel_rfl) H <| Stg.eff [0, 1, 2, 3, 4, 5, 6, 7, 8] (by kernel_rfl) rfl (.cons ?_ (.cons ?_ (.cons ?_ (.cons ?_ (.cons ?_ (.cons ?_ (.cons ?_ (.cons ?_ (.cons ?_ .nil))))))))) ?_
   ·exact Aw rfl rfl <| lN (l := [(.i C36), (.i C38)]) rfl agg_27 rfl ⟨hc37, hc39, trivial⟩ rfl <| An rfl
   ·exact Aw rfl rfl <| mv rfl rfl <| An rfl
   ·exact Aw rfl rfl <| nl rfl rfl <| An rfl
   ·exact Aw rfl rfl <| fd rfl fld_97_0 rfl <| An rfl
   ·exact Aw rfl rfl <| ld rfl one_95 hc41 rfl <| An rfl
   ·exact Aw rfl rfl <| mv rfl rfl <| An rfl
   ·exact Ans.mk rfl rfl fun a H => s_idxS (s := l40) H rfl rfl rfl slc_95 h43 h44 h45 (lt_ rfl) fun a H => Ans.fin H rfl
   ·exact Aw rfl rfl <| fd rfl fld_139_0 rfl <| An rfl
   ·exact Aw rfl rfl <| lN (l := [(.i C46), (.i C48)]) rfl agg_27 rfl ⟨hc47, hc49, trivial⟩ rfl <| An rfl
   ·intro a H
    replace H := H.weaken (L' := [(22, (.agg #[(.i C36), (.i C38)])), (30, (.agg #[(.i C46), (.i C48)]))]) ⟨rfl, rfl, trivial⟩
    replace h := h.get
    obtain ⟨b50, w51, n52, h⟩ := h
    refine s_bslc H rfl (by rw [H.parts (vs := [(0, (.agg #[(.i C36), (.i C38)])), (1, (.agg #[(.i C46), (.i C48)]))]) rfl]; exact bs_174_2_ii64ii640_ii64ii641 (w13.drewN 1) C36 C38 C46 C48) (lt_ rfl) ?_
    rw [← n52.at_]
    clear H a
    intro a H
    refine n52.go <| c_nil <| effQ.go [] H rfl rfl <| Stg.eff [] (by kernel_rfl) rfl .nil ?_
    ·refine cl2 h body_51 rfl rfl eP fun C54 C55 w53 h => fun a H => c_nil <| effQ.go [] H rfl rfl <| Stg.eff [] (by kernel_rfl) rfl .nil ?_
     ·refine sN h rfl rfl agg_27 rfl rfl fun w56 h => fun a H => c_nil <| effQ.go0 [] H rfl rfl <| Stg.fin [] (by kernel_rfl) .nil ?_
      ·intro a H
       replace H := H.weaken (L' := [(0, (.pointer (some a18))), (2, (.pointer (some (blk b3)))), (3, (.pointer (some (blk b7)))), (4, (.i i12))]) ⟨rfl, rfl, rfl, rfl, trivial⟩
       exact h25 _ _ h (H.weaken ⟨rfl, rfl, rfl, rfl, trivial⟩)
  ·exact c_skip <| h25 _ _ h (H.weaken ⟨rfl, rfl, rfl, rfl, trivial⟩)
 ·refine c_exit ?_
  first | (simp only [Exit.then, Exit.inBlock, ↓reduceIte]; fail_if_success simp only [Nat.reduceEqDiff]) | simp only [Exit.then, Exit.inBlock, ↓reduceIte, Nat.reduceEqDiff]
  obtain ⟨C63, hc64, C65, hc66, h⟩ := h
  refine hK10 _ _ <| sr fun K62 hK62 => ww H <| lN (l := [(.i C63), (.i C65)]) rfl agg_27 rfl ⟨hc64, hc66, trivial⟩ rfl <| sN h rfl rfl agg_27 rfl rfl fun w67 h => fun a H => nk hK62 <| c_ret ?_
  obtain ⟨C68, hc69, C70, hc71, h⟩ := h
  exact e_ret1 H rfl ⟨_, rfl, run_loadN (l := [(.i C68), (.i C70)]) agg_27 rfl ⟨hc69, hc71, trivial⟩⟩ h

theorem sim_sherdlaw18_Plain_find (p1 : Option Addr) (C2 C3 : Int) (w : World) (Q : Ending → World → Prop) (h : vc_sherdlaw18_Plain_find p1 C2 C3 w Q) : Calls PP F_sherdlaw18_Plain_find #[(.pointer p1), (.agg #[(.i C2), (.i C3)])] w Q := by
 unfold vc_sherdlaw18_Plain_find at h
 refine enter (n := 43) Tryz.func59 rfl rfl (le_ rfl) fun a H => sr fun K4 hK4 => ww H <| bx h rfl rfl rfl rfl fun b5 w6 n7 h => ag rfl rfl <| fun a H => nk hK4 <| c_seq fun K8 hK8 => sr fun K9 hK9 => ww H <| ag rfl rfl <| fun a H => nk hK9 <| c_block ?_
 obtain ⟨I12, m13, h60, h61⟩ := h
 refine c_loop (σ := Int) (fun z w => I12 z w) (fun z w => m13 z w) (fun z => [(0, (.pointer p1)), (3, (.pointer (some (blk b5)))), (5, (.i z))]) 0 h60 (H.weaken ⟨rfl, rfl, rfl, trivial⟩) ?_
 clear H h60
 rintro i10 a w11 h H
 replace h := h61 i10 w11 h
 clear h61
 replace H : Has 43 [] a [(0, (.pointer p1)), (3, (.pointer (some (blk b5)))), (5, (.i i10))] := H
 obtain ⟨a16, h59, h⟩ := h
 refine c_seq fun K14 hK14 => sr fun K15 hK15 => ww H <| mv rfl rfl <| mv rfl rfl <| fun a H => ?_
 revert H
 revert h
 subst h59
 intro h H
 obtain ⟨l17, hc18, h⟩ := h
 refine ww H <| nl rfl rfl <| fd rfl fld_97_0 rfl <| ld rfl one_95 hc18 rfl <| bl (vs := [l17.v]) rfl rfl (fun cs => b_lenS (z := l17) sl_95) <| bn rfl rfl r_lss rfl <| fun a H => nk hK15 <| cd H rfl h (fun h19 h => ?_) (fun h19 h => ?_)
 ·refine c_skip <| hK14 _ _ <| c_seq fun K20 hK20 => c_block <| c_seq fun K21 hK21 => c_regD mixed (by kernel_rfl) <| z_move H rfl rfl (lt_ rfl) fun a H => z_nil H rfl rfl (lt_ rfl) fun a H => z_fld H rfl rfl fld_97_0 (lt_ rfl) fun a H => ?_
  obtain ⟨l23, hc24, h⟩ := h
  refine z_load (v := l23.v) H rfl rfl one_95 hc24 (lt_ rfl) fun a H => z_move H rfl rfl (lt_ rfl) fun a H => ?_
  obtain ⟨a25, h26, h27, h28, h⟩ := h
  refine z_idxS (s := l23) H rfl rfl rfl slc_95 h26 h27 h28 (lt_ rfl) fun a H => z_fld H rfl rfl fld_139_0 (lt_ rfl) fun a H => ?_
  obtain ⟨C29, hc30, C31, hc32, h⟩ := h
  refine z_loadN (l := [(.i C29), (.i C31)]) H rfl rfl agg_27 rfl ⟨hc30, hc32, trivial⟩ (lt_ rfl) fun a H => ?_
  obtain ⟨C33, hc34, C35, hc36, h⟩ := h
  refine z_loadN (l := [(.i C33), (.i C35)]) H rfl rfl agg_27 rfl ⟨hc34, hc36, trivial⟩ (lt_ rfl) fun a H => z_bin H rfl rfl rfl (r_eqst eqg_27 (eqst_27 0) rfl) (lt_ rfl) fun a H => wpQuiet_nil ?_
  rintro _ ⟨k22, rfl⟩
  replace h := h k22
  refine hK21 _ _ <| cd H rfl h (fun h37 h => ?_) (fun h37 h => ?_)
  ·exact sr fun K38 hK38 => ww H <| mv rfl rfl <| ag rfl rfl <| fun a H => nk hK38 <| c_ret <| e_ret1 H rfl rfl h
  ·refine c_skip <| hK20 _ _ <| c_reg <| ww H <| mv rfl rfl <| bn rfl rfl r_add rfl <| ag rfl rfl <| fun a H => c_nil <| Exists.intro (wr .i64 (i10 + 1)) ⟨h.1, h.2, H.weaken ⟨rfl, rfl, rfl, trivial⟩⟩
 ·refine c_exit ?_
  first | (simp only [Exit.then, Exit.inBlock, ↓reduceIte]; fail_if_success simp only [Nat.reduceEqDiff]) | simp only [Exit.then, Exit.inBlock, ↓reduceIte, Nat.reduceEqDiff]
  refine hK8 _ _ <| c_seq fun K39 hK39 => ?_
  replace H := H.weaken (L' := [(0, (.pointer (some a16))), (3, (.pointer (some (blk b5))))]) ⟨rfl, rfl, trivial⟩
  obtain ⟨l40, hc41, C42, hc43, C44, hc45, h⟩ := h
  refine c_any (V := [(0, (.pointer (some a16))), (1, (.pointer (some a16))), (2, (.pointer (some a16))), (3, (.pointer (some (a16.add 0)))), (4, l40.v), (5, (.agg #[(.i C42), (.i C44)])), (6, (.agg #[(.i C42), (.i C44), (.bool false), (.bool false), Slc.nil.v]))]) (⟨[[], [], [1], [2], [3], [], [5], [6], [4, 7], [0, 1, 2, 3, 4, 5, 6, 7, 8], [0, 1, 2, 3, 4, 5, 6, 7, 8, 9], [0, 1, 2, 3, 4, 5, 6, 7, 8, 10]], [some 26, some 27, some 28, some 29, some 30, some 31, some 32, some 33, some 34, some 35, some 36, none], [7, 8, 11], [0, 0, 0, 0, 0, 0, 0, 0, 1, 2, 2, 2], [2, 1, 1, 1, 1, 0, 0, 1, 2, 2, 2, 3]⟩ : Rg) [(0, (.pointer (some a16))), (3, (.pointer (some (blk b5))))] mixed (by kernel_rfl) H <| Stg.eff [0, 1, 2, 3, 4, 5, 6] (by kernel_rfl) rfl (.cons ?_ (.cons ?_ (.cons ?_ (.cons ?_ (.cons ?_ (.cons ?_ (.cons ?_ .nil))))))) ?_
  ·exact Aw rfl rfl <| mv rfl rfl <| An rfl
  ·exact Aw rfl rfl <| mv rfl rfl <| An rfl
  ·exact Aw rfl rfl <| nl rfl rfl <| An rfl
  ·exact Aw rfl rfl <| fd rfl fld_97_0 rfl <| An rfl
  ·exact Aw rfl rfl <| ld rfl one_95 hc41 rfl <| An rfl
  ·exact Aw rfl rfl <| lN (l := [(.i C42), (.i C44)]) rfl agg_27 rfl ⟨hc43, hc45, trivial⟩ rfl <| An rfl
  ·exact Ans.mk rfl rfl fun a H => s_build H rfl (by rw [H.parts (vs := [(0, (.agg #[(.i C42), (.i C44)]))]) rfl]; exact bd_139_ii64ii640 _ C42 C44) (lt_ rfl) fun a H => Ans.fin H rfl
  ·intro a H
   replace H := H.weaken (L' := [(32, (.agg #[(.i C42), (.i C44), (.bool false), (.bool false), Slc.nil.v]))]) ⟨rfl, trivial⟩
   replace h := h.get
   obtain ⟨b46, w47, n48, h⟩ := h
   refine s_bslc H rfl (by rw [H.parts (vs := [(0, (.agg #[(.i C42), (.i C44), (.bool false), (.bool false), Slc.nil.v]))]) rfl]; exact bs_95_1_ii64ii64bbs0 (w11.drewN 1) C42 C44 false false Slc.nil) (lt_ rfl) ?_
   rw [← n48.at_]
   clear H a
   intro a H
   refine n48.go ?_
   obtain ⟨hc49, h⟩ := h
   refine c_nil <| effQ.go [] H rfl rfl <| Stg.eff [0, 1, 2, 3, 4] (by kernel_rfl) rfl (.cons ?_ (.cons ?_ (.cons ?_ (.cons ?_ (.cons ?_ .nil))))) ?_
   ·exact Aw rfl rfl <| mv rfl rfl <| An rfl
   ·exact Aw rfl rfl <| mv rfl rfl <| An rfl
   ·exact Aw rfl rfl <| nl rfl rfl <| An rfl
   ·exact Aw rfl rfl <| fd rfl fld_97_0 rfl <| An rfl
   ·exact Aw rfl rfl <| ld rfl one_95 hc49 rfl <| An rfl
   ·intro a H
    replace H := H.weaken (L' := [(30, l40.v), (33, (Slc.v (Slc.mk (some (blk b46)) 1 1)))]) ⟨rfl, rfl, trivial⟩
    obtain ⟨s50, w51, h52, h⟩ := h
    refine s_blt H rfl (H.args (vs := [l40.v, (Slc.v (Slc.mk (some (blk b46)) 1 1))]) rfl) (lt_ rfl) (fun cs => b_app (z := s50) h52) ?_
    clear H a h52
    intro a H
    refine c_nil <| effQ.go [(9, (.pointer (some a16))), (10, (.pointer (some (a16.add 0))))] H rfl rfl <| Stg.eff [0, 9, 10] (by kernel_rfl) rfl (.cons ?_ (.cons ?_ (.cons ?_ .nil))) ?_
    ·exact Aw rfl rfl <| mv rfl rfl <| An rfl
    ·exact Aw rfl rfl <| nl rfl rfl <| An rfl
    ·exact Aw rfl rfl <| fd rfl fld_97_0 rfl <| An rfl
    ·refine st h rfl rfl one_95 rfl fun w53 w53S h => fun a H => c_nil <| effQ.go0 [] H rfl rfl <| Stg.fin [] (by kernel_rfl) .nil ?_
     ·intro a H
      replace H := H.weaken (L' := [(0, (.pointer (some a16)))]) ⟨rfl, trivial⟩
      obtain ⟨l57, hc58, h⟩ := h
      exact hK39 _ _ <| sr fun K56 hK56 => ww H <| mv rfl rfl <| nl rfl rfl <| fd rfl fld_97_0 rfl <| ld rfl one_95 hc58 rfl <| bl (vs := [l57.v]) rfl rfl (fun cs => b_lenS (z := l57) sl_95) <| bn rfl rfl r_sub rfl <| ag rfl rfl <| fun a H => nk hK56 <| c_ret <| e_ret1 H rfl rfl h

theorem sim_sherdlaw18_sameMessage (K1 C2 S3 O4 : Int) (K5 : ByteArray) (C6 C7 C8 C9 : Int) (H10 : Bool) (D11 : Slc) (K12 C13 S14 O15 : Int) (K16 : ByteArray) (C17 C18 C19 C20 : Int) (H21 : Bool) (D22 : Slc) (w : World) (Q : Ending → World → Prop) (h : vc_sherdlaw18_sameMessage K1 C2 S3 O4 K5 C6 C7 C8 C9 H10 D11 K12 C13 S14 O15 K16 C17 C18 C19 C20 H21 D22 w Q) : Calls PP F_sherdlaw18_sameMessage #[(.agg #[(.i K1), (.i C2), (.i S3), (.i O4), (.string K5), (.i C6), (.i C7), (.i C8), (.i C9), (.bool H10), D11.v]), (.agg #[(.i K12), (.i C13), (.i S14), (.i O15), (.string K16), (.i C17), (.i C18), (.i C19), (.i C20), (.bool H21), D22.v])] w Q := by
 unfold vc_sherdlaw18_sameMessage at h
 refine enter (n := 68) Tryz.func60 rfl rfl (le_ rfl) fun a H => sr fun K23 hK23 => ww H <| bx h rfl rfl rfl rfl fun b24 w25 n26 h => bx h rfl rfl rfl rfl fun b27 w28 n29 h => ag rfl rfl <| fun a H => nk hK23 <| sr fun K30 hK30 => ww H <| fd rfl fld_56_0 rfl <| fun a H => s_load (v := (.i K1)) H rfl rfl one_3 (n29.old (n26.cell (i := 0) rfl)) (lt_ rfl) fun a H => ww H <| fd rfl fld_56_0 rfl <| fun a H => s_load (v := (.i K12)) H rfl rfl one_3 (n29.cell (i := 0) rfl) (lt_ rfl) fun a H => ww H <| bn rfl rfl r_eql rfl <| mv rfl rfl <| fun a H => g_join (n := 68) [(16, (.bool ((decide (K1 = K12)) && (decide (C2 = C13))))), (2, (.pointer (some (blk b24)))), (3, (.pointer (some (blk b27))))] (.succ (.succ (.succ (.succ (.succ (.succ (.zero _))))))) ?_ ?_
 ·intro h32
  try clear h
  rcases Bool.eq_false_or_eq_true (decide (K1 = K12)) with h31 | h31
  ·replace H := H.ch (t := 10) (b := true) rfl h31
   exact ww H <| gfd rfl rfl rfl fld_56_1 rfl <| fun a H => s_load (v := (.i C2)) H (wantG H rfl rfl) rfl one_3 (n29.old (n26.cell (i := 1) rfl)) (lt_ rfl) fun a H => ww H <| gfd rfl rfl rfl fld_56_1 rfl <| fun a H => s_load (v := (.i C13)) H (wantG H rfl rfl) rfl one_3 (n29.cell (i := 1) rfl) (lt_ rfl) fun a H => ww H <| gbn rfl rfl rfl rfl r_eql rfl <| pT rfl rfl rfl <| fun a H => h32 _ (H.weaken ⟨by rw [h31]; rfl, rfl, rfl, trivial⟩)
  ·replace H := H.ch (t := 10) (b := false) rfl h31
   exact ww H <| sk rfl rfl rfl rfl <| sk rfl rfl rfl rfl <| sk rfl rfl rfl rfl <| sk rfl rfl rfl rfl <| sk rfl rfl rfl rfl <| pF rfl rfl rfl <| fun a H => h32 _ (H.weaken ⟨by rw [h31]; rfl, rfl, rfl, trivial⟩)
 ·clear H a
  intro a H
  refine ww H <| mv rfl rfl <| fun a H => g_join (n := 68) [(23, (.bool (((decide (K1 = K12)) && (decide (C2 = C13))) && (decide (S3 = S14))))), (2, (.pointer (some (blk b24)))), (3, (.pointer (some (blk b27))))] (.succ (.succ (.succ (.succ (.succ (.succ (.zero _))))))) ?_ ?_
  ·intro h34
   try clear h
   rcases Bool.eq_false_or_eq_true ((decide (K1 = K12)) && (decide (C2 = C13))) with h33 | h33
   ·replace H := H.ch (t := 17) (b := true) rfl h33
    exact ww H <| gfd rfl rfl rfl fld_56_2 rfl <| fun a H => s_load (v := (.i S3)) H (wantG H rfl rfl) rfl one_3 (n29.old (n26.cell (i := 2) rfl)) (lt_ rfl) fun a H => ww H <| gfd rfl rfl rfl fld_56_2 rfl <| fun a H => s_load (v := (.i S14)) H (wantG H rfl rfl) rfl one_3 (n29.cell (i := 2) rfl) (lt_ rfl) fun a H => ww H <| gbn rfl rfl rfl rfl r_eql rfl <| pT rfl rfl rfl <| fun a H => h34 _ (H.weaken ⟨by rw [h33]; rfl, rfl, rfl, trivial⟩)
   ·replace H := H.ch (t := 17) (b := false) rfl h33
    exact ww H <| sk rfl rfl rfl rfl <| sk rfl rfl rfl rfl <| sk rfl rfl rfl rfl <| sk rfl rfl rfl rfl <| sk rfl rfl rfl rfl <| pF rfl rfl rfl <| fun a H => h34 _ (H.weaken ⟨by rw [h33]; rfl, rfl, rfl, trivial⟩)
  ·clear H a
   intro a H
   refine ww H <| mv rfl rfl <| fun a H => g_join (n := 68) [(30, (.bool ((((decide (K1 = K12)) && (decide (C2 = C13))) && (decide (S3 = S14))) && (decide (O4 = O15))))), (2, (.pointer (some (blk b24)))), (3, (.pointer (some (blk b27))))] (.succ (.succ (.succ (.succ (.succ (.succ (.zero _))))))) ?_ ?_
   ·intro h36
    try clear h
    rcases Bool.eq_false_or_eq_true (((decide (K1 = K12)) && (decide (C2 = C13))) && (decide (S3 = S14))) with h35 | h35
    ·replace H := H.ch (t := 24) (b := true) rfl h35
     exact ww H <| gfd rfl rfl rfl fld_56_3 rfl <| fun a H => s_load (v := (.i O4)) H (wantG H rfl rfl) rfl one_2 (n29.old (n26.cell (i := 3) rfl)) (lt_ rfl) fun a H => ww H <| gfd rfl rfl rfl fld_56_3 rfl <| fun a H => s_load (v := (.i O15)) H (wantG H rfl rfl) rfl one_2 (n29.cell (i := 3) rfl) (lt_ rfl) fun a H => ww H <| gbn rfl rfl rfl rfl r_eql rfl <| pT rfl rfl rfl <| fun a H => h36 _ (H.weaken ⟨by rw [h35]; rfl, rfl, rfl, trivial⟩)
    ·replace H := H.ch (t := 24) (b := false) rfl h35
     exact ww H <| sk rfl rfl rfl rfl <| sk rfl rfl rfl rfl <| sk rfl rfl rfl rfl <| sk rfl rfl rfl rfl <| sk rfl rfl rfl rfl <| pF rfl rfl rfl <| fun a H => h36 _ (H.weaken ⟨by rw [h35]; rfl, rfl, rfl, trivial⟩)
   ·clear H a
    intro a H
    refine ww H <| mv rfl rfl <| fun a H => g_join (n := 68) [(37, (.bool (((((decide (K1 = K12)) && (decide (C2 = C13))) && (decide (S3 = S14))) && (decide (O4 = O15))) && (decide (K5.toList = K16.toList))))), (2, (.pointer (some (blk b24)))), (3, (.pointer (some (blk b27))))] (.succ (.succ (.succ (.succ (.succ (.succ (.zero _))))))) ?_ ?_
    ·intro h38
     try clear h
     rcases Bool.eq_false_or_eq_true ((((decide (K1 = K12)) && (decide (C2 = C13))) && (decide (S3 = S14))) && (decide (O4 = O15))) with h37 | h37
     ·replace H := H.ch (t := 31) (b := true) rfl h37
      exact ww H <| gfd rfl rfl rfl fld_56_4 rfl <| fun a H => s_load (v := (.string K5)) H (wantG H rfl rfl) rfl one_9 (n29.old (n26.cell (i := 4) rfl)) (lt_ rfl) fun a H => ww H <| gfd rfl rfl rfl fld_56_4 rfl <| fun a H => s_load (v := (.string K16)) H (wantG H rfl rfl) rfl one_9 (n29.cell (i := 4) rfl) (lt_ rfl) fun a H => ww H <| gbn rfl rfl rfl rfl r_eqlS rfl <| pT rfl rfl rfl <| fun a H => h38 _ (H.weaken ⟨by rw [h37]; rfl, rfl, rfl, trivial⟩)
     ·replace H := H.ch (t := 31) (b := false) rfl h37
      exact ww H <| sk rfl rfl rfl rfl <| sk rfl rfl rfl rfl <| sk rfl rfl rfl rfl <| sk rfl rfl rfl rfl <| sk rfl rfl rfl rfl <| pF rfl rfl rfl <| fun a H => h38 _ (H.weaken ⟨by rw [h37]; rfl, rfl, rfl, trivial⟩)
    ·clear H a
     intro a H
     refine ww H <| mv rfl rfl <| fun a H => g_join (n := 68) [(44, (.bool ((((((decide (K1 = K12)) && (decide (C2 = C13))) && (decide (S3 = S14))) && (decide (O4 = O15))) && (decide (K5.toList = K16.toList))) && (decide (C6 = C17) && (decide (C7 = C18)))))), (2, (.pointer (some (blk b24)))), (3, (.pointer (some (blk b27))))] (.succ (.succ (.succ (.succ (.succ (.succ (.zero _))))))) ?_ ?_
     ·intro h40
      try clear h
      rcases Bool.eq_false_or_eq_true (((((decide (K1 = K12)) && (decide (C2 = C13))) && (decide (S3 = S14))) && (decide (O4 = O15))) && (decide (K5.toList = K16.toList))) with h39 | h39
      ·replace H := H.ch (t := 38) (b := true) rfl h39
       exact ww H <| gfd rfl rfl rfl fld_56_5 rfl <| glN (l := [(.i C6), (.i C7)]) rfl rfl rfl agg_27 rfl ⟨(n29.old (n26.cell (i := 5) rfl)), (n29.old (n26.cell (i := 6) rfl)), trivial⟩ rfl <| gfd rfl rfl rfl fld_56_5 rfl <| glN (l := [(.i C17), (.i C18)]) rfl rfl rfl agg_27 rfl ⟨(n29.cell (i := 5) rfl), (n29.cell (i := 6) rfl), trivial⟩ rfl <| gbn rfl rfl rfl rfl (r_eqst eqg_27 (eqst_27 0) rfl) rfl <| pT rfl rfl rfl <| fun a H => h40 _ (H.weaken ⟨by rw [h39]; rfl, rfl, rfl, trivial⟩)
      ·replace H := H.ch (t := 38) (b := false) rfl h39
       exact ww H <| sk rfl rfl rfl rfl <| sk rfl rfl rfl rfl <| sk rfl rfl rfl rfl <| sk rfl rfl rfl rfl <| sk rfl rfl rfl rfl <| pF rfl rfl rfl <| fun a H => h40 _ (H.weaken ⟨by rw [h39]; rfl, rfl, rfl, trivial⟩)
     ·clear H a
      intro a H
      refine ww H <| mv rfl rfl <| fun a H => g_join (n := 68) [(51, (.bool (((((((decide (K1 = K12)) && (decide (C2 = C13))) && (decide (S3 = S14))) && (decide (O4 = O15))) && (decide (K5.toList = K16.toList))) && (decide (C6 = C17) && (decide (C7 = C18)))) && (decide (C8 = C19) && (decide (C9 = C20)))))), (2, (.pointer (some (blk b24)))), (3, (.pointer (some (blk b27))))] (.succ (.succ (.succ (.succ (.succ (.succ (.zero _))))))) ?_ ?_
      ·intro h42
       try clear h
       rcases Bool.eq_false_or_eq_true ((((((decide (K1 = K12)) && (decide (C2 = C13))) && (decide (S3 = S14))) && (decide (O4 = O15))) && (decide (K5.toList = K16.toList))) && (decide (C6 = C17) && (decide (C7 = C18)))) with h41 | h41
       ·replace H := H.ch (t := 45) (b := true) rfl h41
        exact ww H <| gfd rfl rfl rfl fld_56_6 rfl <| glN (l := [(.i C8), (.i C9)]) rfl rfl rfl agg_27 rfl ⟨(n29.old (n26.cell (i := 7) rfl)), (n29.old (n26.cell (i := 8) rfl)), trivial⟩ rfl <| gfd rfl rfl rfl fld_56_6 rfl <| glN (l := [(.i C19), (.i C20)]) rfl rfl rfl agg_27 rfl ⟨(n29.cell (i := 7) rfl), (n29.cell (i := 8) rfl), trivial⟩ rfl <| gbn rfl rfl rfl rfl (r_eqst eqg_27 (eqst_27 0) rfl) rfl <| pT rfl rfl rfl <| fun a H => h42 _ (H.weaken ⟨by rw [h41]; rfl, rfl, rfl, trivial⟩)
       ·replace H := H.ch (t := 45) (b := false) rfl h41
        exact ww H <| sk rfl rfl rfl rfl <| sk rfl rfl rfl rfl <| sk rfl rfl rfl rfl <| sk rfl rfl rfl rfl <| sk rfl rfl rfl rfl <| pF rfl rfl rfl <| fun a H => h42 _ (H.weaken ⟨by rw [h41]; rfl, rfl, rfl, trivial⟩)
      ·clear H a
       intro a H
       refine ww H <| mv rfl rfl <| fun a H => g_join (n := 68) [(58, (.bool ((((((((decide (K1 = K12)) && (decide (C2 = C13))) && (decide (S3 = S14))) && (decide (O4 = O15))) && (decide (K5.toList = K16.toList))) && (decide (C6 = C17) && (decide (C7 = C18)))) && (decide (C8 = C19) && (decide (C9 = C20)))) && (decide (H10 = H21))))), (2, (.pointer (some (blk b24)))), (3, (.pointer (some (blk b27))))] (.succ (.succ (.succ (.succ (.succ (.succ (.zero _))))))) ?_ ?_
       ·intro h44
        try clear h
        rcases Bool.eq_false_or_eq_true (((((((decide (K1 = K12)) && (decide (C2 = C13))) && (decide (S3 = S14))) && (decide (O4 = O15))) && (decide (K5.toList = K16.toList))) && (decide (C6 = C17) && (decide (C7 = C18)))) && (decide (C8 = C19) && (decide (C9 = C20)))) with h43 | h43
        ·replace H := H.ch (t := 52) (b := true) rfl h43
         exact ww H <| gfd rfl rfl rfl fld_56_7 rfl <| fun a H => s_load (v := (.bool H10)) H (wantG H rfl rfl) rfl one_4 (n29.old (n26.cell (i := 9) rfl)) (lt_ rfl) fun a H => ww H <| gfd rfl rfl rfl fld_56_7 rfl <| fun a H => s_load (v := (.bool H21)) H (wantG H rfl rfl) rfl one_4 (n29.cell (i := 9) rfl) (lt_ rfl) fun a H => ww H <| gbn rfl rfl rfl rfl (r_eqB bool_4) rfl <| pT rfl rfl rfl <| fun a H => h44 _ (H.weaken ⟨by rw [h43]; rfl, rfl, rfl, trivial⟩)
        ·replace H := H.ch (t := 52) (b := false) rfl h43
         exact ww H <| sk rfl rfl rfl rfl <| sk rfl rfl rfl rfl <| sk rfl rfl rfl rfl <| sk rfl rfl rfl rfl <| sk rfl rfl rfl rfl <| pF rfl rfl rfl <| fun a H => h44 _ (H.weaken ⟨by rw [h43]; rfl, rfl, rfl, trivial⟩)
       ·clear H a
        intro a H
        obtain ⟨x51, h52, h53, h⟩ := h
        refine ww H <| mv rfl rfl <| fun a H => g_join (n := 68) [(67, (.bool x51))] (.succ (.succ (.succ (.succ (.succ (.succ (.succ (.succ (.zero _))))))))) ?_ ?_
        ·intro h46
         try clear h
         rcases Bool.eq_false_or_eq_true ((((((((decide (K1 = K12)) && (decide (C2 = C13))) && (decide (S3 = S14))) && (decide (O4 = O15))) && (decide (K5.toList = K16.toList))) && (decide (C6 = C17) && (decide (C7 = C18)))) && (decide (C8 = C19) && (decide (C9 = C20)))) && (decide (H10 = H21))) with h45 | h45
         ·replace H := H.ch (t := 59) (b := true) rfl h45
          replace h := h52 h45
          refine ww H <| gfd rfl rfl rfl fld_56_8 rfl <| fun a H => s_load (v := D11.v) H (wantG H rfl rfl) rfl one_49 (n29.old (n26.cell (i := 10) rfl)) (lt_ rfl) fun a H => ?_
          obtain ⟨s47, h48, h⟩ := h
          refine s_cv H (wantG H rfl rfl) rfl h48 (lt_ rfl) ?_
          clear H a h48
          intro a H
          refine ww H <| gfd rfl rfl rfl fld_56_8 rfl <| fun a H => s_load (v := D22.v) H (wantG H rfl rfl) rfl one_49 (n29.cell (i := 10) rfl) (lt_ rfl) fun a H => ?_
          obtain ⟨s49, h50, h⟩ := h
          refine s_cv H (wantG H rfl rfl) rfl h50 (lt_ rfl) ?_
          clear H a h50
          intro a H
          refine ww H <| gbn rfl rfl rfl rfl r_eqlS rfl <| pT rfl rfl rfl <| fun a H => ?_
          subst h
          exact h46 _ (H.weaken ⟨rfl, trivial⟩)
         ·replace H := H.ch (t := 59) (b := false) rfl h45
          refine ww H <| sk rfl rfl rfl rfl <| sk rfl rfl rfl rfl <| sk rfl rfl rfl rfl <| sk rfl rfl rfl rfl <| sk rfl rfl rfl rfl <| sk rfl rfl rfl rfl <| sk rfl rfl rfl rfl <| pF rfl rfl rfl <| fun a H => ?_
          replace h := h53 h45
          subst h
          exact h46 _ (H.weaken ⟨rfl, trivial⟩)
        ·clear H a
         clear h52 h53
         intro a H
         exact ww H <| ag rfl rfl <| fun a H => nk hK30 <| c_ret <| e_ret1 H rfl rfl h

theorem sim_phase_New (N1 K2 D3 : Int) (w : World) (Q : Ending → World → Prop) (h : vc_phase_New N1 K2 D3 w Q) : Calls PP F_phase_New #[(.agg #[(.i N1), (.i K2), (.i D3)])] w Q := by
 unfold vc_phase_New at h
 have eP {L : List (Nat × Value)} (c : List PanicEntry) (w' : World) (a : Act) (h : Q (.panicked c) w') (H : Has 14 [] a L) : bodyPost PP Tryz.f64 Q (.panic c) a w' := e_panic H h
 refine enter (n := 14) Tryz.func64 rfl rfl (le_ rfl) fun a H => sr fun K4 hK4 => ww H <| bx h rfl rfl rfl rfl fun b5 w6 n7 h => ag rfl rfl <| ag rfl rfl <| fun a H => nk hK4 <| c_seq fun K8 hK8 => sr fun K9 hK9 => ww H <| lN (l := [(.i N1), (.i K2), (.i D3)]) rfl agg_35 rfl ⟨(n7.cell (i := 0) rfl), (n7.cell (i := 1) rfl), (n7.cell (i := 2) rfl), trivial⟩ rfl <| cl1 h body_35 rfl rfl eP fun C11 w10 h => ag rfl rfl <| fun a H => nk hK9 <| sr fun K12 hK12 => ww H <| mv rfl rfl <| bn rfl rfl r_neq rfl <| fun a H => nk hK12 <| cd H rfl h (fun h13 h => ?_) (fun h13 h => ?_)
 ·exact sr fun K14 hK14 => ww H <| mv rfl rfl <| ag rfl rfl <| ag rfl rfl <| fun a H => nk hK14 <| c_ret <| e_ret2 H rfl rfl rfl h
 ·obtain ⟨N16, hc17, K18, hc19, D20, hc21, g22, w23, h24, h⟩ := h
  refine c_skip <| hK8 _ _ <| sr fun K15 hK15 => ww H <| lN (l := [(.i N16), (.i K18), (.i D20)]) rfl agg_35 rfl ⟨hc17, hc19, hc21, trivial⟩ rfl <| fun a H => s_mkm H rfl h24 (lt_ rfl) ?_
  clear H a h24
  intro a H
  exact s_build H rfl (by rw [H.parts (vs := [(0, (.agg #[(.i N16), (.i K18), (.i D20)])), (1, (.map (some g22)))]) rfl]; exact bd_166_ii64ii64ii640_m1 _ N16 K18 D20 (some g22)) (lt_ rfl) fun a H => ww H <| bx h rfl rfl rfl rfl fun b25 w26 n27 h => ag rfl rfl <| ag rfl rfl <| fun a H => nk hK15 <| c_ret <| e_ret2 H rfl rfl rfl h

end Go.Proofs.YtabifopphhpciaaGreatDoor
