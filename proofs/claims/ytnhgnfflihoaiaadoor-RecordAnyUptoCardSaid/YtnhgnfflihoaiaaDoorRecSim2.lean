/-
  The conditions give the machine's calls; printed by vcgen.py.
-/
import Derived.Test.YtnhgnfflihoaiaaDoorRecVc
namespace Go.Proofs.YtnhgnfflihoaiaaDoor
open Go Go.Vc
set_option maxRecDepth 100000 in
set_option maxHeartbeats 4000000 in
theorem sim_record_Scan (data1 : Slc) (w : World) (Q : Ending → World → Prop) (h : vc_record_Scan data1 w Q) : Calls PP F_record_Scan #[(Slc.v data1)] w Q := by
 unfold vc_record_Scan at h
 refine enter (n := 49) (l := [(Slc.v data1)]) Tryd.func16 rfl rfl (Nat.le_of_ble_eq_true rfl) fun a H => ?_
 replace H : Has 49 [] a [(0, (Slc.v data1))] := H
 refine c_seq fun K2 hK2 => c_reg ?_
 replace h := h.get
 obtain ⟨b3, w4, nb5, h⟩ := h
 refine s_box H rfl rfl (lt_ rfl) ?_
 rw [← nb5.at_]
 clear H a
 intro a H
 refine nb5.go ?_
 replace h := h.get
 obtain ⟨b6, w7, nb8, h⟩ := h
 refine s_alloc H rfl zero_25 (lt_ rfl) ?_
 rw [← nb8.at_]
 clear H a
 intro a H
 refine nb8.go ?_
 iterate 5 refine s_assign H rfl rfl (lt_ rfl) fun a H => ?_
 refine c_nil <| hK2 _ _ <| c_seq fun K9 hK9 => c_reg ?_
 replace h := h.get
 obtain ⟨b10, w11, nb12, h⟩ := h
 refine s_alloc H rfl zero_25 (lt_ rfl) ?_
 rw [← nb12.at_]
 clear H a
 intro a H
 refine nb12.go <| c_nil <| hK9 _ _ <| c_seq fun K13 hK13 => c_reg ?_
 replace h := h.get
 obtain ⟨b14, w15, nb16, h⟩ := h
 refine s_alloc H rfl zero_3 (lt_ rfl) ?_
 rw [← nb16.at_]
 clear H a
 intro a H
 refine nb16.go <| c_nil <| hK13 _ _ <| c_seq fun K17 hK17 => c_seq fun K18 hK18 => c_reg <| s_mkf H rfl (H.args (vs := [(.pointer (some (blk b3))), (.pointer (some (blk b10))), (.pointer (some (blk b14)))]) rfl) (lt_ rfl) fun a H => s_call H rfl body_30 (H.args (vs := [(.func (.func F_record_Scan_c1) #[] #[(.pointer (some (blk b3))), (.pointer (some (blk b10))), (.pointer (some (blk b14)))])]) rfl) (lt_ rfl) h ?_ (fun c w' h H => e_panic (P := PP) (fn := Tryd.f16) H h)
 clear H h a
 rintro _ w19 a ⟨caugh20, rfl, h⟩ H
 refine s_assign H rfl rfl (lt_ rfl) fun a H => c_nil <| hK18 _ _ <| c_seq fun K21 hK21 => c_reg <| s_move H rfl rfl (lt_ rfl) fun a H => s_bin H rfl rfl rfl r_neq (lt_ rfl) fun a H => c_nil <| hK21 _ _ <| c_cond H rfl (fun hb22 => ?_) (fun hb22 => ?_)
 ·replace h := h.1 hb22
  refine c_seq fun K23 hK23 => c_reg <| s_build H rfl (by rw [H.parts (vs := []) rfl]; exact bd_25 w19) (lt_ rfl) fun a H => s_move H rfl rfl (lt_ rfl) fun a H => s_stoN (l := [(.int .i64 0), (.int .i64 0), (.int .i64 0), (.int .i64 0)]) H rfl rfl rfl rfl agg_25 rfl rfl h ?_
  clear h H
  intro w24 h H
  iterate 5 refine s_assign H rfl rfl (lt_ rfl) fun a H => ?_
  refine c_nil <| hK23 _ _ <| c_ret ?_
  obtain ⟨N25, hc26, h⟩ := h
  obtain ⟨K27, hc28, h⟩ := h
  obtain ⟨Delta29, hc30, h⟩ := h
  obtain ⟨Serve31, hc32, h⟩ := h
  exact e_ret6 H rfl ⟨_, rfl, run_loadN (l := [(.int .i64 N25), (.int .i64 K27), (.int .i64 Delta29), (.int .i64 Serve31)]) agg_25 rfl ⟨hc26, hc28, hc30, hc32, trivial⟩⟩ rfl rfl rfl rfl rfl h
 ·replace h := h.2 hb22
  refine c_skip <| hK17 _ _ <| c_seq fun K33 hK33 => ?_
  replace H := H.weaken (L' := [(1, (.pointer (some (blk b3)))), (2, (.pointer (some (blk b6)))), (8, (.pointer (some (blk b10)))), (9, (.pointer (some (blk b14))))]) ⟨rfl, rfl, rfl, rfl, trivial⟩
  obtain ⟨l36, h⟩ := h
  obtain ⟨l39, h⟩ := h
  obtain ⟨l42, h⟩ := h
  obtain ⟨l45, h⟩ := h
  obtain ⟨l48, h⟩ := h
  obtain ⟨hi51, hi52, hi53, h⟩ := h
  obtain ⟨l54, h⟩ := h
  obtain ⟨Rel34, hs141, hL38, hL41, hL44, hL47, hL50, hL56, hT133, hT134, hT135, hT136, hT137, hT138, hF139⟩ := h
  refine c_anyF (V := [(0, (Slc.v l36)), (1, (.int .i64 l39)), (2, (Slc.v l42)), (3, (.int .i64 l45)), (4, (.int .i64 (wr .i64 (l45 - 4)))), (5, (.int .i64 l48)), (6, (Slc.v (l42.cut 1 (Int.toNat (wr .i64 (l45 - 4))) (Int.toNat (l48))))), (10, (.int .i64 l54))]) 6 (⟨⟨[[], [], [], [], [3], [], [2, 4, 5], [6], [7], [8], [], [10], [0, 1, 9, 11], [12], [], [0, 1, 2, 3, 4, 5, 6, 7, 8, 9, 10, 11, 12, 13, 14]], [some 19, some 20, some 21, some 22, some 23, some 24, some 25, some 26, some 27, some 28, some 29, some 30, some 31, some 32, some 11, none], [7, 9, 11, 13, 14, 15], [], []⟩, [[], [], [], [], [], [], [], [], [7], [7], [], [], [7, 9, 11], [7, 9, 11], [], [7, 9, 11, 13, 14]], [[13, 15], [13, 15], [7, 9, 13, 15], [7, 9, 13, 15], [7, 9, 13, 15], [7, 9, 13, 15], [7, 9, 13, 15], [9, 13, 15], [9, 13, 15], [13, 15], [11, 13, 15], [13, 15], [13, 15], [15], [15], []]⟩ : Rh) [(1, (.pointer (some (blk b3)))), (2, (.pointer (some (blk b6)))), (8, (.pointer (some (blk b10)))), (9, (.pointer (some (blk b14))))] mixed (by kernel_rfl) H fun F142 hE140 => ?_
  clear H a
  have st_7_9_11_13_14_15 : ∀ (Clone58 : Slc) (b63 : Nat) (b66 : Nat) (b69 : Nat) (b72 : Nat) (w35 : World), Rel34 (some Clone58) (some b63) (some b66) (some b69) (some b72) (some ()) w35 → F142 0 [7, 9, 11, 13, 14, 15] [(0, (Slc.v l36)), (1, (.int .i64 l39)), (2, (Slc.v l42)), (3, (.int .i64 l45)), (4, (.int .i64 (wr .i64 (l45 - 4)))), (5, (.int .i64 l48)), (6, (Slc.v (l42.cut 1 (Int.toNat (wr .i64 (l45 - 4))) (Int.toNat (l48))))), (7, (Slc.v Clone58)), (8, (.agg #[(Slc.v Clone58), (.int .i64 0)])), (9, (.pointer (some (blk b63)))), (10, (.int .i64 l54)), (11, (Slc.v (Slc.mk (some (blk b66)) 1 1))), (12, (.agg #[(Slc.v l36), (.int .i64 l39), (.pointer (some (blk b63))), (Slc.v Slc.nil), (Slc.v (Slc.mk (some (blk b66)) 1 1))])), (13, (.pointer (some (blk b69)))), (14, (.pointer (some (blk b72)))), (15, undef)] w35 := by
   intro Clone58 b63 b66 b69 b72 w35 hr
   rw [hE140]
   refine StT.last [] (by kernel_rfl) (by kernel_rfl) .nil ?_
   ·intro a H
    have h := hF139 Clone58 b63 b66 b69 b72 w35 hr
    replace H := H.weaken (L' := [(1, (.pointer (some (blk b3)))), (2, (.pointer (some (blk b6)))), (8, (.pointer (some (blk b10)))), (11, (.pointer (some (blk b72))))]) ⟨rfl, rfl, rfl, rfl, trivial⟩
    refine hK33 _ _ <| c_seq fun K84 hK84 => c_reg <| s_mkf H rfl (H.args (vs := [(.pointer (some (blk b72))), (.pointer (some (blk b3)))]) rfl) (lt_ rfl) fun a H => s_call H rfl body_30 (H.args (vs := [(.func (.func F_record_Scan_c2) #[] #[(.pointer (some (blk b72))), (.pointer (some (blk b3)))])]) rfl) (lt_ rfl) h ?_ (fun c w' h H => e_panic (P := PP) (fn := Tryd.f16) H h)
    clear H h a
    rintro _ w85 a ⟨caugh86, rfl, h⟩ H
    refine s_assign H rfl rfl (lt_ rfl) fun a H => c_nil <| hK84 _ _ <| c_seq fun K87 hK87 => ?_
    replace H := H.weaken (L' := [(2, (.pointer (some (blk b6)))), (8, (.pointer (some (blk b10)))), (11, (.pointer (some (blk b72)))), (12, (.int .i64 caugh86))]) ⟨rfl, rfl, rfl, rfl, trivial⟩
    obtain ⟨N88, hc89, h⟩ := h
    obtain ⟨K90, hc91, h⟩ := h
    obtain ⟨Delta92, hc93, h⟩ := h
    obtain ⟨Serve94, hc95, h⟩ := h
    obtain ⟨l96, hc97, h⟩ := h
    obtain ⟨a98, hq99, h⟩ := h
    subst hq99
    obtain ⟨l100, hc101, h⟩ := h
    obtain ⟨l102, hc103, h⟩ := h
    obtain ⟨a104, hq105, h⟩ := h
    subst hq105
    obtain ⟨l106, hc107, h⟩ := h
    obtain ⟨l108, hc109, h⟩ := h
    obtain ⟨a110, hq111, h⟩ := h
    subst hq111
    obtain ⟨l112, hc113, h⟩ := h
    refine c_any (V := [(0, (.agg #[(.int .i64 N88), (.int .i64 K90), (.int .i64 Delta92), (.int .i64 Serve94)])), (1, (.pointer (some a98))), (2, (.pointer (some a98))), (3, (.pointer (some (a98.add 3)))), (4, (Slc.v l100)), (5, (.pointer (some a104))), (6, (.pointer (some a104))), (7, (.pointer (some (a104.add 4)))), (8, (Slc.v l106)), (9, (.int .i64 caugh86)), (10, (.pointer (some a110))), (11, (.pointer (some a110))), (12, (.pointer (some (a110.add 2)))), (13, (.pointer l112))]) (⟨[[], [], [1], [2], [3], [], [5], [6], [7], [], [], [10], [11], [12], [0], [0, 1, 2, 3, 4, 14], [0, 1, 2, 3, 4, 5, 6, 7, 8, 14, 15], [0, 1, 2, 3, 4, 5, 6, 7, 8, 9, 14, 15, 16], [0, 1, 2, 3, 4, 5, 6, 7, 8, 9, 10, 11, 12, 13, 14, 15, 16, 17], [0, 1, 2, 3, 4, 5, 6, 7, 8, 9, 10, 11, 12, 13, 14, 15, 16, 17, 18]], [some 35, some 36, some 37, some 38, some 39, some 40, some 41, some 42, some 43, some 44, some 45, some 46, some 47, some 48, none, some 3, some 4, some 5, some 6, some 7], [14], [0, 0, 0, 0, 0, 0, 0, 0, 0, 0, 0, 0, 0, 0, 0, 1, 1, 1, 1, 1], [0, 1, 1, 1, 1, 1, 1, 1, 1, 1, 1, 1, 1, 1, 1, 1, 1, 1, 1, 1]⟩ : Rg) [(2, (.pointer (some (blk b6)))), (8, (.pointer (some (blk b10)))), (11, (.pointer (some (blk b72)))), (12, (.int .i64 caugh86))] mixed (by kernel_rfl) H ?_
    refine Stg.eff [0, 1, 2, 3, 4, 5, 6, 7, 8, 9, 10, 11, 12, 13] (by kernel_rfl) rfl (.cons ?_ (.cons ?_ (.cons ?_ (.cons ?_ (.cons ?_ (.cons ?_ (.cons ?_ (.cons ?_ (.cons ?_ (.cons ?_ (.cons ?_ (.cons ?_ (.cons ?_ (.cons ?_ .nil)))))))))))))) ?_
    ·refine Ans.mk rfl rfl fun a H => ?_
     replace H := H.weaken (L' := [(8, (.pointer (some (blk b10))))]) ⟨rfl, trivial⟩
     refine s_loadN (l := [(.int .i64 N88), (.int .i64 K90), (.int .i64 Delta92), (.int .i64 Serve94)]) H rfl rfl agg_25 rfl ⟨hc89, hc91, hc93, hc95, trivial⟩ (lt_ rfl) fun a H => c_nil ⟨rfl, rfl, H.weaken (L' := [(35, (.agg #[(.int .i64 N88), (.int .i64 K90), (.int .i64 Delta92), (.int .i64 Serve94)]))]) ⟨rfl, trivial⟩⟩
    ·refine Ans.mk rfl rfl fun a H => ?_
     replace H := H.weaken (L' := [(11, (.pointer (some (blk b72))))]) ⟨rfl, trivial⟩
     refine s_load (v := (.pointer (some a98))) H rfl rfl one_76 hc97 (lt_ rfl) fun a H => c_nil ⟨rfl, rfl, H.weaken (L' := [(36, (.pointer (some a98)))]) ⟨rfl, trivial⟩⟩
    ·refine Ans.mk rfl rfl fun a H => ?_
     replace H := H.weaken (L' := [(36, (.pointer (some a98)))]) ⟨rfl, trivial⟩
     refine s_nil H rfl rfl (lt_ rfl) fun a H => c_nil ⟨rfl, rfl, H.weaken (L' := [(37, (.pointer (some a98)))]) ⟨rfl, trivial⟩⟩
    ·refine Ans.mk rfl rfl fun a H => ?_
     replace H := H.weaken (L' := [(37, (.pointer (some a98)))]) ⟨rfl, trivial⟩
     refine s_fld H rfl rfl fld_78_3 (lt_ rfl) fun a H => c_nil ⟨rfl, rfl, H.weaken (L' := [(38, (.pointer (some (a98.add 3))))]) ⟨rfl, trivial⟩⟩
    ·refine Ans.mk rfl rfl fun a H => ?_
     replace H := H.weaken (L' := [(38, (.pointer (some (a98.add 3))))]) ⟨rfl, trivial⟩
     refine s_load (v := (Slc.v l100)) H rfl rfl one_26 hc101 (lt_ rfl) fun a H => c_nil ⟨rfl, rfl, H.weaken (L' := [(39, (Slc.v l100))]) ⟨rfl, trivial⟩⟩
    ·refine Ans.mk rfl rfl fun a H => ?_
     replace H := H.weaken (L' := [(11, (.pointer (some (blk b72))))]) ⟨rfl, trivial⟩
     refine s_load (v := (.pointer (some a104))) H rfl rfl one_76 hc103 (lt_ rfl) fun a H => c_nil ⟨rfl, rfl, H.weaken (L' := [(40, (.pointer (some a104)))]) ⟨rfl, trivial⟩⟩
    ·refine Ans.mk rfl rfl fun a H => ?_
     replace H := H.weaken (L' := [(40, (.pointer (some a104)))]) ⟨rfl, trivial⟩
     refine s_nil H rfl rfl (lt_ rfl) fun a H => c_nil ⟨rfl, rfl, H.weaken (L' := [(41, (.pointer (some a104)))]) ⟨rfl, trivial⟩⟩
    ·refine Ans.mk rfl rfl fun a H => ?_
     replace H := H.weaken (L' := [(41, (.pointer (some a104)))]) ⟨rfl, trivial⟩
     refine s_fld H rfl rfl fld_78_4 (lt_ rfl) fun a H => c_nil ⟨rfl, rfl, H.weaken (L' := [(42, (.pointer (some (a104.add 4))))]) ⟨rfl, trivial⟩⟩
    ·refine Ans.mk rfl rfl fun a H => ?_
     replace H := H.weaken (L' := [(42, (.pointer (some (a104.add 4))))]) ⟨rfl, trivial⟩
     refine s_load (v := (Slc.v l106)) H rfl rfl one_50 hc107 (lt_ rfl) fun a H => c_nil ⟨rfl, rfl, H.weaken (L' := [(43, (Slc.v l106))]) ⟨rfl, trivial⟩⟩
    ·refine Ans.mk rfl rfl fun a H => ?_
     replace H := H.weaken (L' := [(12, (.int .i64 caugh86))]) ⟨rfl, trivial⟩
     refine s_move H rfl rfl (lt_ rfl) fun a H => c_nil ⟨rfl, rfl, H.weaken (L' := [(44, (.int .i64 caugh86))]) ⟨rfl, trivial⟩⟩
    ·refine Ans.mk rfl rfl fun a H => ?_
     replace H := H.weaken (L' := [(11, (.pointer (some (blk b72))))]) ⟨rfl, trivial⟩
     refine s_load (v := (.pointer (some a110))) H rfl rfl one_76 hc109 (lt_ rfl) fun a H => c_nil ⟨rfl, rfl, H.weaken (L' := [(45, (.pointer (some a110)))]) ⟨rfl, trivial⟩⟩
    ·refine Ans.mk rfl rfl fun a H => ?_
     replace H := H.weaken (L' := [(45, (.pointer (some a110)))]) ⟨rfl, trivial⟩
     refine s_nil H rfl rfl (lt_ rfl) fun a H => c_nil ⟨rfl, rfl, H.weaken (L' := [(46, (.pointer (some a110)))]) ⟨rfl, trivial⟩⟩
    ·refine Ans.mk rfl rfl fun a H => ?_
     replace H := H.weaken (L' := [(46, (.pointer (some a110)))]) ⟨rfl, trivial⟩
     refine s_fld H rfl rfl fld_78_2 (lt_ rfl) fun a H => c_nil ⟨rfl, rfl, H.weaken (L' := [(47, (.pointer (some (a110.add 2))))]) ⟨rfl, trivial⟩⟩
    ·refine Ans.mk rfl rfl fun a H => ?_
     replace H := H.weaken (L' := [(47, (.pointer (some (a110.add 2))))]) ⟨rfl, trivial⟩
     refine s_load (v := (.pointer l112)) H rfl rfl one_32 hc113 (lt_ rfl) fun a H => c_nil ⟨rfl, rfl, H.weaken (L' := [(48, (.pointer l112))]) ⟨rfl, trivial⟩⟩
    ·intro a H
     replace H := H.weaken (L' := [(2, (.pointer (some (blk b6)))), (35, (.agg #[(.int .i64 N88), (.int .i64 K90), (.int .i64 Delta92), (.int .i64 Serve94)]))]) ⟨rfl, rfl, trivial⟩
     refine s_stoN (l := [(.int .i64 N88), (.int .i64 K90), (.int .i64 Delta92), (.int .i64 Serve94)]) H rfl rfl rfl rfl agg_25 rfl rfl h ?_
     clear h H
     intro w114 h H
     refine c_nil ?_
     obtain ⟨hc115, h⟩ := h
     obtain ⟨hc116, h⟩ := h
     obtain ⟨hc117, h⟩ := h
     obtain ⟨hc118, h⟩ := h
     obtain ⟨hc119, h⟩ := h
     obtain ⟨hc120, h⟩ := h
     refine effQ.ok (v := undef) (H.weaken (L' := []) trivial) ⟨[(0, (.agg #[(.int .i64 N88), (.int .i64 K90), (.int .i64 Delta92), (.int .i64 Serve94)])), (1, (.pointer (some a98))), (2, (.pointer (some a98))), (3, (.pointer (some (a98.add 3)))), (4, (Slc.v l100)), (5, (.pointer (some a104))), (6, (.pointer (some a104))), (7, (.pointer (some (a104.add 4)))), (8, (Slc.v l106)), (9, (.int .i64 caugh86)), (10, (.pointer (some a110))), (11, (.pointer (some a110))), (12, (.pointer (some (a110.add 2)))), (13, (.pointer l112)), (14, undef), (15, (Slc.v l100)), (16, (Slc.v l106)), (17, (.int .i64 caugh86)), (18, (.pointer l112)), (19, (.int .i64 0))], ⟨rfl, rfl, rfl, rfl, rfl, rfl, rfl, rfl, rfl, rfl, rfl, rfl, rfl, rfl, rfl, trivial⟩, ?_⟩
     refine Stg.fin [1, 2, 3, 4, 5, 6, 7, 8, 9, 10, 11, 12, 13, 15, 16, 17, 18, 19] (by kernel_rfl) (.cons ?_ (.cons ?_ (.cons ?_ (.cons ?_ (.cons ?_ (.cons ?_ (.cons ?_ (.cons ?_ (.cons ?_ (.cons ?_ (.cons ?_ (.cons ?_ (.cons ?_ (.cons ?_ (.cons ?_ (.cons ?_ (.cons ?_ (.cons ?_ .nil)))))))))))))))))) ?_
     ·refine Ans.mk rfl rfl fun a H => ?_
      replace H := H.weaken (L' := [(11, (.pointer (some (blk b72))))]) ⟨rfl, trivial⟩
      refine s_load (v := (.pointer (some a98))) H rfl rfl one_76 hc115 (lt_ rfl) fun a H => c_nil ⟨rfl, rfl, H.weaken (L' := [(36, (.pointer (some a98)))]) ⟨rfl, trivial⟩⟩
     ·refine Ans.mk rfl rfl fun a H => ?_
      replace H := H.weaken (L' := [(36, (.pointer (some a98)))]) ⟨rfl, trivial⟩
      refine s_nil H rfl rfl (lt_ rfl) fun a H => c_nil ⟨rfl, rfl, H.weaken (L' := [(37, (.pointer (some a98)))]) ⟨rfl, trivial⟩⟩
     ·refine Ans.mk rfl rfl fun a H => ?_
      replace H := H.weaken (L' := [(37, (.pointer (some a98)))]) ⟨rfl, trivial⟩
      refine s_fld H rfl rfl fld_78_3 (lt_ rfl) fun a H => c_nil ⟨rfl, rfl, H.weaken (L' := [(38, (.pointer (some (a98.add 3))))]) ⟨rfl, trivial⟩⟩
     ·refine Ans.mk rfl rfl fun a H => ?_
      replace H := H.weaken (L' := [(38, (.pointer (some (a98.add 3))))]) ⟨rfl, trivial⟩
      refine s_load (v := (Slc.v l100)) H rfl rfl one_26 hc116 (lt_ rfl) fun a H => c_nil ⟨rfl, rfl, H.weaken (L' := [(39, (Slc.v l100))]) ⟨rfl, trivial⟩⟩
     ·refine Ans.mk rfl rfl fun a H => ?_
      replace H := H.weaken (L' := [(11, (.pointer (some (blk b72))))]) ⟨rfl, trivial⟩
      refine s_load (v := (.pointer (some a104))) H rfl rfl one_76 hc117 (lt_ rfl) fun a H => c_nil ⟨rfl, rfl, H.weaken (L' := [(40, (.pointer (some a104)))]) ⟨rfl, trivial⟩⟩
     ·refine Ans.mk rfl rfl fun a H => ?_
      replace H := H.weaken (L' := [(40, (.pointer (some a104)))]) ⟨rfl, trivial⟩
      refine s_nil H rfl rfl (lt_ rfl) fun a H => c_nil ⟨rfl, rfl, H.weaken (L' := [(41, (.pointer (some a104)))]) ⟨rfl, trivial⟩⟩
     ·refine Ans.mk rfl rfl fun a H => ?_
      replace H := H.weaken (L' := [(41, (.pointer (some a104)))]) ⟨rfl, trivial⟩
      refine s_fld H rfl rfl fld_78_4 (lt_ rfl) fun a H => c_nil ⟨rfl, rfl, H.weaken (L' := [(42, (.pointer (some (a104.add 4))))]) ⟨rfl, trivial⟩⟩
     ·refine Ans.mk rfl rfl fun a H => ?_
      replace H := H.weaken (L' := [(42, (.pointer (some (a104.add 4))))]) ⟨rfl, trivial⟩
      refine s_load (v := (Slc.v l106)) H rfl rfl one_50 hc118 (lt_ rfl) fun a H => c_nil ⟨rfl, rfl, H.weaken (L' := [(43, (Slc.v l106))]) ⟨rfl, trivial⟩⟩
     ·refine Ans.mk rfl rfl fun a H => ?_
      replace H := H.weaken (L' := [(12, (.int .i64 caugh86))]) ⟨rfl, trivial⟩
      refine s_move H rfl rfl (lt_ rfl) fun a H => c_nil ⟨rfl, rfl, H.weaken (L' := [(44, (.int .i64 caugh86))]) ⟨rfl, trivial⟩⟩
     ·refine Ans.mk rfl rfl fun a H => ?_
      replace H := H.weaken (L' := [(11, (.pointer (some (blk b72))))]) ⟨rfl, trivial⟩
      refine s_load (v := (.pointer (some a110))) H rfl rfl one_76 hc119 (lt_ rfl) fun a H => c_nil ⟨rfl, rfl, H.weaken (L' := [(45, (.pointer (some a110)))]) ⟨rfl, trivial⟩⟩
     ·refine Ans.mk rfl rfl fun a H => ?_
      replace H := H.weaken (L' := [(45, (.pointer (some a110)))]) ⟨rfl, trivial⟩
      refine s_nil H rfl rfl (lt_ rfl) fun a H => c_nil ⟨rfl, rfl, H.weaken (L' := [(46, (.pointer (some a110)))]) ⟨rfl, trivial⟩⟩
     ·refine Ans.mk rfl rfl fun a H => ?_
      replace H := H.weaken (L' := [(46, (.pointer (some a110)))]) ⟨rfl, trivial⟩
      refine s_fld H rfl rfl fld_78_2 (lt_ rfl) fun a H => c_nil ⟨rfl, rfl, H.weaken (L' := [(47, (.pointer (some (a110.add 2))))]) ⟨rfl, trivial⟩⟩
     ·refine Ans.mk rfl rfl fun a H => ?_
      replace H := H.weaken (L' := [(47, (.pointer (some (a110.add 2))))]) ⟨rfl, trivial⟩
      refine s_load (v := (.pointer l112)) H rfl rfl one_32 hc120 (lt_ rfl) fun a H => c_nil ⟨rfl, rfl, H.weaken (L' := [(48, (.pointer l112))]) ⟨rfl, trivial⟩⟩
     ·refine Ans.mk rfl rfl fun a H => ?_
      replace H := H.weaken (L' := [(39, (Slc.v l100))]) ⟨rfl, trivial⟩
      refine s_assign H rfl rfl (lt_ rfl) fun a H => c_nil ⟨rfl, rfl, H.weaken (L' := [(3, (Slc.v l100))]) ⟨rfl, trivial⟩⟩
     ·refine Ans.mk rfl rfl fun a H => ?_
      replace H := H.weaken (L' := [(43, (Slc.v l106))]) ⟨rfl, trivial⟩
      refine s_assign H rfl rfl (lt_ rfl) fun a H => c_nil ⟨rfl, rfl, H.weaken (L' := [(4, (Slc.v l106))]) ⟨rfl, trivial⟩⟩
     ·refine Ans.mk rfl rfl fun a H => ?_
      replace H := H.weaken (L' := [(44, (.int .i64 caugh86))]) ⟨rfl, trivial⟩
      refine s_assign H rfl rfl (lt_ rfl) fun a H => c_nil ⟨rfl, rfl, H.weaken (L' := [(5, (.int .i64 caugh86))]) ⟨rfl, trivial⟩⟩
     ·refine Ans.mk rfl rfl fun a H => ?_
      replace H := H.weaken (L' := [(48, (.pointer l112))]) ⟨rfl, trivial⟩
      refine s_assign H rfl rfl (lt_ rfl) fun a H => c_nil ⟨rfl, rfl, H.weaken (L' := [(6, (.pointer l112))]) ⟨rfl, trivial⟩⟩
     ·refine Ans.mk rfl rfl fun a H => ?_
      replace H := H.weaken (L' := []) trivial
      refine s_assign H rfl rfl (lt_ rfl) fun a H => c_nil ⟨rfl, rfl, H.weaken (L' := [(7, (.int .i64 0))]) ⟨rfl, trivial⟩⟩
     ·intro a H
      replace H := H.weaken (L' := [(2, (.pointer (some (blk b6)))), (3, (Slc.v l100)), (4, (Slc.v l106)), (5, (.int .i64 caugh86)), (6, (.pointer l112)), (7, (.int .i64 0))]) ⟨rfl, rfl, rfl, rfl, rfl, rfl, trivial⟩
      refine hK87 _ _ <| c_ret ?_
      obtain ⟨N121, hc122, h⟩ := h
      obtain ⟨K123, hc124, h⟩ := h
      obtain ⟨Delta125, hc126, h⟩ := h
      obtain ⟨Serve127, hc128, h⟩ := h
      exact e_ret6 H rfl ⟨_, rfl, run_loadN (l := [(.int .i64 N121), (.int .i64 K123), (.int .i64 Delta125), (.int .i64 Serve127)]) agg_25 rfl ⟨hc122, hc124, hc126, hc128, trivial⟩⟩ rfl rfl rfl rfl rfl h
  have st_7_9_11_13_14 : ∀ (Clone58 : Slc) (b63 : Nat) (b66 : Nat) (b69 : Nat) (b72 : Nat) (w35 : World), Rel34 (some Clone58) (some b63) (some b66) (some b69) (some b72) none w35 → F142 1 [7, 9, 11, 13, 14] [(0, (Slc.v l36)), (1, (.int .i64 l39)), (2, (Slc.v l42)), (3, (.int .i64 l45)), (4, (.int .i64 (wr .i64 (l45 - 4)))), (5, (.int .i64 l48)), (6, (Slc.v (l42.cut 1 (Int.toNat (wr .i64 (l45 - 4))) (Int.toNat (l48))))), (7, (Slc.v Clone58)), (8, (.agg #[(Slc.v Clone58), (.int .i64 0)])), (9, (.pointer (some (blk b63)))), (10, (.int .i64 l54)), (11, (Slc.v (Slc.mk (some (blk b66)) 1 1))), (12, (.agg #[(Slc.v l36), (.int .i64 l39), (.pointer (some (blk b63))), (Slc.v Slc.nil), (Slc.v (Slc.mk (some (blk b66)) 1 1))])), (13, (.pointer (some (blk b69)))), (14, (.pointer (some (blk b72))))] w35 := by
   intro Clone58 b63 b66 b69 b72 w35 hr
   rw [hE140]
   refine StT.more [] [15] (by kernel_rfl) (by kernel_rfl) (by kernel_rfl) .nil (.cons ?_ .nil)
   ·refine ⟨_, rfl, fun a H => ?_⟩
    replace H := H.weaken (L' := [(11, (.pointer (some (blk b72)))), (32, (.pointer (some (blk b69))))]) ⟨rfl, rfl, trivial⟩
    have h := hT138 Clone58 b63 b66 b69 b72 w35 hr
    obtain ⟨hs76, hf77, h⟩ := h
    refine s_sto (p := blk b72) (v := (.pointer (some (blk b69)))) H rfl rfl rfl rfl one_76 rfl hs76 hf77 ?_
    clear H
    intro H
    generalize hww75 : World.setCell w35 (blk b72) (.pointer (some (blk b69))) = w75 at h ⊢
    have w75S : SetAt w35 (blk b72) (.pointer (some (blk b69))) w75 := ⟨hww75.symm⟩
    clear hww75 hs76 hf77
    refine c_nil ?_
    refine effQ.ok (v := undef) (H.weaken (L' := []) trivial) ⟨[(0, (Slc.v l36)), (1, (.int .i64 l39)), (2, (Slc.v l42)), (3, (.int .i64 l45)), (4, (.int .i64 (wr .i64 (l45 - 4)))), (5, (.int .i64 l48)), (6, (Slc.v (l42.cut 1 (Int.toNat (wr .i64 (l45 - 4))) (Int.toNat (l48))))), (7, (Slc.v Clone58)), (8, (.agg #[(Slc.v Clone58), (.int .i64 0)])), (9, (.pointer (some (blk b63)))), (10, (.int .i64 l54)), (11, (Slc.v (Slc.mk (some (blk b66)) 1 1))), (12, (.agg #[(Slc.v l36), (.int .i64 l39), (.pointer (some (blk b63))), (Slc.v Slc.nil), (Slc.v (Slc.mk (some (blk b66)) 1 1))])), (13, (.pointer (some (blk b69)))), (14, (.pointer (some (blk b72)))), (15, undef)], ⟨rfl, rfl, rfl, rfl, rfl, rfl, rfl, rfl, rfl, rfl, rfl, rfl, rfl, rfl, rfl, rfl, trivial⟩, ?_⟩
    have hx := st_7_9_11_13_14_15 Clone58 b63 b66 b69 b72 w75 h
    rw [hE140] at hx
    exact hx
  have st_7_9_11_13 : ∀ (Clone58 : Slc) (b63 : Nat) (b66 : Nat) (b69 : Nat) (w35 : World), Rel34 (some Clone58) (some b63) (some b66) (some b69) none none w35 → F142 2 [7, 9, 11, 13] [(0, (Slc.v l36)), (1, (.int .i64 l39)), (2, (Slc.v l42)), (3, (.int .i64 l45)), (4, (.int .i64 (wr .i64 (l45 - 4)))), (5, (.int .i64 l48)), (6, (Slc.v (l42.cut 1 (Int.toNat (wr .i64 (l45 - 4))) (Int.toNat (l48))))), (7, (Slc.v Clone58)), (8, (.agg #[(Slc.v Clone58), (.int .i64 0)])), (9, (.pointer (some (blk b63)))), (10, (.int .i64 l54)), (11, (Slc.v (Slc.mk (some (blk b66)) 1 1))), (12, (.agg #[(Slc.v l36), (.int .i64 l39), (.pointer (some (blk b63))), (Slc.v Slc.nil), (Slc.v (Slc.mk (some (blk b66)) 1 1))])), (13, (.pointer (some (blk b69))))] w35 := by
   intro Clone58 b63 b66 b69 w35 hr
   rw [hE140]
   refine StT.more [] [14] (by kernel_rfl) (by kernel_rfl) (by kernel_rfl) .nil (.cons ?_ .nil)
   ·refine ⟨_, rfl, fun a H => ?_⟩
    replace H := H.weaken (L' := []) trivial
    have h := hT137 (some Clone58) (some b63) (some b66) (some b69) w35 hr
    replace h := h.get
    obtain ⟨b72, w73, nb74, h⟩ := h
    refine s_alloc H rfl zero_76 (lt_ rfl) ?_
    rw [← nb74.at_]
    clear H a
    intro a H
    refine nb74.go <| c_nil ?_
    refine effQ.ok (v := (.pointer (some (blk b72)))) (H.weaken (L' := [(11, (.pointer (some (blk b72))))]) ⟨rfl, trivial⟩) ⟨[(0, (Slc.v l36)), (1, (.int .i64 l39)), (2, (Slc.v l42)), (3, (.int .i64 l45)), (4, (.int .i64 (wr .i64 (l45 - 4)))), (5, (.int .i64 l48)), (6, (Slc.v (l42.cut 1 (Int.toNat (wr .i64 (l45 - 4))) (Int.toNat (l48))))), (7, (Slc.v Clone58)), (8, (.agg #[(Slc.v Clone58), (.int .i64 0)])), (9, (.pointer (some (blk b63)))), (10, (.int .i64 l54)), (11, (Slc.v (Slc.mk (some (blk b66)) 1 1))), (12, (.agg #[(Slc.v l36), (.int .i64 l39), (.pointer (some (blk b63))), (Slc.v Slc.nil), (Slc.v (Slc.mk (some (blk b66)) 1 1))])), (13, (.pointer (some (blk b69)))), (14, (.pointer (some (blk b72))))], ⟨rfl, rfl, rfl, rfl, rfl, rfl, rfl, rfl, rfl, rfl, rfl, rfl, rfl, rfl, rfl, trivial⟩, ?_⟩
    have hx := st_7_9_11_13_14 Clone58 b63 b66 b69 b72 w73 h
    rw [hE140] at hx
    exact hx
  have st_7_9_11_14 : ∀ (Clone58 : Slc) (b63 : Nat) (b66 : Nat) (b72 : Nat) (w35 : World), Rel34 (some Clone58) (some b63) (some b66) none (some b72) none w35 → F142 2 [7, 9, 11, 14] [(0, (Slc.v l36)), (1, (.int .i64 l39)), (2, (Slc.v l42)), (3, (.int .i64 l45)), (4, (.int .i64 (wr .i64 (l45 - 4)))), (5, (.int .i64 l48)), (6, (Slc.v (l42.cut 1 (Int.toNat (wr .i64 (l45 - 4))) (Int.toNat (l48))))), (7, (Slc.v Clone58)), (8, (.agg #[(Slc.v Clone58), (.int .i64 0)])), (9, (.pointer (some (blk b63)))), (10, (.int .i64 l54)), (11, (Slc.v (Slc.mk (some (blk b66)) 1 1))), (12, (.agg #[(Slc.v l36), (.int .i64 l39), (.pointer (some (blk b63))), (Slc.v Slc.nil), (Slc.v (Slc.mk (some (blk b66)) 1 1))])), (14, (.pointer (some (blk b72))))] w35 := by
   intro Clone58 b63 b66 b72 w35 hr
   rw [hE140]
   refine StT.more [0, 1, 12] [13] (by kernel_rfl) (by kernel_rfl) (by kernel_rfl) (.cons ?_ (.cons ?_ (.cons ?_ .nil))) (.cons ?_ .nil)
   ·refine Ans.mk rfl rfl fun a H => ?_
    replace H := H.weaken (L' := [(1, (.pointer (some (blk b3))))]) ⟨rfl, trivial⟩
    obtain hc37 := hL38 (some Clone58) (some b63) (some b66) (some b72) w35 hr
    refine s_load (v := (Slc.v l36)) H rfl rfl one_28 hc37 (lt_ rfl) fun a H => c_nil ⟨rfl, rfl, H.weaken (L' := [(19, (Slc.v l36))]) ⟨rfl, trivial⟩⟩
   ·refine Ans.mk rfl rfl fun a H => ?_
    replace H := H.weaken (L' := [(9, (.pointer (some (blk b14))))]) ⟨rfl, trivial⟩
    obtain hc40 := hL41 (some Clone58) (some b63) (some b66) (some b72) w35 hr
    refine s_load (v := (.int .i64 l39)) H rfl rfl one_3 hc40 (lt_ rfl) fun a H => c_nil ⟨rfl, rfl, H.weaken (L' := [(20, (.int .i64 l39))]) ⟨rfl, trivial⟩⟩
   ·refine Ans.mk rfl rfl fun a H => ?_
    replace H := H.weaken (L' := [(19, (Slc.v l36)), (20, (.int .i64 l39)), (28, (.pointer (some (blk b63)))), (30, (Slc.v (Slc.mk (some (blk b66)) 1 1)))]) ⟨rfl, rfl, rfl, rfl, trivial⟩
    refine s_build H rfl (by rw [H.parts (vs := [(0, (Slc.v l36)), (1, (.int .i64 l39)), (2, (.pointer (some (blk b63)))), (4, (Slc.v (Slc.mk (some (blk b66)) 1 1)))]) rfl]; exact bd_78_s0_ii641_p2_s4 w35 l36 l39 (some (blk b63)) (Slc.mk (some (blk b66)) 1 1)) (lt_ rfl) fun a H => c_nil ⟨rfl, rfl, H.weaken (L' := [(31, (.agg #[(Slc.v l36), (.int .i64 l39), (.pointer (some (blk b63))), (Slc.v Slc.nil), (Slc.v (Slc.mk (some (blk b66)) 1 1))]))]) ⟨rfl, trivial⟩⟩
   ·refine ⟨_, rfl, fun a H => ?_⟩
    replace H := H.weaken (L' := [(31, (.agg #[(Slc.v l36), (.int .i64 l39), (.pointer (some (blk b63))), (Slc.v Slc.nil), (Slc.v (Slc.mk (some (blk b66)) 1 1))]))]) ⟨rfl, trivial⟩
    have h := hT136 Clone58 b63 b66 (some b72) w35 hr
    replace h := h.get
    obtain ⟨b69, w70, nb71, h⟩ := h
    refine s_box H rfl rfl (lt_ rfl) ?_
    rw [← nb71.at_]
    clear H a
    intro a H
    refine nb71.go <| c_nil ?_
    refine effQ.ok (v := (.pointer (some (blk b69)))) (H.weaken (L' := [(32, (.pointer (some (blk b69))))]) ⟨rfl, trivial⟩) ⟨[(0, (Slc.v l36)), (1, (.int .i64 l39)), (2, (Slc.v l42)), (3, (.int .i64 l45)), (4, (.int .i64 (wr .i64 (l45 - 4)))), (5, (.int .i64 l48)), (6, (Slc.v (l42.cut 1 (Int.toNat (wr .i64 (l45 - 4))) (Int.toNat (l48))))), (7, (Slc.v Clone58)), (8, (.agg #[(Slc.v Clone58), (.int .i64 0)])), (9, (.pointer (some (blk b63)))), (10, (.int .i64 l54)), (11, (Slc.v (Slc.mk (some (blk b66)) 1 1))), (12, (.agg #[(Slc.v l36), (.int .i64 l39), (.pointer (some (blk b63))), (Slc.v Slc.nil), (Slc.v (Slc.mk (some (blk b66)) 1 1))])), (13, (.pointer (some (blk b69)))), (14, (.pointer (some (blk b72))))], ⟨rfl, rfl, rfl, rfl, rfl, rfl, rfl, rfl, rfl, rfl, rfl, rfl, rfl, rfl, rfl, trivial⟩, ?_⟩
    have hx := st_7_9_11_13_14 Clone58 b63 b66 b69 b72 w70 h
    rw [hE140] at hx
    exact hx
  have st_7_9_11 : ∀ (Clone58 : Slc) (b63 : Nat) (b66 : Nat) (w35 : World), Rel34 (some Clone58) (some b63) (some b66) none none none w35 → F142 3 [7, 9, 11] [(0, (Slc.v l36)), (1, (.int .i64 l39)), (2, (Slc.v l42)), (3, (.int .i64 l45)), (4, (.int .i64 (wr .i64 (l45 - 4)))), (5, (.int .i64 l48)), (6, (Slc.v (l42.cut 1 (Int.toNat (wr .i64 (l45 - 4))) (Int.toNat (l48))))), (7, (Slc.v Clone58)), (8, (.agg #[(Slc.v Clone58), (.int .i64 0)])), (9, (.pointer (some (blk b63)))), (10, (.int .i64 l54)), (11, (Slc.v (Slc.mk (some (blk b66)) 1 1))), (12, (.agg #[(Slc.v l36), (.int .i64 l39), (.pointer (some (blk b63))), (Slc.v Slc.nil), (Slc.v (Slc.mk (some (blk b66)) 1 1))]))] w35 := by
   intro Clone58 b63 b66 w35 hr
   rw [hE140]
   refine StT.more [0, 1, 12] [13, 14] (by kernel_rfl) (by kernel_rfl) (by kernel_rfl) (.cons ?_ (.cons ?_ (.cons ?_ .nil))) (.cons ?_ (.cons ?_ .nil))
   ·refine Ans.mk rfl rfl fun a H => ?_
    replace H := H.weaken (L' := [(1, (.pointer (some (blk b3))))]) ⟨rfl, trivial⟩
    obtain hc37 := hL38 (some Clone58) (some b63) (some b66) none w35 hr
    refine s_load (v := (Slc.v l36)) H rfl rfl one_28 hc37 (lt_ rfl) fun a H => c_nil ⟨rfl, rfl, H.weaken (L' := [(19, (Slc.v l36))]) ⟨rfl, trivial⟩⟩
   ·refine Ans.mk rfl rfl fun a H => ?_
    replace H := H.weaken (L' := [(9, (.pointer (some (blk b14))))]) ⟨rfl, trivial⟩
    obtain hc40 := hL41 (some Clone58) (some b63) (some b66) none w35 hr
    refine s_load (v := (.int .i64 l39)) H rfl rfl one_3 hc40 (lt_ rfl) fun a H => c_nil ⟨rfl, rfl, H.weaken (L' := [(20, (.int .i64 l39))]) ⟨rfl, trivial⟩⟩
   ·refine Ans.mk rfl rfl fun a H => ?_
    replace H := H.weaken (L' := [(19, (Slc.v l36)), (20, (.int .i64 l39)), (28, (.pointer (some (blk b63)))), (30, (Slc.v (Slc.mk (some (blk b66)) 1 1)))]) ⟨rfl, rfl, rfl, rfl, trivial⟩
    refine s_build H rfl (by rw [H.parts (vs := [(0, (Slc.v l36)), (1, (.int .i64 l39)), (2, (.pointer (some (blk b63)))), (4, (Slc.v (Slc.mk (some (blk b66)) 1 1)))]) rfl]; exact bd_78_s0_ii641_p2_s4 w35 l36 l39 (some (blk b63)) (Slc.mk (some (blk b66)) 1 1)) (lt_ rfl) fun a H => c_nil ⟨rfl, rfl, H.weaken (L' := [(31, (.agg #[(Slc.v l36), (.int .i64 l39), (.pointer (some (blk b63))), (Slc.v Slc.nil), (Slc.v (Slc.mk (some (blk b66)) 1 1))]))]) ⟨rfl, trivial⟩⟩
   ·refine ⟨_, rfl, fun a H => ?_⟩
    replace H := H.weaken (L' := [(31, (.agg #[(Slc.v l36), (.int .i64 l39), (.pointer (some (blk b63))), (Slc.v Slc.nil), (Slc.v (Slc.mk (some (blk b66)) 1 1))]))]) ⟨rfl, trivial⟩
    have h := hT136 Clone58 b63 b66 none w35 hr
    replace h := h.get
    obtain ⟨b69, w70, nb71, h⟩ := h
    refine s_box H rfl rfl (lt_ rfl) ?_
    rw [← nb71.at_]
    clear H a
    intro a H
    refine nb71.go <| c_nil ?_
    refine effQ.ok (v := (.pointer (some (blk b69)))) (H.weaken (L' := [(32, (.pointer (some (blk b69))))]) ⟨rfl, trivial⟩) ⟨[(0, (Slc.v l36)), (1, (.int .i64 l39)), (2, (Slc.v l42)), (3, (.int .i64 l45)), (4, (.int .i64 (wr .i64 (l45 - 4)))), (5, (.int .i64 l48)), (6, (Slc.v (l42.cut 1 (Int.toNat (wr .i64 (l45 - 4))) (Int.toNat (l48))))), (7, (Slc.v Clone58)), (8, (.agg #[(Slc.v Clone58), (.int .i64 0)])), (9, (.pointer (some (blk b63)))), (10, (.int .i64 l54)), (11, (Slc.v (Slc.mk (some (blk b66)) 1 1))), (12, (.agg #[(Slc.v l36), (.int .i64 l39), (.pointer (some (blk b63))), (Slc.v Slc.nil), (Slc.v (Slc.mk (some (blk b66)) 1 1))])), (13, (.pointer (some (blk b69))))], ⟨rfl, rfl, rfl, rfl, rfl, rfl, rfl, rfl, rfl, rfl, rfl, rfl, rfl, rfl, trivial⟩, ?_⟩
    have hx := st_7_9_11_13 Clone58 b63 b66 b69 w70 h
    rw [hE140] at hx
    exact hx
   ·refine ⟨_, rfl, fun a H => ?_⟩
    replace H := H.weaken (L' := []) trivial
    have h := hT137 (some Clone58) (some b63) (some b66) none w35 hr
    replace h := h.get
    obtain ⟨b72, w73, nb74, h⟩ := h
    refine s_alloc H rfl zero_76 (lt_ rfl) ?_
    rw [← nb74.at_]
    clear H a
    intro a H
    refine nb74.go <| c_nil ?_
    refine effQ.ok (v := (.pointer (some (blk b72)))) (H.weaken (L' := [(11, (.pointer (some (blk b72))))]) ⟨rfl, trivial⟩) ⟨[(0, (Slc.v l36)), (1, (.int .i64 l39)), (2, (Slc.v l42)), (3, (.int .i64 l45)), (4, (.int .i64 (wr .i64 (l45 - 4)))), (5, (.int .i64 l48)), (6, (Slc.v (l42.cut 1 (Int.toNat (wr .i64 (l45 - 4))) (Int.toNat (l48))))), (7, (Slc.v Clone58)), (8, (.agg #[(Slc.v Clone58), (.int .i64 0)])), (9, (.pointer (some (blk b63)))), (10, (.int .i64 l54)), (11, (Slc.v (Slc.mk (some (blk b66)) 1 1))), (12, (.agg #[(Slc.v l36), (.int .i64 l39), (.pointer (some (blk b63))), (Slc.v Slc.nil), (Slc.v (Slc.mk (some (blk b66)) 1 1))])), (14, (.pointer (some (blk b72))))], ⟨rfl, rfl, rfl, rfl, rfl, rfl, rfl, rfl, rfl, rfl, rfl, rfl, rfl, rfl, trivial⟩, ?_⟩
    have hx := st_7_9_11_14 Clone58 b63 b66 b72 w73 h
    rw [hE140] at hx
    exact hx
  have st_7_9_14 : ∀ (Clone58 : Slc) (b63 : Nat) (b72 : Nat) (w35 : World), Rel34 (some Clone58) (some b63) none none (some b72) none w35 → F142 3 [7, 9, 14] [(0, (Slc.v l36)), (1, (.int .i64 l39)), (2, (Slc.v l42)), (3, (.int .i64 l45)), (4, (.int .i64 (wr .i64 (l45 - 4)))), (5, (.int .i64 l48)), (6, (Slc.v (l42.cut 1 (Int.toNat (wr .i64 (l45 - 4))) (Int.toNat (l48))))), (7, (Slc.v Clone58)), (8, (.agg #[(Slc.v Clone58), (.int .i64 0)])), (9, (.pointer (some (blk b63)))), (10, (.int .i64 l54)), (14, (.pointer (some (blk b72))))] w35 := by
   intro Clone58 b63 b72 w35 hr
   rw [hE140]
   refine StT.more [0, 1, 10] [11] (by kernel_rfl) (by kernel_rfl) (by kernel_rfl) (.cons ?_ (.cons ?_ (.cons ?_ .nil))) (.cons ?_ .nil)
   ·refine Ans.mk rfl rfl fun a H => ?_
    replace H := H.weaken (L' := [(1, (.pointer (some (blk b3))))]) ⟨rfl, trivial⟩
    obtain hc37 := hL38 (some Clone58) (some b63) none (some b72) w35 hr
    refine s_load (v := (Slc.v l36)) H rfl rfl one_28 hc37 (lt_ rfl) fun a H => c_nil ⟨rfl, rfl, H.weaken (L' := [(19, (Slc.v l36))]) ⟨rfl, trivial⟩⟩
   ·refine Ans.mk rfl rfl fun a H => ?_
    replace H := H.weaken (L' := [(9, (.pointer (some (blk b14))))]) ⟨rfl, trivial⟩
    obtain hc40 := hL41 (some Clone58) (some b63) none (some b72) w35 hr
    refine s_load (v := (.int .i64 l39)) H rfl rfl one_3 hc40 (lt_ rfl) fun a H => c_nil ⟨rfl, rfl, H.weaken (L' := [(20, (.int .i64 l39))]) ⟨rfl, trivial⟩⟩
   ·refine Ans.mk rfl rfl fun a H => ?_
    replace H := H.weaken (L' := [(9, (.pointer (some (blk b14))))]) ⟨rfl, trivial⟩
    obtain hc55 := hL56 (some Clone58) (some b63) (some b72) w35 hr
    refine s_load (v := (.int .i64 l54)) H rfl rfl one_3 hc55 (lt_ rfl) fun a H => c_nil ⟨rfl, rfl, H.weaken (L' := [(29, (.int .i64 l54))]) ⟨rfl, trivial⟩⟩
   ·refine ⟨_, rfl, fun a H => ?_⟩
    replace H := H.weaken (L' := [(29, (.int .i64 l54))]) ⟨rfl, trivial⟩
    have h := hT135 (some Clone58) (some b63) (some b72) w35 hr
    replace h := h.get
    obtain ⟨b66, w67, nb68, h⟩ := h
    refine s_bslc H rfl (by rw [H.parts (vs := [(0, (.int .i64 l54))]) rfl]; exact bs_50_1_ii640 w35 l54) (lt_ rfl) ?_
    rw [← nb68.at_]
    clear H a
    intro a H
    refine nb68.go <| c_nil ?_
    refine effQ.ok (v := (Slc.v (Slc.mk (some (blk b66)) 1 1))) (H.weaken (L' := [(30, (Slc.v (Slc.mk (some (blk b66)) 1 1)))]) ⟨rfl, trivial⟩) ⟨[(0, (Slc.v l36)), (1, (.int .i64 l39)), (2, (Slc.v l42)), (3, (.int .i64 l45)), (4, (.int .i64 (wr .i64 (l45 - 4)))), (5, (.int .i64 l48)), (6, (Slc.v (l42.cut 1 (Int.toNat (wr .i64 (l45 - 4))) (Int.toNat (l48))))), (7, (Slc.v Clone58)), (8, (.agg #[(Slc.v Clone58), (.int .i64 0)])), (9, (.pointer (some (blk b63)))), (10, (.int .i64 l54)), (11, (Slc.v (Slc.mk (some (blk b66)) 1 1))), (12, (.agg #[(Slc.v l36), (.int .i64 l39), (.pointer (some (blk b63))), (Slc.v Slc.nil), (Slc.v (Slc.mk (some (blk b66)) 1 1))])), (14, (.pointer (some (blk b72))))], ⟨rfl, rfl, rfl, rfl, rfl, rfl, rfl, rfl, rfl, rfl, rfl, rfl, rfl, trivial⟩, ?_⟩
    have hx := st_7_9_11_14 Clone58 b63 b66 b72 w67 h
    rw [hE140] at hx
    exact hx
  have st_7_11_14 : ∀ (Clone58 : Slc) (b66 : Nat) (b72 : Nat) (w35 : World), Rel34 (some Clone58) none (some b66) none (some b72) none w35 → F142 3 [7, 11, 14] [(0, (Slc.v l36)), (1, (.int .i64 l39)), (2, (Slc.v l42)), (3, (.int .i64 l45)), (4, (.int .i64 (wr .i64 (l45 - 4)))), (5, (.int .i64 l48)), (6, (Slc.v (l42.cut 1 (Int.toNat (wr .i64 (l45 - 4))) (Int.toNat (l48))))), (7, (Slc.v Clone58)), (8, (.agg #[(Slc.v Clone58), (.int .i64 0)])), (10, (.int .i64 l54)), (11, (Slc.v (Slc.mk (some (blk b66)) 1 1))), (14, (.pointer (some (blk b72))))] w35 := by
   intro Clone58 b66 b72 w35 hr
   rw [hE140]
   refine StT.more [0, 1, 8] [9] (by kernel_rfl) (by kernel_rfl) (by kernel_rfl) (.cons ?_ (.cons ?_ (.cons ?_ .nil))) (.cons ?_ .nil)
   ·refine Ans.mk rfl rfl fun a H => ?_
    replace H := H.weaken (L' := [(1, (.pointer (some (blk b3))))]) ⟨rfl, trivial⟩
    obtain hc37 := hL38 (some Clone58) none (some b66) (some b72) w35 hr
    refine s_load (v := (Slc.v l36)) H rfl rfl one_28 hc37 (lt_ rfl) fun a H => c_nil ⟨rfl, rfl, H.weaken (L' := [(19, (Slc.v l36))]) ⟨rfl, trivial⟩⟩
   ·refine Ans.mk rfl rfl fun a H => ?_
    replace H := H.weaken (L' := [(9, (.pointer (some (blk b14))))]) ⟨rfl, trivial⟩
    obtain hc40 := hL41 (some Clone58) none (some b66) (some b72) w35 hr
    refine s_load (v := (.int .i64 l39)) H rfl rfl one_3 hc40 (lt_ rfl) fun a H => c_nil ⟨rfl, rfl, H.weaken (L' := [(20, (.int .i64 l39))]) ⟨rfl, trivial⟩⟩
   ·refine Ans.mk rfl rfl fun a H => ?_
    replace H := H.weaken (L' := [(26, (Slc.v Clone58))]) ⟨rfl, trivial⟩
    refine s_build H rfl (by rw [H.parts (vs := [(0, (Slc.v Clone58))]) rfl]; exact bd_71_s0 w35 Clone58) (lt_ rfl) fun a H => c_nil ⟨rfl, rfl, H.weaken (L' := [(27, (.agg #[(Slc.v Clone58), (.int .i64 0)]))]) ⟨rfl, trivial⟩⟩
   ·refine ⟨_, rfl, fun a H => ?_⟩
    replace H := H.weaken (L' := [(27, (.agg #[(Slc.v Clone58), (.int .i64 0)]))]) ⟨rfl, trivial⟩
    have h := hT134 Clone58 (some b66) (some b72) w35 hr
    replace h := h.get
    obtain ⟨b63, w64, nb65, h⟩ := h
    refine s_box H rfl rfl (lt_ rfl) ?_
    rw [← nb65.at_]
    clear H a
    intro a H
    refine nb65.go <| c_nil ?_
    refine effQ.ok (v := (.pointer (some (blk b63)))) (H.weaken (L' := [(28, (.pointer (some (blk b63))))]) ⟨rfl, trivial⟩) ⟨[(0, (Slc.v l36)), (1, (.int .i64 l39)), (2, (Slc.v l42)), (3, (.int .i64 l45)), (4, (.int .i64 (wr .i64 (l45 - 4)))), (5, (.int .i64 l48)), (6, (Slc.v (l42.cut 1 (Int.toNat (wr .i64 (l45 - 4))) (Int.toNat (l48))))), (7, (Slc.v Clone58)), (8, (.agg #[(Slc.v Clone58), (.int .i64 0)])), (9, (.pointer (some (blk b63)))), (10, (.int .i64 l54)), (11, (Slc.v (Slc.mk (some (blk b66)) 1 1))), (12, (.agg #[(Slc.v l36), (.int .i64 l39), (.pointer (some (blk b63))), (Slc.v Slc.nil), (Slc.v (Slc.mk (some (blk b66)) 1 1))])), (14, (.pointer (some (blk b72))))], ⟨rfl, rfl, rfl, rfl, rfl, rfl, rfl, rfl, rfl, rfl, rfl, rfl, rfl, trivial⟩, ?_⟩
    have hx := st_7_9_11_14 Clone58 b63 b66 b72 w64 h
    rw [hE140] at hx
    exact hx
  have st_7_9 : ∀ (Clone58 : Slc) (b63 : Nat) (w35 : World), Rel34 (some Clone58) (some b63) none none none none w35 → F142 4 [7, 9] [(0, (Slc.v l36)), (1, (.int .i64 l39)), (2, (Slc.v l42)), (3, (.int .i64 l45)), (4, (.int .i64 (wr .i64 (l45 - 4)))), (5, (.int .i64 l48)), (6, (Slc.v (l42.cut 1 (Int.toNat (wr .i64 (l45 - 4))) (Int.toNat (l48))))), (7, (Slc.v Clone58)), (8, (.agg #[(Slc.v Clone58), (.int .i64 0)])), (9, (.pointer (some (blk b63)))), (10, (.int .i64 l54))] w35 := by
   intro Clone58 b63 w35 hr
   rw [hE140]
   refine StT.more [0, 1, 10] [11, 14] (by kernel_rfl) (by kernel_rfl) (by kernel_rfl) (.cons ?_ (.cons ?_ (.cons ?_ .nil))) (.cons ?_ (.cons ?_ .nil))
   ·refine Ans.mk rfl rfl fun a H => ?_
    replace H := H.weaken (L' := [(1, (.pointer (some (blk b3))))]) ⟨rfl, trivial⟩
    obtain hc37 := hL38 (some Clone58) (some b63) none none w35 hr
    refine s_load (v := (Slc.v l36)) H rfl rfl one_28 hc37 (lt_ rfl) fun a H => c_nil ⟨rfl, rfl, H.weaken (L' := [(19, (Slc.v l36))]) ⟨rfl, trivial⟩⟩
   ·refine Ans.mk rfl rfl fun a H => ?_
    replace H := H.weaken (L' := [(9, (.pointer (some (blk b14))))]) ⟨rfl, trivial⟩
    obtain hc40 := hL41 (some Clone58) (some b63) none none w35 hr
    refine s_load (v := (.int .i64 l39)) H rfl rfl one_3 hc40 (lt_ rfl) fun a H => c_nil ⟨rfl, rfl, H.weaken (L' := [(20, (.int .i64 l39))]) ⟨rfl, trivial⟩⟩
   ·refine Ans.mk rfl rfl fun a H => ?_
    replace H := H.weaken (L' := [(9, (.pointer (some (blk b14))))]) ⟨rfl, trivial⟩
    obtain hc55 := hL56 (some Clone58) (some b63) none w35 hr
    refine s_load (v := (.int .i64 l54)) H rfl rfl one_3 hc55 (lt_ rfl) fun a H => c_nil ⟨rfl, rfl, H.weaken (L' := [(29, (.int .i64 l54))]) ⟨rfl, trivial⟩⟩
   ·refine ⟨_, rfl, fun a H => ?_⟩
    replace H := H.weaken (L' := [(29, (.int .i64 l54))]) ⟨rfl, trivial⟩
    have h := hT135 (some Clone58) (some b63) none w35 hr
    replace h := h.get
    obtain ⟨b66, w67, nb68, h⟩ := h
    refine s_bslc H rfl (by rw [H.parts (vs := [(0, (.int .i64 l54))]) rfl]; exact bs_50_1_ii640 w35 l54) (lt_ rfl) ?_
    rw [← nb68.at_]
    clear H a
    intro a H
    refine nb68.go <| c_nil ?_
    refine effQ.ok (v := (Slc.v (Slc.mk (some (blk b66)) 1 1))) (H.weaken (L' := [(30, (Slc.v (Slc.mk (some (blk b66)) 1 1)))]) ⟨rfl, trivial⟩) ⟨[(0, (Slc.v l36)), (1, (.int .i64 l39)), (2, (Slc.v l42)), (3, (.int .i64 l45)), (4, (.int .i64 (wr .i64 (l45 - 4)))), (5, (.int .i64 l48)), (6, (Slc.v (l42.cut 1 (Int.toNat (wr .i64 (l45 - 4))) (Int.toNat (l48))))), (7, (Slc.v Clone58)), (8, (.agg #[(Slc.v Clone58), (.int .i64 0)])), (9, (.pointer (some (blk b63)))), (10, (.int .i64 l54)), (11, (Slc.v (Slc.mk (some (blk b66)) 1 1))), (12, (.agg #[(Slc.v l36), (.int .i64 l39), (.pointer (some (blk b63))), (Slc.v Slc.nil), (Slc.v (Slc.mk (some (blk b66)) 1 1))]))], ⟨rfl, rfl, rfl, rfl, rfl, rfl, rfl, rfl, rfl, rfl, rfl, rfl, trivial⟩, ?_⟩
    have hx := st_7_9_11 Clone58 b63 b66 w67 h
    rw [hE140] at hx
    exact hx
   ·refine ⟨_, rfl, fun a H => ?_⟩
    replace H := H.weaken (L' := []) trivial
    have h := hT137 (some Clone58) (some b63) none none w35 hr
    replace h := h.get
    obtain ⟨b72, w73, nb74, h⟩ := h
    refine s_alloc H rfl zero_76 (lt_ rfl) ?_
    rw [← nb74.at_]
    clear H a
    intro a H
    refine nb74.go <| c_nil ?_
    refine effQ.ok (v := (.pointer (some (blk b72)))) (H.weaken (L' := [(11, (.pointer (some (blk b72))))]) ⟨rfl, trivial⟩) ⟨[(0, (Slc.v l36)), (1, (.int .i64 l39)), (2, (Slc.v l42)), (3, (.int .i64 l45)), (4, (.int .i64 (wr .i64 (l45 - 4)))), (5, (.int .i64 l48)), (6, (Slc.v (l42.cut 1 (Int.toNat (wr .i64 (l45 - 4))) (Int.toNat (l48))))), (7, (Slc.v Clone58)), (8, (.agg #[(Slc.v Clone58), (.int .i64 0)])), (9, (.pointer (some (blk b63)))), (10, (.int .i64 l54)), (14, (.pointer (some (blk b72))))], ⟨rfl, rfl, rfl, rfl, rfl, rfl, rfl, rfl, rfl, rfl, rfl, rfl, trivial⟩, ?_⟩
    have hx := st_7_9_14 Clone58 b63 b72 w73 h
    rw [hE140] at hx
    exact hx
  have st_7_11 : ∀ (Clone58 : Slc) (b66 : Nat) (w35 : World), Rel34 (some Clone58) none (some b66) none none none w35 → F142 4 [7, 11] [(0, (Slc.v l36)), (1, (.int .i64 l39)), (2, (Slc.v l42)), (3, (.int .i64 l45)), (4, (.int .i64 (wr .i64 (l45 - 4)))), (5, (.int .i64 l48)), (6, (Slc.v (l42.cut 1 (Int.toNat (wr .i64 (l45 - 4))) (Int.toNat (l48))))), (7, (Slc.v Clone58)), (8, (.agg #[(Slc.v Clone58), (.int .i64 0)])), (10, (.int .i64 l54)), (11, (Slc.v (Slc.mk (some (blk b66)) 1 1)))] w35 := by
   intro Clone58 b66 w35 hr
   rw [hE140]
   refine StT.more [0, 1, 8] [9, 14] (by kernel_rfl) (by kernel_rfl) (by kernel_rfl) (.cons ?_ (.cons ?_ (.cons ?_ .nil))) (.cons ?_ (.cons ?_ .nil))
   ·refine Ans.mk rfl rfl fun a H => ?_
    replace H := H.weaken (L' := [(1, (.pointer (some (blk b3))))]) ⟨rfl, trivial⟩
    obtain hc37 := hL38 (some Clone58) none (some b66) none w35 hr
    refine s_load (v := (Slc.v l36)) H rfl rfl one_28 hc37 (lt_ rfl) fun a H => c_nil ⟨rfl, rfl, H.weaken (L' := [(19, (Slc.v l36))]) ⟨rfl, trivial⟩⟩
   ·refine Ans.mk rfl rfl fun a H => ?_
    replace H := H.weaken (L' := [(9, (.pointer (some (blk b14))))]) ⟨rfl, trivial⟩
    obtain hc40 := hL41 (some Clone58) none (some b66) none w35 hr
    refine s_load (v := (.int .i64 l39)) H rfl rfl one_3 hc40 (lt_ rfl) fun a H => c_nil ⟨rfl, rfl, H.weaken (L' := [(20, (.int .i64 l39))]) ⟨rfl, trivial⟩⟩
   ·refine Ans.mk rfl rfl fun a H => ?_
    replace H := H.weaken (L' := [(26, (Slc.v Clone58))]) ⟨rfl, trivial⟩
    refine s_build H rfl (by rw [H.parts (vs := [(0, (Slc.v Clone58))]) rfl]; exact bd_71_s0 w35 Clone58) (lt_ rfl) fun a H => c_nil ⟨rfl, rfl, H.weaken (L' := [(27, (.agg #[(Slc.v Clone58), (.int .i64 0)]))]) ⟨rfl, trivial⟩⟩
   ·refine ⟨_, rfl, fun a H => ?_⟩
    replace H := H.weaken (L' := [(27, (.agg #[(Slc.v Clone58), (.int .i64 0)]))]) ⟨rfl, trivial⟩
    have h := hT134 Clone58 (some b66) none w35 hr
    replace h := h.get
    obtain ⟨b63, w64, nb65, h⟩ := h
    refine s_box H rfl rfl (lt_ rfl) ?_
    rw [← nb65.at_]
    clear H a
    intro a H
    refine nb65.go <| c_nil ?_
    refine effQ.ok (v := (.pointer (some (blk b63)))) (H.weaken (L' := [(28, (.pointer (some (blk b63))))]) ⟨rfl, trivial⟩) ⟨[(0, (Slc.v l36)), (1, (.int .i64 l39)), (2, (Slc.v l42)), (3, (.int .i64 l45)), (4, (.int .i64 (wr .i64 (l45 - 4)))), (5, (.int .i64 l48)), (6, (Slc.v (l42.cut 1 (Int.toNat (wr .i64 (l45 - 4))) (Int.toNat (l48))))), (7, (Slc.v Clone58)), (8, (.agg #[(Slc.v Clone58), (.int .i64 0)])), (9, (.pointer (some (blk b63)))), (10, (.int .i64 l54)), (11, (Slc.v (Slc.mk (some (blk b66)) 1 1))), (12, (.agg #[(Slc.v l36), (.int .i64 l39), (.pointer (some (blk b63))), (Slc.v Slc.nil), (Slc.v (Slc.mk (some (blk b66)) 1 1))]))], ⟨rfl, rfl, rfl, rfl, rfl, rfl, rfl, rfl, rfl, rfl, rfl, rfl, trivial⟩, ?_⟩
    have hx := st_7_9_11 Clone58 b63 b66 w64 h
    rw [hE140] at hx
    exact hx
   ·refine ⟨_, rfl, fun a H => ?_⟩
    replace H := H.weaken (L' := []) trivial
    have h := hT137 (some Clone58) none (some b66) none w35 hr
    replace h := h.get
    obtain ⟨b72, w73, nb74, h⟩ := h
    refine s_alloc H rfl zero_76 (lt_ rfl) ?_
    rw [← nb74.at_]
    clear H a
    intro a H
    refine nb74.go <| c_nil ?_
    refine effQ.ok (v := (.pointer (some (blk b72)))) (H.weaken (L' := [(11, (.pointer (some (blk b72))))]) ⟨rfl, trivial⟩) ⟨[(0, (Slc.v l36)), (1, (.int .i64 l39)), (2, (Slc.v l42)), (3, (.int .i64 l45)), (4, (.int .i64 (wr .i64 (l45 - 4)))), (5, (.int .i64 l48)), (6, (Slc.v (l42.cut 1 (Int.toNat (wr .i64 (l45 - 4))) (Int.toNat (l48))))), (7, (Slc.v Clone58)), (8, (.agg #[(Slc.v Clone58), (.int .i64 0)])), (10, (.int .i64 l54)), (11, (Slc.v (Slc.mk (some (blk b66)) 1 1))), (14, (.pointer (some (blk b72))))], ⟨rfl, rfl, rfl, rfl, rfl, rfl, rfl, rfl, rfl, rfl, rfl, rfl, trivial⟩, ?_⟩
    have hx := st_7_11_14 Clone58 b66 b72 w73 h
    rw [hE140] at hx
    exact hx
  have st_7_14 : ∀ (Clone58 : Slc) (b72 : Nat) (w35 : World), Rel34 (some Clone58) none none none (some b72) none w35 → F142 4 [7, 14] [(0, (Slc.v l36)), (1, (.int .i64 l39)), (2, (Slc.v l42)), (3, (.int .i64 l45)), (4, (.int .i64 (wr .i64 (l45 - 4)))), (5, (.int .i64 l48)), (6, (Slc.v (l42.cut 1 (Int.toNat (wr .i64 (l45 - 4))) (Int.toNat (l48))))), (7, (Slc.v Clone58)), (8, (.agg #[(Slc.v Clone58), (.int .i64 0)])), (10, (.int .i64 l54)), (14, (.pointer (some (blk b72))))] w35 := by
   intro Clone58 b72 w35 hr
   rw [hE140]
   refine StT.more [0, 1, 8, 10] [9, 11] (by kernel_rfl) (by kernel_rfl) (by kernel_rfl) (.cons ?_ (.cons ?_ (.cons ?_ (.cons ?_ .nil)))) (.cons ?_ (.cons ?_ .nil))
   ·refine Ans.mk rfl rfl fun a H => ?_
    replace H := H.weaken (L' := [(1, (.pointer (some (blk b3))))]) ⟨rfl, trivial⟩
    obtain hc37 := hL38 (some Clone58) none none (some b72) w35 hr
    refine s_load (v := (Slc.v l36)) H rfl rfl one_28 hc37 (lt_ rfl) fun a H => c_nil ⟨rfl, rfl, H.weaken (L' := [(19, (Slc.v l36))]) ⟨rfl, trivial⟩⟩
   ·refine Ans.mk rfl rfl fun a H => ?_
    replace H := H.weaken (L' := [(9, (.pointer (some (blk b14))))]) ⟨rfl, trivial⟩
    obtain hc40 := hL41 (some Clone58) none none (some b72) w35 hr
    refine s_load (v := (.int .i64 l39)) H rfl rfl one_3 hc40 (lt_ rfl) fun a H => c_nil ⟨rfl, rfl, H.weaken (L' := [(20, (.int .i64 l39))]) ⟨rfl, trivial⟩⟩
   ·refine Ans.mk rfl rfl fun a H => ?_
    replace H := H.weaken (L' := [(26, (Slc.v Clone58))]) ⟨rfl, trivial⟩
    refine s_build H rfl (by rw [H.parts (vs := [(0, (Slc.v Clone58))]) rfl]; exact bd_71_s0 w35 Clone58) (lt_ rfl) fun a H => c_nil ⟨rfl, rfl, H.weaken (L' := [(27, (.agg #[(Slc.v Clone58), (.int .i64 0)]))]) ⟨rfl, trivial⟩⟩
   ·refine Ans.mk rfl rfl fun a H => ?_
    replace H := H.weaken (L' := [(9, (.pointer (some (blk b14))))]) ⟨rfl, trivial⟩
    obtain hc55 := hL56 (some Clone58) none (some b72) w35 hr
    refine s_load (v := (.int .i64 l54)) H rfl rfl one_3 hc55 (lt_ rfl) fun a H => c_nil ⟨rfl, rfl, H.weaken (L' := [(29, (.int .i64 l54))]) ⟨rfl, trivial⟩⟩
   ·refine ⟨_, rfl, fun a H => ?_⟩
    replace H := H.weaken (L' := [(27, (.agg #[(Slc.v Clone58), (.int .i64 0)]))]) ⟨rfl, trivial⟩
    have h := hT134 Clone58 none (some b72) w35 hr
    replace h := h.get
    obtain ⟨b63, w64, nb65, h⟩ := h
    refine s_box H rfl rfl (lt_ rfl) ?_
    rw [← nb65.at_]
    clear H a
    intro a H
    refine nb65.go <| c_nil ?_
    refine effQ.ok (v := (.pointer (some (blk b63)))) (H.weaken (L' := [(28, (.pointer (some (blk b63))))]) ⟨rfl, trivial⟩) ⟨[(0, (Slc.v l36)), (1, (.int .i64 l39)), (2, (Slc.v l42)), (3, (.int .i64 l45)), (4, (.int .i64 (wr .i64 (l45 - 4)))), (5, (.int .i64 l48)), (6, (Slc.v (l42.cut 1 (Int.toNat (wr .i64 (l45 - 4))) (Int.toNat (l48))))), (7, (Slc.v Clone58)), (8, (.agg #[(Slc.v Clone58), (.int .i64 0)])), (9, (.pointer (some (blk b63)))), (10, (.int .i64 l54)), (14, (.pointer (some (blk b72))))], ⟨rfl, rfl, rfl, rfl, rfl, rfl, rfl, rfl, rfl, rfl, rfl, rfl, trivial⟩, ?_⟩
    have hx := st_7_9_14 Clone58 b63 b72 w64 h
    rw [hE140] at hx
    exact hx
   ·refine ⟨_, rfl, fun a H => ?_⟩
    replace H := H.weaken (L' := [(29, (.int .i64 l54))]) ⟨rfl, trivial⟩
    have h := hT135 (some Clone58) none (some b72) w35 hr
    replace h := h.get
    obtain ⟨b66, w67, nb68, h⟩ := h
    refine s_bslc H rfl (by rw [H.parts (vs := [(0, (.int .i64 l54))]) rfl]; exact bs_50_1_ii640 w35 l54) (lt_ rfl) ?_
    rw [← nb68.at_]
    clear H a
    intro a H
    refine nb68.go <| c_nil ?_
    refine effQ.ok (v := (Slc.v (Slc.mk (some (blk b66)) 1 1))) (H.weaken (L' := [(30, (Slc.v (Slc.mk (some (blk b66)) 1 1)))]) ⟨rfl, trivial⟩) ⟨[(0, (Slc.v l36)), (1, (.int .i64 l39)), (2, (Slc.v l42)), (3, (.int .i64 l45)), (4, (.int .i64 (wr .i64 (l45 - 4)))), (5, (.int .i64 l48)), (6, (Slc.v (l42.cut 1 (Int.toNat (wr .i64 (l45 - 4))) (Int.toNat (l48))))), (7, (Slc.v Clone58)), (8, (.agg #[(Slc.v Clone58), (.int .i64 0)])), (10, (.int .i64 l54)), (11, (Slc.v (Slc.mk (some (blk b66)) 1 1))), (14, (.pointer (some (blk b72))))], ⟨rfl, rfl, rfl, rfl, rfl, rfl, rfl, rfl, rfl, rfl, rfl, rfl, trivial⟩, ?_⟩
    have hx := st_7_11_14 Clone58 b66 b72 w67 h
    rw [hE140] at hx
    exact hx
  have st_11_14 : ∀ (b66 : Nat) (b72 : Nat) (w35 : World), Rel34 none none (some b66) none (some b72) none w35 → F142 4 [11, 14] [(0, (Slc.v l36)), (1, (.int .i64 l39)), (2, (Slc.v l42)), (3, (.int .i64 l45)), (4, (.int .i64 (wr .i64 (l45 - 4)))), (5, (.int .i64 l48)), (6, (Slc.v (l42.cut 1 (Int.toNat (wr .i64 (l45 - 4))) (Int.toNat (l48))))), (10, (.int .i64 l54)), (11, (Slc.v (Slc.mk (some (blk b66)) 1 1))), (14, (.pointer (some (blk b72))))] w35 := by
   intro b66 b72 w35 hr
   rw [hE140]
   refine StT.more [0, 1, 2, 3, 4, 5, 6] [7] (by kernel_rfl) (by kernel_rfl) (by kernel_rfl) (.cons ?_ (.cons ?_ (.cons ?_ (.cons ?_ (.cons ?_ (.cons ?_ (.cons ?_ .nil))))))) (.cons ?_ .nil)
   ·refine Ans.mk rfl rfl fun a H => ?_
    replace H := H.weaken (L' := [(1, (.pointer (some (blk b3))))]) ⟨rfl, trivial⟩
    obtain hc37 := hL38 none none (some b66) (some b72) w35 hr
    refine s_load (v := (Slc.v l36)) H rfl rfl one_28 hc37 (lt_ rfl) fun a H => c_nil ⟨rfl, rfl, H.weaken (L' := [(19, (Slc.v l36))]) ⟨rfl, trivial⟩⟩
   ·refine Ans.mk rfl rfl fun a H => ?_
    replace H := H.weaken (L' := [(9, (.pointer (some (blk b14))))]) ⟨rfl, trivial⟩
    obtain hc40 := hL41 none none (some b66) (some b72) w35 hr
    refine s_load (v := (.int .i64 l39)) H rfl rfl one_3 hc40 (lt_ rfl) fun a H => c_nil ⟨rfl, rfl, H.weaken (L' := [(20, (.int .i64 l39))]) ⟨rfl, trivial⟩⟩
   ·refine Ans.mk rfl rfl fun a H => ?_
    replace H := H.weaken (L' := [(1, (.pointer (some (blk b3))))]) ⟨rfl, trivial⟩
    obtain hc43 := hL44 (some b66) (some b72) w35 hr
    refine s_load (v := (Slc.v l42)) H rfl rfl one_28 hc43 (lt_ rfl) fun a H => c_nil ⟨rfl, rfl, H.weaken (L' := [(21, (Slc.v l42))]) ⟨rfl, trivial⟩⟩
   ·refine Ans.mk rfl rfl fun a H => ?_
    replace H := H.weaken (L' := [(9, (.pointer (some (blk b14))))]) ⟨rfl, trivial⟩
    obtain hc46 := hL47 (some b66) (some b72) w35 hr
    refine s_load (v := (.int .i64 l45)) H rfl rfl one_3 hc46 (lt_ rfl) fun a H => c_nil ⟨rfl, rfl, H.weaken (L' := [(22, (.int .i64 l45))]) ⟨rfl, trivial⟩⟩
   ·refine Ans.mk rfl rfl fun a H => ?_
    replace H := H.weaken (L' := [(22, (.int .i64 l45))]) ⟨rfl, trivial⟩
    refine s_bin H rfl rfl rfl r_sub (lt_ rfl) fun a H => c_nil ⟨rfl, rfl, H.weaken (L' := [(23, (.int .i64 (wr .i64 (l45 - 4))))]) ⟨rfl, trivial⟩⟩
   ·refine Ans.mk rfl rfl fun a H => ?_
    replace H := H.weaken (L' := [(9, (.pointer (some (blk b14))))]) ⟨rfl, trivial⟩
    obtain hc49 := hL50 (some b66) (some b72) w35 hr
    refine s_load (v := (.int .i64 l48)) H rfl rfl one_3 hc49 (lt_ rfl) fun a H => c_nil ⟨rfl, rfl, H.weaken (L' := [(24, (.int .i64 l48))]) ⟨rfl, trivial⟩⟩
   ·refine Ans.mk rfl rfl fun a H => ?_
    replace H := H.weaken (L' := [(21, (Slc.v l42)), (23, (.int .i64 (wr .i64 (l45 - 4)))), (24, (.int .i64 l48))]) ⟨rfl, rfl, rfl, trivial⟩
    refine s_slice (v := (Slc.v (l42.cut 1 (Int.toNat (wr .i64 (l45 - 4))) (Int.toNat (l48))))) H rfl rfl ⟨rfl, rfl⟩ ⟨rfl, rfl⟩ ⟨rfl, rfl⟩ (r_sliceSlc (lo := (some (.i64, wr .i64 (l45 - 4)))) (hi := (some (.i64, l48))) slc_28 rfl rfl hi51 hi52 hi53) (lt_ rfl) fun a H => c_nil ⟨rfl, rfl, H.weaken (L' := [(25, (Slc.v (l42.cut 1 (Int.toNat (wr .i64 (l45 - 4))) (Int.toNat (l48)))))]) ⟨rfl, trivial⟩⟩
   ·refine ⟨_, rfl, fun a H => ?_⟩
    replace H := H.weaken (L' := [(25, (Slc.v (l42.cut 1 (Int.toNat (wr .i64 (l45 - 4))) (Int.toNat (l48)))))]) ⟨rfl, trivial⟩
    have h := hT133 (some b66) (some b72) w35 hr
    refine s_call H rfl body_25 (H.args (vs := [(Slc.v (l42.cut 1 (Int.toNat (wr .i64 (l45 - 4))) (Int.toNat (l48))))]) rfl) (lt_ rfl) h ?_ (fun c w' h H => e_panic (P := PP) (fn := Tryd.f16) H h)
    clear H h a
    rintro _ w57 a ⟨Clone58, rfl, h⟩ H
    refine c_nil ?_
    refine effQ.ok (v := (Slc.v Clone58)) (H.weaken (L' := [(26, (Slc.v Clone58))]) ⟨rfl, trivial⟩) ⟨[(0, (Slc.v l36)), (1, (.int .i64 l39)), (2, (Slc.v l42)), (3, (.int .i64 l45)), (4, (.int .i64 (wr .i64 (l45 - 4)))), (5, (.int .i64 l48)), (6, (Slc.v (l42.cut 1 (Int.toNat (wr .i64 (l45 - 4))) (Int.toNat (l48))))), (7, (Slc.v Clone58)), (8, (.agg #[(Slc.v Clone58), (.int .i64 0)])), (10, (.int .i64 l54)), (11, (Slc.v (Slc.mk (some (blk b66)) 1 1))), (14, (.pointer (some (blk b72))))], ⟨rfl, rfl, rfl, rfl, rfl, rfl, rfl, rfl, rfl, rfl, rfl, trivial⟩, ?_⟩
    have hx := st_7_11_14 Clone58 b66 b72 w57 h
    rw [hE140] at hx
    exact hx
  have st_7 : ∀ (Clone58 : Slc) (w35 : World), Rel34 (some Clone58) none none none none none w35 → F142 5 [7] [(0, (Slc.v l36)), (1, (.int .i64 l39)), (2, (Slc.v l42)), (3, (.int .i64 l45)), (4, (.int .i64 (wr .i64 (l45 - 4)))), (5, (.int .i64 l48)), (6, (Slc.v (l42.cut 1 (Int.toNat (wr .i64 (l45 - 4))) (Int.toNat (l48))))), (7, (Slc.v Clone58)), (8, (.agg #[(Slc.v Clone58), (.int .i64 0)])), (10, (.int .i64 l54))] w35 := by
   intro Clone58 w35 hr
   rw [hE140]
   refine StT.more [0, 1, 8, 10] [9, 11, 14] (by kernel_rfl) (by kernel_rfl) (by kernel_rfl) (.cons ?_ (.cons ?_ (.cons ?_ (.cons ?_ .nil)))) (.cons ?_ (.cons ?_ (.cons ?_ .nil)))
   ·refine Ans.mk rfl rfl fun a H => ?_
    replace H := H.weaken (L' := [(1, (.pointer (some (blk b3))))]) ⟨rfl, trivial⟩
    obtain hc37 := hL38 (some Clone58) none none none w35 hr
    refine s_load (v := (Slc.v l36)) H rfl rfl one_28 hc37 (lt_ rfl) fun a H => c_nil ⟨rfl, rfl, H.weaken (L' := [(19, (Slc.v l36))]) ⟨rfl, trivial⟩⟩
   ·refine Ans.mk rfl rfl fun a H => ?_
    replace H := H.weaken (L' := [(9, (.pointer (some (blk b14))))]) ⟨rfl, trivial⟩
    obtain hc40 := hL41 (some Clone58) none none none w35 hr
    refine s_load (v := (.int .i64 l39)) H rfl rfl one_3 hc40 (lt_ rfl) fun a H => c_nil ⟨rfl, rfl, H.weaken (L' := [(20, (.int .i64 l39))]) ⟨rfl, trivial⟩⟩
   ·refine Ans.mk rfl rfl fun a H => ?_
    replace H := H.weaken (L' := [(26, (Slc.v Clone58))]) ⟨rfl, trivial⟩
    refine s_build H rfl (by rw [H.parts (vs := [(0, (Slc.v Clone58))]) rfl]; exact bd_71_s0 w35 Clone58) (lt_ rfl) fun a H => c_nil ⟨rfl, rfl, H.weaken (L' := [(27, (.agg #[(Slc.v Clone58), (.int .i64 0)]))]) ⟨rfl, trivial⟩⟩
   ·refine Ans.mk rfl rfl fun a H => ?_
    replace H := H.weaken (L' := [(9, (.pointer (some (blk b14))))]) ⟨rfl, trivial⟩
    obtain hc55 := hL56 (some Clone58) none none w35 hr
    refine s_load (v := (.int .i64 l54)) H rfl rfl one_3 hc55 (lt_ rfl) fun a H => c_nil ⟨rfl, rfl, H.weaken (L' := [(29, (.int .i64 l54))]) ⟨rfl, trivial⟩⟩
   ·refine ⟨_, rfl, fun a H => ?_⟩
    replace H := H.weaken (L' := [(27, (.agg #[(Slc.v Clone58), (.int .i64 0)]))]) ⟨rfl, trivial⟩
    have h := hT134 Clone58 none none w35 hr
    replace h := h.get
    obtain ⟨b63, w64, nb65, h⟩ := h
    refine s_box H rfl rfl (lt_ rfl) ?_
    rw [← nb65.at_]
    clear H a
    intro a H
    refine nb65.go <| c_nil ?_
    refine effQ.ok (v := (.pointer (some (blk b63)))) (H.weaken (L' := [(28, (.pointer (some (blk b63))))]) ⟨rfl, trivial⟩) ⟨[(0, (Slc.v l36)), (1, (.int .i64 l39)), (2, (Slc.v l42)), (3, (.int .i64 l45)), (4, (.int .i64 (wr .i64 (l45 - 4)))), (5, (.int .i64 l48)), (6, (Slc.v (l42.cut 1 (Int.toNat (wr .i64 (l45 - 4))) (Int.toNat (l48))))), (7, (Slc.v Clone58)), (8, (.agg #[(Slc.v Clone58), (.int .i64 0)])), (9, (.pointer (some (blk b63)))), (10, (.int .i64 l54))], ⟨rfl, rfl, rfl, rfl, rfl, rfl, rfl, rfl, rfl, rfl, rfl, trivial⟩, ?_⟩
    have hx := st_7_9 Clone58 b63 w64 h
    rw [hE140] at hx
    exact hx
   ·refine ⟨_, rfl, fun a H => ?_⟩
    replace H := H.weaken (L' := [(29, (.int .i64 l54))]) ⟨rfl, trivial⟩
    have h := hT135 (some Clone58) none none w35 hr
    replace h := h.get
    obtain ⟨b66, w67, nb68, h⟩ := h
    refine s_bslc H rfl (by rw [H.parts (vs := [(0, (.int .i64 l54))]) rfl]; exact bs_50_1_ii640 w35 l54) (lt_ rfl) ?_
    rw [← nb68.at_]
    clear H a
    intro a H
    refine nb68.go <| c_nil ?_
    refine effQ.ok (v := (Slc.v (Slc.mk (some (blk b66)) 1 1))) (H.weaken (L' := [(30, (Slc.v (Slc.mk (some (blk b66)) 1 1)))]) ⟨rfl, trivial⟩) ⟨[(0, (Slc.v l36)), (1, (.int .i64 l39)), (2, (Slc.v l42)), (3, (.int .i64 l45)), (4, (.int .i64 (wr .i64 (l45 - 4)))), (5, (.int .i64 l48)), (6, (Slc.v (l42.cut 1 (Int.toNat (wr .i64 (l45 - 4))) (Int.toNat (l48))))), (7, (Slc.v Clone58)), (8, (.agg #[(Slc.v Clone58), (.int .i64 0)])), (10, (.int .i64 l54)), (11, (Slc.v (Slc.mk (some (blk b66)) 1 1)))], ⟨rfl, rfl, rfl, rfl, rfl, rfl, rfl, rfl, rfl, rfl, rfl, trivial⟩, ?_⟩
    have hx := st_7_11 Clone58 b66 w67 h
    rw [hE140] at hx
    exact hx
   ·refine ⟨_, rfl, fun a H => ?_⟩
    replace H := H.weaken (L' := []) trivial
    have h := hT137 (some Clone58) none none none w35 hr
    replace h := h.get
    obtain ⟨b72, w73, nb74, h⟩ := h
    refine s_alloc H rfl zero_76 (lt_ rfl) ?_
    rw [← nb74.at_]
    clear H a
    intro a H
    refine nb74.go <| c_nil ?_
    refine effQ.ok (v := (.pointer (some (blk b72)))) (H.weaken (L' := [(11, (.pointer (some (blk b72))))]) ⟨rfl, trivial⟩) ⟨[(0, (Slc.v l36)), (1, (.int .i64 l39)), (2, (Slc.v l42)), (3, (.int .i64 l45)), (4, (.int .i64 (wr .i64 (l45 - 4)))), (5, (.int .i64 l48)), (6, (Slc.v (l42.cut 1 (Int.toNat (wr .i64 (l45 - 4))) (Int.toNat (l48))))), (7, (Slc.v Clone58)), (8, (.agg #[(Slc.v Clone58), (.int .i64 0)])), (10, (.int .i64 l54)), (14, (.pointer (some (blk b72))))], ⟨rfl, rfl, rfl, rfl, rfl, rfl, rfl, rfl, rfl, rfl, rfl, trivial⟩, ?_⟩
    have hx := st_7_14 Clone58 b72 w73 h
    rw [hE140] at hx
    exact hx
  have st_11 : ∀ (b66 : Nat) (w35 : World), Rel34 none none (some b66) none none none w35 → F142 5 [11] [(0, (Slc.v l36)), (1, (.int .i64 l39)), (2, (Slc.v l42)), (3, (.int .i64 l45)), (4, (.int .i64 (wr .i64 (l45 - 4)))), (5, (.int .i64 l48)), (6, (Slc.v (l42.cut 1 (Int.toNat (wr .i64 (l45 - 4))) (Int.toNat (l48))))), (10, (.int .i64 l54)), (11, (Slc.v (Slc.mk (some (blk b66)) 1 1)))] w35 := by
   intro b66 w35 hr
   rw [hE140]
   refine StT.more [0, 1, 2, 3, 4, 5, 6] [7, 14] (by kernel_rfl) (by kernel_rfl) (by kernel_rfl) (.cons ?_ (.cons ?_ (.cons ?_ (.cons ?_ (.cons ?_ (.cons ?_ (.cons ?_ .nil))))))) (.cons ?_ (.cons ?_ .nil))
   ·refine Ans.mk rfl rfl fun a H => ?_
    replace H := H.weaken (L' := [(1, (.pointer (some (blk b3))))]) ⟨rfl, trivial⟩
    obtain hc37 := hL38 none none (some b66) none w35 hr
    refine s_load (v := (Slc.v l36)) H rfl rfl one_28 hc37 (lt_ rfl) fun a H => c_nil ⟨rfl, rfl, H.weaken (L' := [(19, (Slc.v l36))]) ⟨rfl, trivial⟩⟩
   ·refine Ans.mk rfl rfl fun a H => ?_
    replace H := H.weaken (L' := [(9, (.pointer (some (blk b14))))]) ⟨rfl, trivial⟩
    obtain hc40 := hL41 none none (some b66) none w35 hr
    refine s_load (v := (.int .i64 l39)) H rfl rfl one_3 hc40 (lt_ rfl) fun a H => c_nil ⟨rfl, rfl, H.weaken (L' := [(20, (.int .i64 l39))]) ⟨rfl, trivial⟩⟩
   ·refine Ans.mk rfl rfl fun a H => ?_
    replace H := H.weaken (L' := [(1, (.pointer (some (blk b3))))]) ⟨rfl, trivial⟩
    obtain hc43 := hL44 (some b66) none w35 hr
    refine s_load (v := (Slc.v l42)) H rfl rfl one_28 hc43 (lt_ rfl) fun a H => c_nil ⟨rfl, rfl, H.weaken (L' := [(21, (Slc.v l42))]) ⟨rfl, trivial⟩⟩
   ·refine Ans.mk rfl rfl fun a H => ?_
    replace H := H.weaken (L' := [(9, (.pointer (some (blk b14))))]) ⟨rfl, trivial⟩
    obtain hc46 := hL47 (some b66) none w35 hr
    refine s_load (v := (.int .i64 l45)) H rfl rfl one_3 hc46 (lt_ rfl) fun a H => c_nil ⟨rfl, rfl, H.weaken (L' := [(22, (.int .i64 l45))]) ⟨rfl, trivial⟩⟩
   ·refine Ans.mk rfl rfl fun a H => ?_
    replace H := H.weaken (L' := [(22, (.int .i64 l45))]) ⟨rfl, trivial⟩
    refine s_bin H rfl rfl rfl r_sub (lt_ rfl) fun a H => c_nil ⟨rfl, rfl, H.weaken (L' := [(23, (.int .i64 (wr .i64 (l45 - 4))))]) ⟨rfl, trivial⟩⟩
   ·refine Ans.mk rfl rfl fun a H => ?_
    replace H := H.weaken (L' := [(9, (.pointer (some (blk b14))))]) ⟨rfl, trivial⟩
    obtain hc49 := hL50 (some b66) none w35 hr
    refine s_load (v := (.int .i64 l48)) H rfl rfl one_3 hc49 (lt_ rfl) fun a H => c_nil ⟨rfl, rfl, H.weaken (L' := [(24, (.int .i64 l48))]) ⟨rfl, trivial⟩⟩
   ·refine Ans.mk rfl rfl fun a H => ?_
    replace H := H.weaken (L' := [(21, (Slc.v l42)), (23, (.int .i64 (wr .i64 (l45 - 4)))), (24, (.int .i64 l48))]) ⟨rfl, rfl, rfl, trivial⟩
    refine s_slice (v := (Slc.v (l42.cut 1 (Int.toNat (wr .i64 (l45 - 4))) (Int.toNat (l48))))) H rfl rfl ⟨rfl, rfl⟩ ⟨rfl, rfl⟩ ⟨rfl, rfl⟩ (r_sliceSlc (lo := (some (.i64, wr .i64 (l45 - 4)))) (hi := (some (.i64, l48))) slc_28 rfl rfl hi51 hi52 hi53) (lt_ rfl) fun a H => c_nil ⟨rfl, rfl, H.weaken (L' := [(25, (Slc.v (l42.cut 1 (Int.toNat (wr .i64 (l45 - 4))) (Int.toNat (l48)))))]) ⟨rfl, trivial⟩⟩
   ·refine ⟨_, rfl, fun a H => ?_⟩
    replace H := H.weaken (L' := [(25, (Slc.v (l42.cut 1 (Int.toNat (wr .i64 (l45 - 4))) (Int.toNat (l48)))))]) ⟨rfl, trivial⟩
    have h := hT133 (some b66) none w35 hr
    refine s_call H rfl body_25 (H.args (vs := [(Slc.v (l42.cut 1 (Int.toNat (wr .i64 (l45 - 4))) (Int.toNat (l48))))]) rfl) (lt_ rfl) h ?_ (fun c w' h H => e_panic (P := PP) (fn := Tryd.f16) H h)
    clear H h a
    rintro _ w57 a ⟨Clone58, rfl, h⟩ H
    refine c_nil ?_
    refine effQ.ok (v := (Slc.v Clone58)) (H.weaken (L' := [(26, (Slc.v Clone58))]) ⟨rfl, trivial⟩) ⟨[(0, (Slc.v l36)), (1, (.int .i64 l39)), (2, (Slc.v l42)), (3, (.int .i64 l45)), (4, (.int .i64 (wr .i64 (l45 - 4)))), (5, (.int .i64 l48)), (6, (Slc.v (l42.cut 1 (Int.toNat (wr .i64 (l45 - 4))) (Int.toNat (l48))))), (7, (Slc.v Clone58)), (8, (.agg #[(Slc.v Clone58), (.int .i64 0)])), (10, (.int .i64 l54)), (11, (Slc.v (Slc.mk (some (blk b66)) 1 1)))], ⟨rfl, rfl, rfl, rfl, rfl, rfl, rfl, rfl, rfl, rfl, trivial⟩, ?_⟩
    have hx := st_7_11 Clone58 b66 w57 h
    rw [hE140] at hx
    exact hx
   ·refine ⟨_, rfl, fun a H => ?_⟩
    replace H := H.weaken (L' := []) trivial
    have h := hT137 none none (some b66) none w35 hr
    replace h := h.get
    obtain ⟨b72, w73, nb74, h⟩ := h
    refine s_alloc H rfl zero_76 (lt_ rfl) ?_
    rw [← nb74.at_]
    clear H a
    intro a H
    refine nb74.go <| c_nil ?_
    refine effQ.ok (v := (.pointer (some (blk b72)))) (H.weaken (L' := [(11, (.pointer (some (blk b72))))]) ⟨rfl, trivial⟩) ⟨[(0, (Slc.v l36)), (1, (.int .i64 l39)), (2, (Slc.v l42)), (3, (.int .i64 l45)), (4, (.int .i64 (wr .i64 (l45 - 4)))), (5, (.int .i64 l48)), (6, (Slc.v (l42.cut 1 (Int.toNat (wr .i64 (l45 - 4))) (Int.toNat (l48))))), (10, (.int .i64 l54)), (11, (Slc.v (Slc.mk (some (blk b66)) 1 1))), (14, (.pointer (some (blk b72))))], ⟨rfl, rfl, rfl, rfl, rfl, rfl, rfl, rfl, rfl, rfl, trivial⟩, ?_⟩
    have hx := st_11_14 b66 b72 w73 h
    rw [hE140] at hx
    exact hx
  have st_14 : ∀ (b72 : Nat) (w35 : World), Rel34 none none none none (some b72) none w35 → F142 5 [14] [(0, (Slc.v l36)), (1, (.int .i64 l39)), (2, (Slc.v l42)), (3, (.int .i64 l45)), (4, (.int .i64 (wr .i64 (l45 - 4)))), (5, (.int .i64 l48)), (6, (Slc.v (l42.cut 1 (Int.toNat (wr .i64 (l45 - 4))) (Int.toNat (l48))))), (10, (.int .i64 l54)), (14, (.pointer (some (blk b72))))] w35 := by
   intro b72 w35 hr
   rw [hE140]
   refine StT.more [0, 1, 2, 3, 4, 5, 6, 10] [7, 11] (by kernel_rfl) (by kernel_rfl) (by kernel_rfl) (.cons ?_ (.cons ?_ (.cons ?_ (.cons ?_ (.cons ?_ (.cons ?_ (.cons ?_ (.cons ?_ .nil)))))))) (.cons ?_ (.cons ?_ .nil))
   ·refine Ans.mk rfl rfl fun a H => ?_
    replace H := H.weaken (L' := [(1, (.pointer (some (blk b3))))]) ⟨rfl, trivial⟩
    obtain hc37 := hL38 none none none (some b72) w35 hr
    refine s_load (v := (Slc.v l36)) H rfl rfl one_28 hc37 (lt_ rfl) fun a H => c_nil ⟨rfl, rfl, H.weaken (L' := [(19, (Slc.v l36))]) ⟨rfl, trivial⟩⟩
   ·refine Ans.mk rfl rfl fun a H => ?_
    replace H := H.weaken (L' := [(9, (.pointer (some (blk b14))))]) ⟨rfl, trivial⟩
    obtain hc40 := hL41 none none none (some b72) w35 hr
    refine s_load (v := (.int .i64 l39)) H rfl rfl one_3 hc40 (lt_ rfl) fun a H => c_nil ⟨rfl, rfl, H.weaken (L' := [(20, (.int .i64 l39))]) ⟨rfl, trivial⟩⟩
   ·refine Ans.mk rfl rfl fun a H => ?_
    replace H := H.weaken (L' := [(1, (.pointer (some (blk b3))))]) ⟨rfl, trivial⟩
    obtain hc43 := hL44 none (some b72) w35 hr
    refine s_load (v := (Slc.v l42)) H rfl rfl one_28 hc43 (lt_ rfl) fun a H => c_nil ⟨rfl, rfl, H.weaken (L' := [(21, (Slc.v l42))]) ⟨rfl, trivial⟩⟩
   ·refine Ans.mk rfl rfl fun a H => ?_
    replace H := H.weaken (L' := [(9, (.pointer (some (blk b14))))]) ⟨rfl, trivial⟩
    obtain hc46 := hL47 none (some b72) w35 hr
    refine s_load (v := (.int .i64 l45)) H rfl rfl one_3 hc46 (lt_ rfl) fun a H => c_nil ⟨rfl, rfl, H.weaken (L' := [(22, (.int .i64 l45))]) ⟨rfl, trivial⟩⟩
   ·refine Ans.mk rfl rfl fun a H => ?_
    replace H := H.weaken (L' := [(22, (.int .i64 l45))]) ⟨rfl, trivial⟩
    refine s_bin H rfl rfl rfl r_sub (lt_ rfl) fun a H => c_nil ⟨rfl, rfl, H.weaken (L' := [(23, (.int .i64 (wr .i64 (l45 - 4))))]) ⟨rfl, trivial⟩⟩
   ·refine Ans.mk rfl rfl fun a H => ?_
    replace H := H.weaken (L' := [(9, (.pointer (some (blk b14))))]) ⟨rfl, trivial⟩
    obtain hc49 := hL50 none (some b72) w35 hr
    refine s_load (v := (.int .i64 l48)) H rfl rfl one_3 hc49 (lt_ rfl) fun a H => c_nil ⟨rfl, rfl, H.weaken (L' := [(24, (.int .i64 l48))]) ⟨rfl, trivial⟩⟩
   ·refine Ans.mk rfl rfl fun a H => ?_
    replace H := H.weaken (L' := [(21, (Slc.v l42)), (23, (.int .i64 (wr .i64 (l45 - 4)))), (24, (.int .i64 l48))]) ⟨rfl, rfl, rfl, trivial⟩
    refine s_slice (v := (Slc.v (l42.cut 1 (Int.toNat (wr .i64 (l45 - 4))) (Int.toNat (l48))))) H rfl rfl ⟨rfl, rfl⟩ ⟨rfl, rfl⟩ ⟨rfl, rfl⟩ (r_sliceSlc (lo := (some (.i64, wr .i64 (l45 - 4)))) (hi := (some (.i64, l48))) slc_28 rfl rfl hi51 hi52 hi53) (lt_ rfl) fun a H => c_nil ⟨rfl, rfl, H.weaken (L' := [(25, (Slc.v (l42.cut 1 (Int.toNat (wr .i64 (l45 - 4))) (Int.toNat (l48)))))]) ⟨rfl, trivial⟩⟩
   ·refine Ans.mk rfl rfl fun a H => ?_
    replace H := H.weaken (L' := [(9, (.pointer (some (blk b14))))]) ⟨rfl, trivial⟩
    obtain hc55 := hL56 none none (some b72) w35 hr
    refine s_load (v := (.int .i64 l54)) H rfl rfl one_3 hc55 (lt_ rfl) fun a H => c_nil ⟨rfl, rfl, H.weaken (L' := [(29, (.int .i64 l54))]) ⟨rfl, trivial⟩⟩
   ·refine ⟨_, rfl, fun a H => ?_⟩
    replace H := H.weaken (L' := [(25, (Slc.v (l42.cut 1 (Int.toNat (wr .i64 (l45 - 4))) (Int.toNat (l48)))))]) ⟨rfl, trivial⟩
    have h := hT133 none (some b72) w35 hr
    refine s_call H rfl body_25 (H.args (vs := [(Slc.v (l42.cut 1 (Int.toNat (wr .i64 (l45 - 4))) (Int.toNat (l48))))]) rfl) (lt_ rfl) h ?_ (fun c w' h H => e_panic (P := PP) (fn := Tryd.f16) H h)
    clear H h a
    rintro _ w57 a ⟨Clone58, rfl, h⟩ H
    refine c_nil ?_
    refine effQ.ok (v := (Slc.v Clone58)) (H.weaken (L' := [(26, (Slc.v Clone58))]) ⟨rfl, trivial⟩) ⟨[(0, (Slc.v l36)), (1, (.int .i64 l39)), (2, (Slc.v l42)), (3, (.int .i64 l45)), (4, (.int .i64 (wr .i64 (l45 - 4)))), (5, (.int .i64 l48)), (6, (Slc.v (l42.cut 1 (Int.toNat (wr .i64 (l45 - 4))) (Int.toNat (l48))))), (7, (Slc.v Clone58)), (8, (.agg #[(Slc.v Clone58), (.int .i64 0)])), (10, (.int .i64 l54)), (14, (.pointer (some (blk b72))))], ⟨rfl, rfl, rfl, rfl, rfl, rfl, rfl, rfl, rfl, rfl, trivial⟩, ?_⟩
    have hx := st_7_14 Clone58 b72 w57 h
    rw [hE140] at hx
    exact hx
   ·refine ⟨_, rfl, fun a H => ?_⟩
    replace H := H.weaken (L' := [(29, (.int .i64 l54))]) ⟨rfl, trivial⟩
    have h := hT135 none none (some b72) w35 hr
    replace h := h.get
    obtain ⟨b66, w67, nb68, h⟩ := h
    refine s_bslc H rfl (by rw [H.parts (vs := [(0, (.int .i64 l54))]) rfl]; exact bs_50_1_ii640 w35 l54) (lt_ rfl) ?_
    rw [← nb68.at_]
    clear H a
    intro a H
    refine nb68.go <| c_nil ?_
    refine effQ.ok (v := (Slc.v (Slc.mk (some (blk b66)) 1 1))) (H.weaken (L' := [(30, (Slc.v (Slc.mk (some (blk b66)) 1 1)))]) ⟨rfl, trivial⟩) ⟨[(0, (Slc.v l36)), (1, (.int .i64 l39)), (2, (Slc.v l42)), (3, (.int .i64 l45)), (4, (.int .i64 (wr .i64 (l45 - 4)))), (5, (.int .i64 l48)), (6, (Slc.v (l42.cut 1 (Int.toNat (wr .i64 (l45 - 4))) (Int.toNat (l48))))), (10, (.int .i64 l54)), (11, (Slc.v (Slc.mk (some (blk b66)) 1 1))), (14, (.pointer (some (blk b72))))], ⟨rfl, rfl, rfl, rfl, rfl, rfl, rfl, rfl, rfl, rfl, trivial⟩, ?_⟩
    have hx := st_11_14 b66 b72 w67 h
    rw [hE140] at hx
    exact hx
  have st_ : ∀ (w35 : World), Rel34 none none none none none none w35 → F142 6 [] [(0, (Slc.v l36)), (1, (.int .i64 l39)), (2, (Slc.v l42)), (3, (.int .i64 l45)), (4, (.int .i64 (wr .i64 (l45 - 4)))), (5, (.int .i64 l48)), (6, (Slc.v (l42.cut 1 (Int.toNat (wr .i64 (l45 - 4))) (Int.toNat (l48))))), (10, (.int .i64 l54))] w35 := by
   intro w35 hr
   rw [hE140]
   refine StT.more [0, 1, 2, 3, 4, 5, 6, 10] [7, 11, 14] (by kernel_rfl) (by kernel_rfl) (by kernel_rfl) (.cons ?_ (.cons ?_ (.cons ?_ (.cons ?_ (.cons ?_ (.cons ?_ (.cons ?_ (.cons ?_ .nil)))))))) (.cons ?_ (.cons ?_ (.cons ?_ .nil)))
   ·refine Ans.mk rfl rfl fun a H => ?_
    replace H := H.weaken (L' := [(1, (.pointer (some (blk b3))))]) ⟨rfl, trivial⟩
    obtain hc37 := hL38 none none none none w35 hr
    refine s_load (v := (Slc.v l36)) H rfl rfl one_28 hc37 (lt_ rfl) fun a H => c_nil ⟨rfl, rfl, H.weaken (L' := [(19, (Slc.v l36))]) ⟨rfl, trivial⟩⟩
   ·refine Ans.mk rfl rfl fun a H => ?_
    replace H := H.weaken (L' := [(9, (.pointer (some (blk b14))))]) ⟨rfl, trivial⟩
    obtain hc40 := hL41 none none none none w35 hr
    refine s_load (v := (.int .i64 l39)) H rfl rfl one_3 hc40 (lt_ rfl) fun a H => c_nil ⟨rfl, rfl, H.weaken (L' := [(20, (.int .i64 l39))]) ⟨rfl, trivial⟩⟩
   ·refine Ans.mk rfl rfl fun a H => ?_
    replace H := H.weaken (L' := [(1, (.pointer (some (blk b3))))]) ⟨rfl, trivial⟩
    obtain hc43 := hL44 none none w35 hr
    refine s_load (v := (Slc.v l42)) H rfl rfl one_28 hc43 (lt_ rfl) fun a H => c_nil ⟨rfl, rfl, H.weaken (L' := [(21, (Slc.v l42))]) ⟨rfl, trivial⟩⟩
   ·refine Ans.mk rfl rfl fun a H => ?_
    replace H := H.weaken (L' := [(9, (.pointer (some (blk b14))))]) ⟨rfl, trivial⟩
    obtain hc46 := hL47 none none w35 hr
    refine s_load (v := (.int .i64 l45)) H rfl rfl one_3 hc46 (lt_ rfl) fun a H => c_nil ⟨rfl, rfl, H.weaken (L' := [(22, (.int .i64 l45))]) ⟨rfl, trivial⟩⟩
   ·refine Ans.mk rfl rfl fun a H => ?_
    replace H := H.weaken (L' := [(22, (.int .i64 l45))]) ⟨rfl, trivial⟩
    refine s_bin H rfl rfl rfl r_sub (lt_ rfl) fun a H => c_nil ⟨rfl, rfl, H.weaken (L' := [(23, (.int .i64 (wr .i64 (l45 - 4))))]) ⟨rfl, trivial⟩⟩
   ·refine Ans.mk rfl rfl fun a H => ?_
    replace H := H.weaken (L' := [(9, (.pointer (some (blk b14))))]) ⟨rfl, trivial⟩
    obtain hc49 := hL50 none none w35 hr
    refine s_load (v := (.int .i64 l48)) H rfl rfl one_3 hc49 (lt_ rfl) fun a H => c_nil ⟨rfl, rfl, H.weaken (L' := [(24, (.int .i64 l48))]) ⟨rfl, trivial⟩⟩
   ·refine Ans.mk rfl rfl fun a H => ?_
    replace H := H.weaken (L' := [(21, (Slc.v l42)), (23, (.int .i64 (wr .i64 (l45 - 4)))), (24, (.int .i64 l48))]) ⟨rfl, rfl, rfl, trivial⟩
    refine s_slice (v := (Slc.v (l42.cut 1 (Int.toNat (wr .i64 (l45 - 4))) (Int.toNat (l48))))) H rfl rfl ⟨rfl, rfl⟩ ⟨rfl, rfl⟩ ⟨rfl, rfl⟩ (r_sliceSlc (lo := (some (.i64, wr .i64 (l45 - 4)))) (hi := (some (.i64, l48))) slc_28 rfl rfl hi51 hi52 hi53) (lt_ rfl) fun a H => c_nil ⟨rfl, rfl, H.weaken (L' := [(25, (Slc.v (l42.cut 1 (Int.toNat (wr .i64 (l45 - 4))) (Int.toNat (l48)))))]) ⟨rfl, trivial⟩⟩
   ·refine Ans.mk rfl rfl fun a H => ?_
    replace H := H.weaken (L' := [(9, (.pointer (some (blk b14))))]) ⟨rfl, trivial⟩
    obtain hc55 := hL56 none none none w35 hr
    refine s_load (v := (.int .i64 l54)) H rfl rfl one_3 hc55 (lt_ rfl) fun a H => c_nil ⟨rfl, rfl, H.weaken (L' := [(29, (.int .i64 l54))]) ⟨rfl, trivial⟩⟩
   ·refine ⟨_, rfl, fun a H => ?_⟩
    replace H := H.weaken (L' := [(25, (Slc.v (l42.cut 1 (Int.toNat (wr .i64 (l45 - 4))) (Int.toNat (l48)))))]) ⟨rfl, trivial⟩
    have h := hT133 none none w35 hr
    refine s_call H rfl body_25 (H.args (vs := [(Slc.v (l42.cut 1 (Int.toNat (wr .i64 (l45 - 4))) (Int.toNat (l48))))]) rfl) (lt_ rfl) h ?_ (fun c w' h H => e_panic (P := PP) (fn := Tryd.f16) H h)
    clear H h a
    rintro _ w57 a ⟨Clone58, rfl, h⟩ H
    refine c_nil <| effQ.ok (v := (Slc.v Clone58)) (H.weaken (L' := [(26, (Slc.v Clone58))]) ⟨rfl, trivial⟩) ⟨[(0, (Slc.v l36)), (1, (.int .i64 l39)), (2, (Slc.v l42)), (3, (.int .i64 l45)), (4, (.int .i64 (wr .i64 (l45 - 4)))), (5, (.int .i64 l48)), (6, (Slc.v (l42.cut 1 (Int.toNat (wr .i64 (l45 - 4))) (Int.toNat (l48))))), (7, (Slc.v Clone58)), (8, (.agg #[(Slc.v Clone58), (.int .i64 0)])), (10, (.int .i64 l54))], ⟨rfl, rfl, rfl, rfl, rfl, rfl, rfl, rfl, rfl, trivial⟩, ?_⟩
    have hx := st_7 Clone58 w57 h
    rw [hE140] at hx
    exact hx
   ·refine ⟨_, rfl, fun a H => ?_⟩
    replace H := H.weaken (L' := [(29, (.int .i64 l54))]) ⟨rfl, trivial⟩
    have h := hT135 none none none w35 hr
    replace h := h.get
    obtain ⟨b66, w67, nb68, h⟩ := h
    refine s_bslc H rfl (by rw [H.parts (vs := [(0, (.int .i64 l54))]) rfl]; exact bs_50_1_ii640 w35 l54) (lt_ rfl) ?_
    rw [← nb68.at_]
    clear H a
    intro a H
    refine nb68.go <| c_nil ?_
    refine effQ.ok (v := (Slc.v (Slc.mk (some (blk b66)) 1 1))) (H.weaken (L' := [(30, (Slc.v (Slc.mk (some (blk b66)) 1 1)))]) ⟨rfl, trivial⟩) ⟨[(0, (Slc.v l36)), (1, (.int .i64 l39)), (2, (Slc.v l42)), (3, (.int .i64 l45)), (4, (.int .i64 (wr .i64 (l45 - 4)))), (5, (.int .i64 l48)), (6, (Slc.v (l42.cut 1 (Int.toNat (wr .i64 (l45 - 4))) (Int.toNat (l48))))), (10, (.int .i64 l54)), (11, (Slc.v (Slc.mk (some (blk b66)) 1 1)))], ⟨rfl, rfl, rfl, rfl, rfl, rfl, rfl, rfl, rfl, trivial⟩, ?_⟩
    have hx := st_11 b66 w67 h
    rw [hE140] at hx
    exact hx
   ·refine ⟨_, rfl, fun a H => ?_⟩
    replace H := H.weaken (L' := []) trivial
    have h := hT137 none none none none w35 hr
    replace h := h.get
    obtain ⟨b72, w73, nb74, h⟩ := h
    refine s_alloc H rfl zero_76 (lt_ rfl) ?_
    rw [← nb74.at_]
    clear H a
    intro a H
    refine nb74.go <| c_nil <| effQ.ok (v := (.pointer (some (blk b72)))) (H.weaken (L' := [(11, (.pointer (some (blk b72))))]) ⟨rfl, trivial⟩) ⟨[(0, (Slc.v l36)), (1, (.int .i64 l39)), (2, (Slc.v l42)), (3, (.int .i64 l45)), (4, (.int .i64 (wr .i64 (l45 - 4)))), (5, (.int .i64 l48)), (6, (Slc.v (l42.cut 1 (Int.toNat (wr .i64 (l45 - 4))) (Int.toNat (l48))))), (10, (.int .i64 l54)), (14, (.pointer (some (blk b72))))], ⟨rfl, rfl, rfl, rfl, rfl, rfl, rfl, rfl, rfl, trivial⟩, ?_⟩
    have hx := st_14 b72 w73 h
    rw [hE140] at hx
    exact hx
  exact st_ _ hs141

set_option maxRecDepth 100000 in
set_option maxHeartbeats 4000000 in
theorem sim_sherdlaw11_updates (a1 : Slc) (b2 : Slc) (w : World) (Q : Ending → World → Prop) (h : vc_sherdlaw11_updates a1 b2 w Q) : Calls PP F_sherdlaw11_updates #[(Slc.v a1), (Slc.v b2)] w Q := by
 unfold vc_sherdlaw11_updates at h
 refine enter (n := 27) (l := [(Slc.v a1), (Slc.v b2)]) Tryd.func17 rfl rfl (Nat.le_of_ble_eq_true rfl) fun a H => ?_
 replace H : Has 27 [] a [(0, (Slc.v a1)), (1, (Slc.v b2))] := H
 refine c_seq fun K3 hK3 => c_reg <| s_assign H rfl rfl (lt_ rfl) fun a H => c_nil <| hK3 _ _ <| c_seq fun K4 hK4 => c_seq fun K5 hK5 => c_reg <| s_move H rfl rfl (lt_ rfl) fun a H => s_blt H rfl (H.args (vs := [(Slc.v a1)]) rfl) (lt_ rfl) (fun cs => b_lenS (z := a1) sl_26) fun a H => s_move H rfl rfl (lt_ rfl) fun a H => s_blt H rfl (H.args (vs := [(Slc.v b2)]) rfl) (lt_ rfl) (fun cs => b_lenS (z := b2) sl_26) fun a H => s_bin H rfl rfl rfl r_neq (lt_ rfl) fun a H => c_nil <| hK5 _ _ ?_
 refine c_cond H rfl (fun hb6 => ?_) (fun hb6 => ?_)
 ·replace h := h.1 hb6
  refine c_seq fun K7 hK7 => c_reg <| s_assign H rfl rfl (lt_ rfl) fun a H => c_nil <| hK7 _ _ <| c_ret ?_
  exact e_ret1 H rfl rfl h
 ·replace h := h.2 hb6
  refine c_skip <| hK4 _ _ <| c_seq fun K8 hK8 => c_seq fun K9 hK9 => c_reg <| s_assign H rfl rfl (lt_ rfl) fun a H => c_nil <| hK9 _ _ <| c_block ?_
  obtain ⟨I12, mu13, h064, hl65⟩ := h
  refine c_loop (σ := Int) (fun z w => I12 z w) (fun z w => mu13 z w) (fun z => [(0, (Slc.v a1)), (1, (Slc.v b2)), (5, (.int .i64 z))]) 0 h064 (H.weaken ⟨rfl, rfl, rfl, trivial⟩) ?_
  clear H h064
  rintro i10 a w11 h H
  replace h := hl65 i10 w11 h
  clear hl65
  replace H : Has 27 [] a [(0, (Slc.v a1)), (1, (Slc.v b2)), (5, (.int .i64 i10))] := H
  refine c_seq fun K14 hK14 => c_seq fun K15 hK15 => c_reg <| s_move H rfl rfl (lt_ rfl) fun a H => s_move H rfl rfl (lt_ rfl) fun a H => s_blt H rfl (H.args (vs := [(Slc.v a1)]) rfl) (lt_ rfl) (fun cs => b_lenS (z := a1) sl_26) fun a H => s_bin H rfl rfl rfl r_lss (lt_ rfl) fun a H => c_nil <| hK15 _ _ <| c_cond H rfl (fun hb16 => ?_) (fun hb16 => ?_)
  ·replace h := h.1 hb16
   refine c_skip <| hK14 _ _ <| c_seq fun K17 hK17 => c_block <| c_seq fun K18 hK18 => ?_
   replace H := H.weaken (L' := [(0, (Slc.v a1)), (1, (Slc.v b2)), (5, (.int .i64 i10))]) ⟨rfl, rfl, rfl, trivial⟩
   obtain ⟨a19, hi20, hi21, hi22, h⟩ := h
   obtain ⟨Kind23, hc24, h⟩ := h
   obtain ⟨Key25, hc26, h⟩ := h
   obtain ⟨Count27, hc28, h⟩ := h
   obtain ⟨Clien29, hc30, h⟩ := h
   obtain ⟨Fin31, hc32, h⟩ := h
   obtain ⟨Has33, hc34, h⟩ := h
   obtain ⟨Data35, hc36, h⟩ := h
   obtain ⟨a37, hi38, hi39, hi40, h⟩ := h
   obtain ⟨Kind41, hc42, h⟩ := h
   obtain ⟨Key43, hc44, h⟩ := h
   obtain ⟨Count45, hc46, h⟩ := h
   obtain ⟨Clien47, hc48, h⟩ := h
   obtain ⟨Fin49, hc50, h⟩ := h
   obtain ⟨Has51, hc52, h⟩ := h
   obtain ⟨Data53, hc54, h⟩ := h
   refine c_any (V := [(0, (Slc.v a1)), (1, (.int .i64 i10)), (2, (.pointer (some (a19.add (Int.toNat (i10) * 7))))), (3, (.agg #[(.int .i64 Kind23), (.string Key25), (.int .i64 Count27), (.int .i64 Clien29), (.bool Fin31), (.bool Has33), (Slc.v Data35)])), (4, (Slc.v b2)), (5, (.int .i64 i10)), (6, (.pointer (some (a37.add (Int.toNat (i10) * 7))))), (7, (.agg #[(.int .i64 Kind41), (.string Key43), (.int .i64 Count45), (.int .i64 Clien47), (.bool Fin49), (.bool Has51), (Slc.v Data53)]))]) (⟨[[], [], [0, 1], [2], [], [], [4, 5], [6], [3, 7], [8]], [some 17, some 18, some 19, some 20, some 21, some 22, some 23, some 24, some 25, some 26], [8], [0, 0, 0, 0, 0, 0, 0, 0, 0, 1], [0, 0, 0, 0, 0, 0, 0, 0, 1, 1]⟩ : Rg) [(0, (Slc.v a1)), (1, (Slc.v b2)), (5, (.int .i64 i10))] mixed (by kernel_rfl) H ?_
   refine Stg.eff [0, 1, 2, 3, 4, 5, 6, 7] (by kernel_rfl) rfl (.cons ?_ (.cons ?_ (.cons ?_ (.cons ?_ (.cons ?_ (.cons ?_ (.cons ?_ (.cons ?_ .nil)))))))) ?_
   ·refine Ans.mk rfl rfl fun a H => ?_
    replace H := H.weaken (L' := [(0, (Slc.v a1))]) ⟨rfl, trivial⟩
    refine s_move H rfl rfl (lt_ rfl) fun a H => c_nil ⟨rfl, rfl, H.weaken (L' := [(17, (Slc.v a1))]) ⟨rfl, trivial⟩⟩
   ·refine Ans.mk rfl rfl fun a H => ?_
    replace H := H.weaken (L' := [(5, (.int .i64 i10))]) ⟨rfl, trivial⟩
    refine s_move H rfl rfl (lt_ rfl) fun a H => c_nil ⟨rfl, rfl, H.weaken (L' := [(18, (.int .i64 i10))]) ⟨rfl, trivial⟩⟩
   ·refine Ans.mk rfl rfl fun a H => ?_
    replace H := H.weaken (L' := [(17, (Slc.v a1)), (18, (.int .i64 i10))]) ⟨rfl, rfl, trivial⟩
    refine s_idxS (s := a1) H rfl rfl rfl slc_26 hi20 hi21 hi22 (lt_ rfl) fun a H => c_nil ⟨rfl, rfl, H.weaken (L' := [(19, (.pointer (some (a19.add (Int.toNat (i10) * 7)))))]) ⟨rfl, trivial⟩⟩
   ·refine Ans.mk rfl rfl fun a H => ?_
    replace H := H.weaken (L' := [(19, (.pointer (some (a19.add (Int.toNat (i10) * 7)))))]) ⟨rfl, trivial⟩
    refine s_loadN (l := [(.int .i64 Kind23), (.string Key25), (.int .i64 Count27), (.int .i64 Clien29), (.bool Fin31), (.bool Has33), (Slc.v Data35)]) H rfl rfl agg_45 rfl ⟨hc24, hc26, hc28, hc30, hc32, hc34, hc36, trivial⟩ (lt_ rfl) fun a H => c_nil ⟨rfl, rfl, H.weaken (L' := [(20, (.agg #[(.int .i64 Kind23), (.string Key25), (.int .i64 Count27), (.int .i64 Clien29), (.bool Fin31), (.bool Has33), (Slc.v Data35)]))]) ⟨rfl, trivial⟩⟩
   ·refine Ans.mk rfl rfl fun a H => ?_
    replace H := H.weaken (L' := [(1, (Slc.v b2))]) ⟨rfl, trivial⟩
    refine s_move H rfl rfl (lt_ rfl) fun a H => c_nil ⟨rfl, rfl, H.weaken (L' := [(21, (Slc.v b2))]) ⟨rfl, trivial⟩⟩
   ·refine Ans.mk rfl rfl fun a H => ?_
    replace H := H.weaken (L' := [(5, (.int .i64 i10))]) ⟨rfl, trivial⟩
    refine s_move H rfl rfl (lt_ rfl) fun a H => c_nil ⟨rfl, rfl, H.weaken (L' := [(22, (.int .i64 i10))]) ⟨rfl, trivial⟩⟩
   ·refine Ans.mk rfl rfl fun a H => ?_
    replace H := H.weaken (L' := [(21, (Slc.v b2)), (22, (.int .i64 i10))]) ⟨rfl, rfl, trivial⟩
    refine s_idxS (s := b2) H rfl rfl rfl slc_26 hi38 hi39 hi40 (lt_ rfl) fun a H => c_nil ⟨rfl, rfl, H.weaken (L' := [(23, (.pointer (some (a37.add (Int.toNat (i10) * 7)))))]) ⟨rfl, trivial⟩⟩
   ·refine Ans.mk rfl rfl fun a H => ?_
    replace H := H.weaken (L' := [(23, (.pointer (some (a37.add (Int.toNat (i10) * 7)))))]) ⟨rfl, trivial⟩
    refine s_loadN (l := [(.int .i64 Kind41), (.string Key43), (.int .i64 Count45), (.int .i64 Clien47), (.bool Fin49), (.bool Has51), (Slc.v Data53)]) H rfl rfl agg_45 rfl ⟨hc42, hc44, hc46, hc48, hc50, hc52, hc54, trivial⟩ (lt_ rfl) fun a H => c_nil ⟨rfl, rfl, H.weaken (L' := [(24, (.agg #[(.int .i64 Kind41), (.string Key43), (.int .i64 Count45), (.int .i64 Clien47), (.bool Fin49), (.bool Has51), (Slc.v Data53)]))]) ⟨rfl, trivial⟩⟩
   ·intro a H
    replace H := H.weaken (L' := [(20, (.agg #[(.int .i64 Kind23), (.string Key25), (.int .i64 Count27), (.int .i64 Clien29), (.bool Fin31), (.bool Has33), (Slc.v Data35)])), (24, (.agg #[(.int .i64 Kind41), (.string Key43), (.int .i64 Count45), (.int .i64 Clien47), (.bool Fin49), (.bool Has51), (Slc.v Data53)]))]) ⟨rfl, rfl, trivial⟩
    refine s_call H rfl body_35 (H.args (vs := [(.agg #[(.int .i64 Kind23), (.string Key25), (.int .i64 Count27), (.int .i64 Clien29), (.bool Fin31), (.bool Has33), (Slc.v Data35)]), (.agg #[(.int .i64 Kind41), (.string Key43), (.int .i64 Count45), (.int .i64 Clien47), (.bool Fin49), (.bool Has51), (Slc.v Data53)])]) rfl) (lt_ rfl) h ?_ (fun c w' h H => e_panic (P := PP) (fn := Tryd.f17) H h)
    clear H h a
    rintro _ w55 a ⟨equal56, rfl, h⟩ H
    refine c_nil ?_
    refine effQ.ok (v := (.bool equal56)) (H.weaken (L' := [(25, (.bool equal56))]) ⟨rfl, trivial⟩) ⟨[(0, (Slc.v a1)), (1, (.int .i64 i10)), (2, (.pointer (some (a19.add (Int.toNat (i10) * 7))))), (3, (.agg #[(.int .i64 Kind23), (.string Key25), (.int .i64 Count27), (.int .i64 Clien29), (.bool Fin31), (.bool Has33), (Slc.v Data35)])), (4, (Slc.v b2)), (5, (.int .i64 i10)), (6, (.pointer (some (a37.add (Int.toNat (i10) * 7))))), (7, (.agg #[(.int .i64 Kind41), (.string Key43), (.int .i64 Count45), (.int .i64 Clien47), (.bool Fin49), (.bool Has51), (Slc.v Data53)])), (8, (.bool equal56)), (9, (.bool (!equal56)))], ⟨rfl, rfl, rfl, rfl, rfl, rfl, rfl, rfl, rfl, trivial⟩, ?_⟩
    refine Stg.fin [9] (by kernel_rfl) (.cons ?_ .nil) ?_
    ·refine Ans.mk rfl rfl fun a H => ?_
     replace H := H.weaken (L' := [(25, (.bool equal56))]) ⟨rfl, trivial⟩
     refine s_un H rfl rfl r_not (lt_ rfl) fun a H => c_nil ⟨rfl, rfl, H.weaken (L' := [(26, (.bool (!equal56)))]) ⟨rfl, trivial⟩⟩
    ·intro a H
     replace H := H.weaken (L' := [(0, (Slc.v a1)), (1, (Slc.v b2)), (5, (.int .i64 i10)), (26, (.bool (!equal56)))]) ⟨rfl, rfl, rfl, rfl, trivial⟩
     refine hK18 _ _ <| c_cond H rfl (fun hb57 => ?_) (fun hb57 => ?_)
     ·replace h := h.1 hb57
      refine c_seq fun K58 hK58 => c_reg <| s_assign H rfl rfl (lt_ rfl) fun a H => c_nil <| hK58 _ _ <| c_ret ?_
      exact e_ret1 H rfl rfl h
     ·replace h := h.2 hb57
      refine c_skip <| hK17 _ _ <| c_reg <| s_move H rfl rfl (lt_ rfl) fun a H => s_bin H rfl rfl rfl r_add (lt_ rfl) fun a H => s_assign H rfl rfl (lt_ rfl) fun a H => c_nil <| Exists.intro (wr .i64 (i10 + 1)) ⟨h.1, h.2, H.weaken ⟨rfl, rfl, rfl, trivial⟩⟩
  ·replace h := h.2 hb16
   refine c_exit ?_
   first | (simp only [Exit.then, Exit.inBlock, ↓reduceIte]; fail_if_success simp only [Nat.reduceEqDiff]) | simp only [Exit.then, Exit.inBlock, ↓reduceIte, Nat.reduceEqDiff]
   refine hK8 _ _ <| c_seq fun K63 hK63 => c_reg <| s_assign H rfl rfl (lt_ rfl) fun a H => c_nil <| hK63 _ _ <| c_ret ?_
   exact e_ret1 H rfl rfl h

set_option maxRecDepth 100000 in
set_option maxHeartbeats 4000000 in
theorem sim_sherdlaw11_ints (a1 : Slc) (b2 : Slc) (w : World) (Q : Ending → World → Prop) (h : vc_sherdlaw11_ints a1 b2 w Q) : Calls PP F_sherdlaw11_ints #[(Slc.v a1), (Slc.v b2)] w Q := by
 unfold vc_sherdlaw11_ints at h
 refine enter (n := 26) (l := [(Slc.v a1), (Slc.v b2)]) Tryd.func18 rfl rfl (Nat.le_of_ble_eq_true rfl) fun a H => ?_
 replace H : Has 26 [] a [(0, (Slc.v a1)), (1, (Slc.v b2))] := H
 refine c_seq fun K3 hK3 => c_reg <| s_assign H rfl rfl (lt_ rfl) fun a H => c_nil <| hK3 _ _ <| c_seq fun K4 hK4 => c_seq fun K5 hK5 => c_reg <| s_move H rfl rfl (lt_ rfl) fun a H => s_blt H rfl (H.args (vs := [(Slc.v a1)]) rfl) (lt_ rfl) (fun cs => b_lenS (z := a1) sl_50) fun a H => s_move H rfl rfl (lt_ rfl) fun a H => s_blt H rfl (H.args (vs := [(Slc.v b2)]) rfl) (lt_ rfl) (fun cs => b_lenS (z := b2) sl_50) fun a H => s_bin H rfl rfl rfl r_neq (lt_ rfl) fun a H => c_nil <| hK5 _ _ ?_
 refine c_cond H rfl (fun hb6 => ?_) (fun hb6 => ?_)
 ·replace h := h.1 hb6
  refine c_seq fun K7 hK7 => c_reg <| s_assign H rfl rfl (lt_ rfl) fun a H => c_nil <| hK7 _ _ <| c_ret ?_
  exact e_ret1 H rfl rfl h
 ·replace h := h.2 hb6
  refine c_skip <| hK4 _ _ <| c_seq fun K8 hK8 => c_seq fun K9 hK9 => c_reg <| s_assign H rfl rfl (lt_ rfl) fun a H => c_nil <| hK9 _ _ <| c_block ?_
  obtain ⟨I12, mu13, h035, hl36⟩ := h
  refine c_loop (σ := Int) (fun z w => I12 z w) (fun z w => mu13 z w) (fun z => [(0, (Slc.v a1)), (1, (Slc.v b2)), (5, (.int .i64 z))]) 0 h035 (H.weaken ⟨rfl, rfl, rfl, trivial⟩) ?_
  clear H h035
  rintro i10 a w11 h H
  replace h := hl36 i10 w11 h
  clear hl36
  replace H : Has 26 [] a [(0, (Slc.v a1)), (1, (Slc.v b2)), (5, (.int .i64 i10))] := H
  refine c_seq fun K14 hK14 => c_seq fun K15 hK15 => c_reg <| s_move H rfl rfl (lt_ rfl) fun a H => s_move H rfl rfl (lt_ rfl) fun a H => s_blt H rfl (H.args (vs := [(Slc.v a1)]) rfl) (lt_ rfl) (fun cs => b_lenS (z := a1) sl_50) fun a H => s_bin H rfl rfl rfl r_lss (lt_ rfl) fun a H => c_nil <| hK15 _ _ <| c_cond H rfl (fun hb16 => ?_) (fun hb16 => ?_)
  ·replace h := h.1 hb16
   refine c_skip <| hK14 _ _ <| c_seq fun K17 hK17 => c_block <| c_seq fun K18 hK18 => c_regD mixed (by kernel_rfl) <| z_move H rfl rfl (lt_ rfl) fun a H => z_move H rfl rfl (lt_ rfl) fun a H => ?_
   obtain ⟨a20, hi21, hi22, hi23, h⟩ := h
   refine z_idxS (s := a1) H rfl rfl rfl slc_50 hi21 hi22 hi23 (lt_ rfl) fun a H => ?_
   obtain ⟨l24, hc25, h⟩ := h
   refine z_load (v := (.int .i64 l24)) H rfl rfl one_3 hc25 (lt_ rfl) fun a H => z_move H rfl rfl (lt_ rfl) fun a H => z_move H rfl rfl (lt_ rfl) fun a H => ?_
   obtain ⟨a26, hi27, hi28, hi29, h⟩ := h
   refine z_idxS (s := b2) H rfl rfl rfl slc_50 hi27 hi28 hi29 (lt_ rfl) fun a H => ?_
   obtain ⟨l30, hc31, h⟩ := h
   refine z_load (v := (.int .i64 l30)) H rfl rfl one_3 hc31 (lt_ rfl) fun a H => z_bin H rfl rfl rfl r_neq (lt_ rfl) fun a H => wpQuiet_nil ?_
   rintro _ ⟨k19, rfl⟩
   replace h := h k19
   refine hK18 _ _ <| c_cond H rfl (fun hb32 => ?_) (fun hb32 => ?_)
   ·replace h := h.1 hb32
    refine c_seq fun K33 hK33 => c_reg <| s_assign H rfl rfl (lt_ rfl) fun a H => c_nil <| hK33 _ _ <| c_ret ?_
    exact e_ret1 H rfl rfl h
   ·replace h := h.2 hb32
    refine c_skip <| hK17 _ _ <| c_reg <| s_move H rfl rfl (lt_ rfl) fun a H => s_bin H rfl rfl rfl r_add (lt_ rfl) fun a H => s_assign H rfl rfl (lt_ rfl) fun a H => c_nil <| Exists.intro (wr .i64 (i10 + 1)) ⟨h.1, h.2, H.weaken ⟨rfl, rfl, rfl, trivial⟩⟩
  ·replace h := h.2 hb16
   refine c_exit ?_
   first | (simp only [Exit.then, Exit.inBlock, ↓reduceIte]; fail_if_success simp only [Nat.reduceEqDiff]) | simp only [Exit.then, Exit.inBlock, ↓reduceIte, Nat.reduceEqDiff]
   refine hK8 _ _ <| c_seq fun K34 hK34 => c_reg <| s_assign H rfl rfl (lt_ rfl) fun a H => c_nil <| hK34 _ _ <| c_ret ?_
   exact e_ret1 H rfl rfl h

set_option maxRecDepth 100000 in
set_option maxHeartbeats 4000000 in
theorem sim_record_Writer_Put (w1 : Option Addr) (Kind2 : Int) (Key3 : ByteArray) (Count4 : Int) (Clien5 : Int) (Fin6 : Bool) (Has7 : Bool) (Data8 : Slc) (w : World) (Q : Ending → World → Prop) (h : vc_record_Writer_Put w1 Kind2 Key3 Count4 Clien5 Fin6 Has7 Data8 w Q) : Calls PP F_record_Writer_Put #[(.pointer w1), (.agg #[(.int .i64 Kind2), (.string Key3), (.int .i64 Count4), (.int .i64 Clien5), (.bool Fin6), (.bool Has7), (Slc.v Data8)])] w Q := by
 unfold vc_record_Writer_Put at h
 refine enter (n := 50) (l := [(.pointer w1), (.agg #[(.int .i64 Kind2), (.string Key3), (.int .i64 Count4), (.int .i64 Clien5), (.bool Fin6), (.bool Has7), (Slc.v Data8)])]) Tryd.func19 rfl rfl (Nat.le_of_ble_eq_true rfl) fun a H => ?_
 replace H : Has 50 [] a [(0, (.pointer w1)), (1, (.agg #[(.int .i64 Kind2), (.string Key3), (.int .i64 Count4), (.int .i64 Clien5), (.bool Fin6), (.bool Has7), (Slc.v Data8)]))] := H
 refine c_seq fun K9 hK9 => c_reg ?_
 replace h := h.get
 obtain ⟨b10, w11, nb12, h⟩ := h
 refine s_box H rfl rfl (lt_ rfl) ?_
 rw [← nb12.at_]
 clear H a
 intro a H
 refine nb12.go <| s_assign H rfl rfl (lt_ rfl) fun a H => s_assign H rfl rfl (lt_ rfl) fun a H => c_nil <| hK9 _ _ <| c_seq fun K13 hK13 => c_seq fun K14 hK14 => c_reg <| s_move H rfl rfl (lt_ rfl) fun a H => s_bin H rfl rfl rfl (r_eqP0 ptr_32) (lt_ rfl) fun a H => c_nil <| hK14 _ _ <| c_cond H rfl (fun hb15 => ?_) (fun hb15 => ?_)
 ·replace h := h.1 hb15
  refine c_seq fun K16 hK16 => c_reg <| s_assign H rfl rfl (lt_ rfl) fun a H => s_assign H rfl rfl (lt_ rfl) fun a H => c_nil <| hK16 _ _ <| c_ret ?_
  exact e_ret2 H rfl rfl rfl h
 ·replace h := h.2 hb15
  refine c_skip <| hK13 _ _ <| c_seq fun K17 hK17 => c_seq fun K18 hK18 => c_reg <| s_loadN (l := [(.int .i64 Kind2), (.string Key3), (.int .i64 Count4), (.int .i64 Clien5), (.bool Fin6), (.bool Has7), (Slc.v Data8)]) H rfl rfl agg_45 rfl ⟨(nb12.cell (i := 0) rfl), (nb12.cell (i := 1) rfl), (nb12.cell (i := 2) rfl), (nb12.cell (i := 3) rfl), (nb12.cell (i := 4) rfl), (nb12.cell (i := 5) rfl), (nb12.cell (i := 6) rfl), trivial⟩ (lt_ rfl) fun a H => ?_
  refine s_call H rfl body_36 (H.args (vs := [(.agg #[(.int .i64 Kind2), (.string Key3), (.int .i64 Count4), (.int .i64 Clien5), (.bool Fin6), (.bool Has7), (Slc.v Data8)])]) rfl) (lt_ rfl) h ?_ (fun c w' h H => e_panic (P := PP) (fn := Tryd.f19) H h)
  clear H h a
  rintro _ w19 a ⟨may20, rfl, h⟩ H
  refine s_assign H rfl rfl (lt_ rfl) fun a H => c_nil <| hK18 _ _ <| c_seq fun K21 hK21 => c_reg <| s_move H rfl rfl (lt_ rfl) fun a H => s_bin H rfl rfl rfl r_neq (lt_ rfl) fun a H => c_nil <| hK21 _ _ <| c_cond H rfl (fun hb22 => ?_) (fun hb22 => ?_)
  ·replace h := h.1 hb22
   refine c_seq fun K23 hK23 => c_reg <| s_move H rfl rfl (lt_ rfl) fun a H => s_assign H rfl rfl (lt_ rfl) fun a H => s_assign H rfl rfl (lt_ rfl) fun a H => c_nil <| hK23 _ _ <| c_ret ?_
   exact e_ret2 H rfl rfl rfl h
  ·replace h := h.2 hb22
   refine c_skip <| hK17 _ _ <| c_seq fun K24 hK24 => c_reg <| s_call H rfl body_37 (H.args (vs := []) rfl) (lt_ rfl) h ?_ (fun c w' h H => e_panic (P := PP) (fn := Tryd.f19) H h)
   clear H h a
   rintro _ w25 a ⟨NewWr26, rfl, h⟩ H
   refine s_assign H rfl rfl (lt_ rfl) fun a H => c_nil <| hK24 _ _ <| c_seq fun K27 hK27 => c_reg <| s_move H rfl rfl (lt_ rfl) fun a H => s_call H rfl body_38 (H.args (vs := [(.pointer NewWr26), (.int .u8 82)]) rfl) (lt_ rfl) h ?_ (fun c w' h H => e_panic (P := PP) (fn := Tryd.f19) H h)
   clear H h a
   rintro _ w28 a ⟨rfl, h⟩ H
   refine c_nil <| hK27 _ _ <| c_seq fun K29 hK29 => c_reg <| s_move H rfl rfl (lt_ rfl) fun a H => ?_
   obtain ⟨Kind30, hc31, h⟩ := h
   obtain ⟨Key32, hc33, h⟩ := h
   obtain ⟨Count34, hc35, h⟩ := h
   obtain ⟨Clien36, hc37, h⟩ := h
   obtain ⟨Fin38, hc39, h⟩ := h
   obtain ⟨Has40, hc41, h⟩ := h
   obtain ⟨Data42, hc43, h⟩ := h
   refine s_loadN (l := [(.int .i64 Kind30), (.string Key32), (.int .i64 Count34), (.int .i64 Clien36), (.bool Fin38), (.bool Has40), (Slc.v Data42)]) H rfl rfl agg_45 rfl ⟨hc31, hc33, hc35, hc37, hc39, hc41, hc43, trivial⟩ (lt_ rfl) fun a H => ?_
   refine s_call H rfl body_40 (H.args (vs := [(.agg #[(.int .i64 Kind30), (.string Key32), (.int .i64 Count34), (.int .i64 Clien36), (.bool Fin38), (.bool Has40), (Slc.v Data42)])]) rfl) (lt_ rfl) h ?_ (fun c w' h H => e_panic (P := PP) (fn := Tryd.f19) H h)
   clear H h a
   rintro _ w44 a ⟨body45, rfl, h⟩ H
   refine s_call H rfl body_39 (H.args (vs := [(.pointer NewWr26), (Slc.v body45)]) rfl) (lt_ rfl) h ?_ (fun c w' h H => e_panic (P := PP) (fn := Tryd.f19) H h)
   clear H h a
   rintro _ w46 a ⟨rfl, h⟩ H
   refine c_nil <| hK29 _ _ <| c_seq fun K47 hK47 => c_reg <| s_move H rfl rfl (lt_ rfl) fun a H => s_call H rfl body_41 (H.args (vs := [(.pointer NewWr26)]) rfl) (lt_ rfl) h ?_ (fun c w' h H => e_panic (P := PP) (fn := Tryd.f19) H h)
   clear H h a
   rintro _ w48 a ⟨Data49, rfl, h⟩ H
   refine s_assign H rfl rfl (lt_ rfl) fun a H => c_nil <| hK47 _ _ <| c_seq fun K50 hK50 => c_reg <| s_move H rfl rfl (lt_ rfl) fun a H => s_move H rfl rfl (lt_ rfl) fun a H => ?_
   obtain ⟨a51, hq90, h⟩ := h
   subst hq90
   refine s_nil H rfl rfl (lt_ rfl) fun a H => s_fld H rfl rfl fld_71_0 (lt_ rfl) fun a H => ?_
   obtain ⟨l52, hc53, h⟩ := h
   refine s_load (v := (Slc.v l52)) H rfl rfl one_28 hc53 (lt_ rfl) fun a H => s_move H rfl rfl (lt_ rfl) fun a H => ?_
   replace h := h.get
   obtain ⟨b54, w55, nb56, h⟩ := h
   refine s_bslc H rfl (by rw [H.parts (vs := [(0, (Slc.v l52)), (1, (Slc.v Data49))]) rfl]; exact bs_37_2_s0_s1 w48 l52 Data49) (lt_ rfl) ?_
   rw [← nb56.at_]
   clear H a
   intro a H
   refine nb56.go <| s_call H rfl body_43 (H.args (vs := [(Slc.v (Slc.mk (some (blk b54)) 2 2))]) rfl) (lt_ rfl) h ?_ (fun c w' h H => e_panic (P := PP) (fn := Tryd.f19) H h)
   clear H h a
   rintro _ w57 a ⟨Of58, rfl, h⟩ H
   refine s_call H rfl body_42 (H.args (vs := [(.int .u32 Of58)]) rfl) (lt_ rfl) h ?_ (fun c w' h H => e_panic (P := PP) (fn := Tryd.f19) H h)
   clear H h a
   rintro _ w59 a ⟨four60, rfl, h⟩ H
   refine s_nil H rfl rfl (lt_ rfl) fun a H => s_fld H rfl rfl fld_71_0 (lt_ rfl) fun a H => ?_
   obtain ⟨hs62, hf63, h⟩ := h
   refine s_sto (p := a51.add 0) (v := (Slc.v four60)) H rfl rfl rfl rfl one_28 rfl hs62 hf63 ?_
   clear H
   intro H
   generalize hww61 : World.setCell w59 (a51.add 0) (Slc.v four60) = w61 at h ⊢
   have w61S : SetAt w59 (a51.add 0) (Slc.v four60) w61 := ⟨hww61.symm⟩
   clear hww61 hs62 hf63
   refine c_nil <| hK50 _ _ <| c_seq fun K64 hK64 => c_reg <| s_move H rfl rfl (lt_ rfl) fun a H => s_nil H rfl rfl (lt_ rfl) fun a H => s_fld H rfl rfl fld_71_1 (lt_ rfl) fun a H => ?_
   obtain ⟨l65, hc66, h⟩ := h
   refine s_load (v := (.int .i64 l65)) H rfl rfl one_3 hc66 (lt_ rfl) fun a H => s_bin H rfl rfl rfl r_add (lt_ rfl) fun a H => s_nil H rfl rfl (lt_ rfl) fun a H => s_fld H rfl rfl fld_71_1 (lt_ rfl) fun a H => ?_
   obtain ⟨hs68, hf69, h⟩ := h
   refine s_sto (p := a51.add 1) (v := (.int .i64 (wr .i64 (l65 + 1)))) H rfl rfl rfl rfl one_3 rfl hs68 hf69 ?_
   clear H
   intro H
   generalize hww67 : World.setCell w61 (a51.add 1) (.int .i64 (wr .i64 (l65 + 1))) = w67 at h ⊢
   have w67S : SetAt w61 (a51.add 1) (.int .i64 (wr .i64 (l65 + 1))) w67 := ⟨hww67.symm⟩
   clear hww67 hs68 hf69
   refine c_nil <| hK64 _ _ <| c_seq fun K70 hK70 => c_reg <| s_move H rfl rfl (lt_ rfl) fun a H => s_move H rfl rfl (lt_ rfl) fun a H => s_nil H rfl rfl (lt_ rfl) fun a H => s_fld H rfl rfl fld_71_0 (lt_ rfl) fun a H => ?_
   obtain ⟨l71, hc72, h⟩ := h
   refine s_load (v := (Slc.v l71)) H rfl rfl one_28 hc72 (lt_ rfl) fun a H => ?_
   replace h := h.get
   obtain ⟨b73, w74, nb75, h⟩ := h
   refine s_bslc H rfl (by rw [H.parts (vs := [(0, (Slc.v Data49)), (1, (Slc.v l71))]) rfl]; exact bs_37_2_s0_s1 w67 Data49 l71) (lt_ rfl) ?_
   rw [← nb75.at_]
   clear H a
   intro a H
   refine nb75.go <| s_call H rfl body_44 (H.args (vs := [(Slc.v (Slc.mk (some (blk b73)) 2 2))]) rfl) (lt_ rfl) h ?_ (fun c w' h H => e_panic (P := PP) (fn := Tryd.f19) H h)
   clear H h a
   rintro _ w76 a ⟨Conca77, rfl, h⟩ H
   refine s_assign H rfl rfl (lt_ rfl) fun a H => s_assign H rfl rfl (lt_ rfl) fun a H => c_nil <| hK70 _ _ <| c_ret ?_
   exact e_ret2 H rfl rfl rfl h

set_option maxRecDepth 100000 in
set_option maxHeartbeats 4000000 in
theorem sim_record_Writer_Count (w1 : Option Addr) (w : World) (Q : Ending → World → Prop) (h : vc_record_Writer_Count w1 w Q) : Calls PP F_record_Writer_Count #[(.pointer w1)] w Q := by
 unfold vc_record_Writer_Count at h
 refine enter (n := 9) (l := [(.pointer w1)]) Tryd.func20 rfl rfl (Nat.le_of_ble_eq_true rfl) fun a H => ?_
 replace H : Has 9 [] a [(0, (.pointer w1))] := H
 refine c_seq fun K2 hK2 => c_reg <| s_assign H rfl rfl (lt_ rfl) fun a H => c_nil <| hK2 _ _ <| c_seq fun K3 hK3 => c_seq fun K4 hK4 => c_reg <| s_move H rfl rfl (lt_ rfl) fun a H => s_bin H rfl rfl rfl (r_eqP0 ptr_32) (lt_ rfl) fun a H => c_nil <| hK4 _ _ <| c_cond H rfl (fun hb5 => ?_) (fun hb5 => ?_)
 ·replace h := h.1 hb5
  refine c_seq fun K6 hK6 => c_reg <| s_assign H rfl rfl (lt_ rfl) fun a H => c_nil <| hK6 _ _ <| c_ret ?_
  exact e_ret1 H rfl rfl h
 ·replace h := h.2 hb5
  refine c_skip <| hK3 _ _ <| c_seq fun K7 hK7 => c_reg <| s_move H rfl rfl (lt_ rfl) fun a H => ?_
  obtain ⟨a8, hq11, h⟩ := h
  subst hq11
  refine s_nil H rfl rfl (lt_ rfl) fun a H => s_fld H rfl rfl fld_71_1 (lt_ rfl) fun a H => ?_
  obtain ⟨l9, hc10, h⟩ := h
  refine s_load (v := (.int .i64 l9)) H rfl rfl one_3 hc10 (lt_ rfl) fun a H => s_assign H rfl rfl (lt_ rfl) fun a H => c_nil <| hK7 _ _ <| c_ret ?_
  exact e_ret1 H rfl rfl h

set_option maxRecDepth 100000 in
set_option maxHeartbeats 4000000 in
theorem sim_sherdref11_CheckHead (N1 : Int) (K2 : Int) (Delta3 : Int) (Serve4 : Int) (w : World) (Q : Ending → World → Prop) (h : vc_sherdref11_CheckHead N1 K2 Delta3 Serve4 w Q) : Calls PP F_sherdref11_CheckHead #[(.agg #[(.int .i64 N1), (.int .i64 K2), (.int .i64 Delta3), (.int .i64 Serve4)])] w Q := by
 unfold vc_sherdref11_CheckHead at h
 refine enter (n := 21) (l := [(.agg #[(.int .i64 N1), (.int .i64 K2), (.int .i64 Delta3), (.int .i64 Serve4)])]) Tryd.func21 rfl rfl (Nat.le_of_ble_eq_true rfl) fun a H => ?_
 replace H : Has 21 [] a [(0, (.agg #[(.int .i64 N1), (.int .i64 K2), (.int .i64 Delta3), (.int .i64 Serve4)]))] := H
 refine c_seq fun K5 hK5 => c_reg ?_
 replace h := h.get
 obtain ⟨b6, w7, nb8, h⟩ := h
 refine s_box H rfl rfl (lt_ rfl) ?_
 rw [← nb8.at_]
 clear H a
 intro a H
 refine nb8.go <| s_assign H rfl rfl (lt_ rfl) fun a H => c_nil <| hK5 _ _ <| c_seq fun K9 hK9 => c_reg <| s_fld H rfl rfl fld_25_0 (lt_ rfl) fun a H => s_loadN (l := [(.int .i64 N1), (.int .i64 K2), (.int .i64 Delta3)]) H rfl rfl agg_23 rfl ⟨(nb8.cell (i := 0) rfl), (nb8.cell (i := 1) rfl), (nb8.cell (i := 2) rfl), trivial⟩ (lt_ rfl) fun a H => ?_
 refine s_call H rfl body_45 (H.args (vs := [(.agg #[(.int .i64 N1), (.int .i64 K2), (.int .i64 Delta3)])]) rfl) (lt_ rfl) h ?_ (fun c w' h H => e_panic (P := PP) (fn := Tryd.f21) H h)
 clear H h a
 rintro _ w10 a ⟨Check11, rfl, h⟩ H
 refine s_assign H rfl rfl (lt_ rfl) fun a H => c_nil <| hK9 _ _ <| c_seq fun K12 hK12 => c_seq fun K13 hK13 => c_reg <| s_move H rfl rfl (lt_ rfl) fun a H => s_bin H rfl rfl rfl r_neq (lt_ rfl) fun a H => c_nil <| hK13 _ _ <| c_cond H rfl (fun hb14 => ?_) (fun hb14 => ?_)
 ·replace h := h.1 hb14
  refine c_seq fun K15 hK15 => c_reg <| s_move H rfl rfl (lt_ rfl) fun a H => s_assign H rfl rfl (lt_ rfl) fun a H => c_nil <| hK15 _ _ <| c_ret ?_
  exact e_ret1 H rfl rfl h
 ·replace h := h.2 hb14
  refine c_skip <| hK12 _ _ <| c_seq fun K16 hK16 => c_seq fun K17 hK17 => c_reg <| s_fld H rfl rfl fld_25_1 (lt_ rfl) fun a H => ?_
  obtain ⟨l18, hc19, h⟩ := h
  refine s_load (v := (.int .i64 l18)) H rfl rfl one_3 hc19 (lt_ rfl) fun a H => s_bin H rfl rfl rfl r_lss (lt_ rfl) fun a H => s_move H rfl rfl (lt_ rfl) fun a H => ?_
  obtain ⟨x26, hy27, hn28, h⟩ := h
  refine g_join (n := 21) [(20, (.bool x26))] (.succ (.succ (.succ (.succ (.succ (.succ (.succ (.zero _)))))))) ?_ ?_
  ·intro hr21
   try clear h
   rcases Bool.eq_false_or_eq_true (decide (l18 < 0)) with hg20 | hg20
   ·replace H := H.ch (t := 13) (b := true) rfl hg20
    iterate 6 refine s_skip H (wantN H rfl rfl rfl) rfl (lt_ rfl) fun a H => ?_
    refine s_pickT H rfl rfl rfl (lt_ rfl) fun a H => ?_
    replace h := hn28 hg20
    subst h
    exact hr21 _ (H.weaken ⟨rfl, trivial⟩)
   ·replace H := H.ch (t := 13) (b := false) rfl hg20
    replace h := hy27 hg20
    refine s_fld H (wantG H rfl rfl) rfl fld_25_1 (lt_ rfl) fun a H => ?_
    obtain ⟨l22, hc23, h⟩ := h
    refine s_load (v := (.int .i64 l22)) H (wantG H rfl rfl) rfl one_3 hc23 (lt_ rfl) fun a H => s_fld H (wantG H rfl rfl) rfl fld_25_0 (lt_ rfl) fun a H => s_fld H (wantG H rfl rfl) rfl fld_23_0 (lt_ rfl) fun a H => ?_
    obtain ⟨l24, hc25, h⟩ := h
    refine s_load (v := (.int .i64 l24)) H (wantG H rfl rfl) rfl one_3 hc25 (lt_ rfl) fun a H => s_bin H (wantG H rfl rfl) rfl rfl r_geq (lt_ rfl) fun a H => s_pickF H rfl rfl rfl (lt_ rfl) fun a H => ?_
    subst h
    exact hr21 _ (H.weaken ⟨rfl, trivial⟩)
  ·clear H a
   clear hy27 hn28
   intro a H
   refine c_nil <| hK17 _ _ <| c_cond H rfl (fun hb29 => ?_) (fun hb29 => ?_)
   ·replace h := h.1 hb29
    refine c_seq fun K30 hK30 => c_reg <| s_assign H rfl rfl (lt_ rfl) fun a H => c_nil <| hK30 _ _ <| c_ret ?_
    exact e_ret1 H rfl rfl h
   ·replace h := h.2 hb29
    refine c_skip <| hK16 _ _ <| c_seq fun K31 hK31 => c_reg <| s_assign H rfl rfl (lt_ rfl) fun a H => c_nil <| hK31 _ _ <| c_ret ?_
    exact e_ret1 H rfl rfl h

set_option maxRecDepth 100000 in
set_option maxHeartbeats 4000000 in
theorem sim_sherdref11_headBytes (N1 : Int) (K2 : Int) (Delta3 : Int) (Serve4 : Int) (w : World) (Q : Ending → World → Prop) (h : vc_sherdref11_headBytes N1 K2 Delta3 Serve4 w Q) : Calls PP F_sherdref11_headBytes #[(.agg #[(.int .i64 N1), (.int .i64 K2), (.int .i64 Delta3), (.int .i64 Serve4)])] w Q := by
 unfold vc_sherdref11_headBytes at h
 refine enter (n := 33) (l := [(.agg #[(.int .i64 N1), (.int .i64 K2), (.int .i64 Delta3), (.int .i64 Serve4)])]) Tryd.func22 rfl rfl (Nat.le_of_ble_eq_true rfl) fun a H => ?_
 replace H : Has 33 [] a [(0, (.agg #[(.int .i64 N1), (.int .i64 K2), (.int .i64 Delta3), (.int .i64 Serve4)]))] := H
 refine c_seq fun K5 hK5 => c_reg ?_
 replace h := h.get
 obtain ⟨b6, w7, nb8, h⟩ := h
 refine s_box H rfl rfl (lt_ rfl) ?_
 rw [← nb8.at_]
 clear H a
 intro a H
 refine nb8.go <| s_assign H rfl rfl (lt_ rfl) fun a H => c_nil <| hK5 _ _ <| c_seq fun K9 hK9 => c_reg <| s_call H rfl body_46 (H.args (vs := []) rfl) (lt_ rfl) h ?_ (fun c w' h H => e_panic (P := PP) (fn := Tryd.f22) H h)
 clear H h a
 rintro _ w10 a ⟨NewWr11, rfl, h⟩ H
 refine s_assign H rfl rfl (lt_ rfl) fun a H => c_nil <| hK9 _ _ <| c_seq fun K12 hK12 => c_reg <| s_move H rfl rfl (lt_ rfl) fun a H => s_call H rfl body_47 (H.args (vs := [(.pointer NewWr11), (.int .u8 72)]) rfl) (lt_ rfl) h ?_ (fun c w' h H => e_panic (P := PP) (fn := Tryd.f22) H h)
 clear H h a
 rintro _ w13 a ⟨rfl, h⟩ H
 refine c_nil <| hK12 _ _ <| c_seq fun K14 hK14 => c_reg <| s_move H rfl rfl (lt_ rfl) fun a H => s_fld H rfl rfl fld_25_0 (lt_ rfl) fun a H => s_fld H rfl rfl fld_23_0 (lt_ rfl) fun a H => ?_
 obtain ⟨l15, hc16, h⟩ := h
 refine s_load (v := (.int .i64 l15)) H rfl rfl one_3 hc16 (lt_ rfl) fun a H => s_call H rfl body_48 (H.args (vs := [(.pointer NewWr11), (.int .i64 l15)]) rfl) (lt_ rfl) h ?_ (fun c w' h H => e_panic (P := PP) (fn := Tryd.f22) H h)
 clear H h a
 rintro _ w17 a ⟨rfl, h⟩ H
 refine c_nil <| hK14 _ _ <| c_seq fun K18 hK18 => c_reg <| s_move H rfl rfl (lt_ rfl) fun a H => s_fld H rfl rfl fld_25_0 (lt_ rfl) fun a H => s_fld H rfl rfl fld_23_1 (lt_ rfl) fun a H => ?_
 obtain ⟨l19, hc20, h⟩ := h
 refine s_load (v := (.int .i64 l19)) H rfl rfl one_3 hc20 (lt_ rfl) fun a H => s_call H rfl body_48 (H.args (vs := [(.pointer NewWr11), (.int .i64 l19)]) rfl) (lt_ rfl) h ?_ (fun c w' h H => e_panic (P := PP) (fn := Tryd.f22) H h)
 clear H h a
 rintro _ w21 a ⟨rfl, h⟩ H
 refine c_nil <| hK18 _ _ <| c_seq fun K22 hK22 => c_reg <| s_move H rfl rfl (lt_ rfl) fun a H => s_fld H rfl rfl fld_25_0 (lt_ rfl) fun a H => s_fld H rfl rfl fld_23_2 (lt_ rfl) fun a H => ?_
 obtain ⟨l23, hc24, h⟩ := h
 refine s_load (v := (.int .i64 l23)) H rfl rfl one_3 hc24 (lt_ rfl) fun a H => s_call H rfl body_48 (H.args (vs := [(.pointer NewWr11), (.int .i64 l23)]) rfl) (lt_ rfl) h ?_ (fun c w' h H => e_panic (P := PP) (fn := Tryd.f22) H h)
 clear H h a
 rintro _ w25 a ⟨rfl, h⟩ H
 refine c_nil <| hK22 _ _ <| c_seq fun K26 hK26 => c_reg <| s_move H rfl rfl (lt_ rfl) fun a H => s_fld H rfl rfl fld_25_1 (lt_ rfl) fun a H => ?_
 obtain ⟨l27, hc28, h⟩ := h
 refine s_load (v := (.int .i64 l27)) H rfl rfl one_3 hc28 (lt_ rfl) fun a H => s_call H rfl body_48 (H.args (vs := [(.pointer NewWr11), (.int .i64 l27)]) rfl) (lt_ rfl) h ?_ (fun c w' h H => e_panic (P := PP) (fn := Tryd.f22) H h)
 clear H h a
 rintro _ w29 a ⟨rfl, h⟩ H
 refine c_nil <| hK26 _ _ <| c_seq fun K30 hK30 => c_reg <| s_move H rfl rfl (lt_ rfl) fun a H => s_call H rfl body_49 (H.args (vs := [(.pointer NewWr11)]) rfl) (lt_ rfl) h ?_ (fun c w' h H => e_panic (P := PP) (fn := Tryd.f22) H h)
 clear H h a
 rintro _ w31 a ⟨Data32, rfl, h⟩ H
 refine s_assign H rfl rfl (lt_ rfl) fun a H => c_nil <| hK30 _ _ <| c_seq fun K33 hK33 => c_reg <| s_move H rfl rfl (lt_ rfl) fun a H => s_move H rfl rfl (lt_ rfl) fun a H => s_call H rfl body_50 (H.args (vs := [(Slc.v Slc.nil), (Slc.v Data32)]) rfl) (lt_ rfl) h ?_ (fun c w' h H => e_panic (P := PP) (fn := Tryd.f22) H h)
 clear H h a
 rintro _ w34 a ⟨Summe35, rfl, h⟩ H
 obtain ⟨s36, w37, hq38, h⟩ := h
 refine s_blt H rfl (H.args (vs := [(Slc.v Data32), (Slc.v Summe35)]) rfl) (lt_ rfl) (fun cs => b_app (z := s36) hq38) ?_
 clear H a hq38
 intro a H
 refine s_assign H rfl rfl (lt_ rfl) fun a H => c_nil <| hK33 _ _ <| c_ret ?_
 exact e_ret1 H rfl rfl h

set_option maxRecDepth 100000 in
set_option maxHeartbeats 4000000 in
theorem sim_record_mayHead (N1 : Int) (K2 : Int) (Delta3 : Int) (Serve4 : Int) (w : World) (Q : Ending → World → Prop) (h : vc_record_mayHead N1 K2 Delta3 Serve4 w Q) : Calls PP F_record_mayHead #[(.agg #[(.int .i64 N1), (.int .i64 K2), (.int .i64 Delta3), (.int .i64 Serve4)])] w Q := by
 unfold vc_record_mayHead at h
 refine enter (n := 21) (l := [(.agg #[(.int .i64 N1), (.int .i64 K2), (.int .i64 Delta3), (.int .i64 Serve4)])]) Tryd.func23 rfl rfl (Nat.le_of_ble_eq_true rfl) fun a H => ?_
 replace H : Has 21 [] a [(0, (.agg #[(.int .i64 N1), (.int .i64 K2), (.int .i64 Delta3), (.int .i64 Serve4)]))] := H
 refine c_seq fun K5 hK5 => c_reg ?_
 replace h := h.get
 obtain ⟨b6, w7, nb8, h⟩ := h
 refine s_box H rfl rfl (lt_ rfl) ?_
 rw [← nb8.at_]
 clear H a
 intro a H
 refine nb8.go <| s_assign H rfl rfl (lt_ rfl) fun a H => c_nil <| hK5 _ _ <| c_seq fun K9 hK9 => c_seq fun K10 hK10 => c_reg <| s_fld H rfl rfl fld_25_0 (lt_ rfl) fun a H => s_loadN (l := [(.int .i64 N1), (.int .i64 K2), (.int .i64 Delta3)]) H rfl rfl agg_23 rfl ⟨(nb8.cell (i := 0) rfl), (nb8.cell (i := 1) rfl), (nb8.cell (i := 2) rfl), trivial⟩ (lt_ rfl) fun a H => ?_
 refine s_call H rfl body_51 (H.args (vs := [(.agg #[(.int .i64 N1), (.int .i64 K2), (.int .i64 Delta3)])]) rfl) (lt_ rfl) h ?_ (fun c w' h H => e_panic (P := PP) (fn := Tryd.f23) H h)
 clear H h a
 rintro _ w11 a ⟨Check12, rfl, h⟩ H
 refine s_assign H rfl rfl (lt_ rfl) fun a H => c_nil <| hK10 _ _ <| c_seq fun K13 hK13 => c_reg <| s_move H rfl rfl (lt_ rfl) fun a H => s_bin H rfl rfl rfl r_neq (lt_ rfl) fun a H => c_nil <| hK13 _ _ <| c_cond H rfl (fun hb14 => ?_) (fun hb14 => ?_)
 ·replace h := h.1 hb14
  refine c_seq fun K15 hK15 => c_reg <| s_move H rfl rfl (lt_ rfl) fun a H => s_assign H rfl rfl (lt_ rfl) fun a H => c_nil <| hK15 _ _ <| c_ret ?_
  exact e_ret1 H rfl rfl h
 ·replace h := h.2 hb14
  refine c_skip <| hK9 _ _ <| c_seq fun K16 hK16 => c_seq fun K17 hK17 => c_reg <| s_fld H rfl rfl fld_25_1 (lt_ rfl) fun a H => ?_
  obtain ⟨l18, hc19, h⟩ := h
  refine s_load (v := (.int .i64 l18)) H rfl rfl one_3 hc19 (lt_ rfl) fun a H => s_bin H rfl rfl rfl r_lss (lt_ rfl) fun a H => s_move H rfl rfl (lt_ rfl) fun a H => ?_
  obtain ⟨x26, hy27, hn28, h⟩ := h
  refine g_join (n := 21) [(20, (.bool x26))] (.succ (.succ (.succ (.succ (.succ (.succ (.succ (.zero _)))))))) ?_ ?_
  ·intro hr21
   try clear h
   rcases Bool.eq_false_or_eq_true (decide (l18 < 0)) with hg20 | hg20
   ·replace H := H.ch (t := 13) (b := true) rfl hg20
    iterate 6 refine s_skip H (wantN H rfl rfl rfl) rfl (lt_ rfl) fun a H => ?_
    refine s_pickT H rfl rfl rfl (lt_ rfl) fun a H => ?_
    replace h := hn28 hg20
    subst h
    exact hr21 _ (H.weaken ⟨rfl, trivial⟩)
   ·replace H := H.ch (t := 13) (b := false) rfl hg20
    replace h := hy27 hg20
    refine s_fld H (wantG H rfl rfl) rfl fld_25_1 (lt_ rfl) fun a H => ?_
    obtain ⟨l22, hc23, h⟩ := h
    refine s_load (v := (.int .i64 l22)) H (wantG H rfl rfl) rfl one_3 hc23 (lt_ rfl) fun a H => s_fld H (wantG H rfl rfl) rfl fld_25_0 (lt_ rfl) fun a H => s_fld H (wantG H rfl rfl) rfl fld_23_0 (lt_ rfl) fun a H => ?_
    obtain ⟨l24, hc25, h⟩ := h
    refine s_load (v := (.int .i64 l24)) H (wantG H rfl rfl) rfl one_3 hc25 (lt_ rfl) fun a H => s_bin H (wantG H rfl rfl) rfl rfl r_geq (lt_ rfl) fun a H => s_pickF H rfl rfl rfl (lt_ rfl) fun a H => ?_
    subst h
    exact hr21 _ (H.weaken ⟨rfl, trivial⟩)
  ·clear H a
   clear hy27 hn28
   intro a H
   refine c_nil <| hK17 _ _ <| c_cond H rfl (fun hb29 => ?_) (fun hb29 => ?_)
   ·replace h := h.1 hb29
    refine c_seq fun K30 hK30 => c_reg <| s_assign H rfl rfl (lt_ rfl) fun a H => c_nil <| hK30 _ _ <| c_ret ?_
    exact e_ret1 H rfl rfl h
   ·replace h := h.2 hb29
    refine c_skip <| hK16 _ _ <| c_seq fun K31 hK31 => c_reg <| s_assign H rfl rfl (lt_ rfl) fun a H => c_nil <| hK31 _ _ <| c_ret ?_
    exact e_ret1 H rfl rfl h
end Go.Proofs.YtnhgnfflihoaiaaDoor
