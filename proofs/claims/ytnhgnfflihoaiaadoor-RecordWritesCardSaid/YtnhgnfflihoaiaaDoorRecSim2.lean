/-
  The conditions give the machine's calls; printed by vcgen.py.
-/
import Derived.Test.YtnhgnfflihoaiaaDoorRecVc
namespace Go.Proofs.YtnhgnfflihoaiaaDoor
open Go Go.Vc
set_option maxRecDepth 100000 in
set_option maxHeartbeats 4000000 in
theorem sim_sherdlaw11_silent (w : World) (Q : Ending → World → Prop) (h : vc_sherdlaw11_silent w Q) : Calls PP F_sherdlaw11_silent #[] w Q := by
  unfold vc_sherdlaw11_silent at h
  refine enter (n := 22) (l := []) Tryd.func11 rfl rfl (Nat.le_of_ble_eq_true rfl) fun a H => ?_
  replace H : Has 22 [] a [] := H
  refine c_seq fun K1 hK1 => ?_
  refine c_reg ?_
  refine s_assign H rfl rfl (lt_ rfl) ?_
  clear H a
  intro a H
  refine c_nil ?_
  refine hK1 _ _ ?_
  refine c_seq fun K2 hK2 => ?_
  refine c_reg ?_
  refine s_assign H rfl rfl (lt_ rfl) ?_
  clear H a
  intro a H
  refine c_nil ?_
  refine hK2 _ _ ?_
  refine c_seq fun K3 hK3 => ?_
  refine c_reg ?_
  refine s_move H rfl rfl (lt_ rfl) ?_
  clear H a
  intro a H
  refine s_build H rfl (by rw [H.parts (vs := [(0, (.int .i64 9))]) rfl]; exact bd_45_ii640 w 9) (lt_ rfl) ?_
  clear H a
  intro a H
  refine s_call H rfl body_19 (H.args (vs := [(.pointer none), (.agg #[(.int .i64 9), (.string ⟨#[]⟩), (.int .i64 0), (.int .i64 0), (.bool false), (.bool false), (Slc.v Slc.nil)])]) rfl) (lt_ rfl) h ?_ (fun c w' h H => e_panic (P := PP) (fn := Tryd.f11) H h)
  clear H h a
  rintro _ w4 a ⟨Putr5, Putr6, rfl, h⟩ H
  refine s_move H rfl rfl (lt_ rfl) ?_
  clear H a
  intro a H
  refine s_ext H rfl rfl rfl (lt_ rfl) ?_
  clear H a
  intro a H
  refine s_ext H rfl rfl rfl (lt_ rfl) ?_
  clear H a
  intro a H
  refine s_assign H rfl rfl (lt_ rfl) ?_
  clear H a
  intro a H
  refine s_assign H rfl rfl (lt_ rfl) ?_
  clear H a
  intro a H
  refine c_nil ?_
  refine hK3 _ _ ?_
  refine c_seq fun K7 hK7 => ?_
  refine c_reg ?_
  refine s_move H rfl rfl (lt_ rfl) ?_
  clear H a
  intro a H
  refine s_blt H rfl (H.args (vs := [(Slc.v Putr5)]) rfl) (lt_ rfl) (fun cs => b_lenS (z := Putr5) sl_28) ?_
  clear H a
  intro a H
  refine s_bin H rfl rfl rfl r_eql (lt_ rfl) ?_
  clear H a
  intro a H
  refine s_move H rfl rfl (lt_ rfl) ?_
  clear H a
  intro a H
  refine g_join (n := 22) [(16, (.bool ((decide ((Putr5.l : Int) = 0)) && (decide (Putr6 = 0))))), (1, (.pointer none))] (.succ (.succ (.succ (.zero _)))) ?_ ?_
  · intro hr9
    try clear h
    rcases Bool.eq_false_or_eq_true (decide ((Putr5.l : Int) = 0)) with hg8 | hg8
    · replace H := H.ch (t := 13) (b := true) rfl hg8
      refine s_move H (wantG H rfl rfl) rfl (lt_ rfl) ?_
      clear H a
      intro a H
      refine s_bin H (wantG H rfl rfl) rfl rfl r_eql (lt_ rfl) ?_
      clear H a
      intro a H
      refine s_pickT H rfl rfl rfl (lt_ rfl) ?_
      clear H a
      intro a H
      exact hr9 _ (H.weaken ⟨by rw [hg8]; rfl, rfl, trivial⟩)
    · replace H := H.ch (t := 13) (b := false) rfl hg8
      refine s_skip H (wantN H rfl rfl rfl) rfl (lt_ rfl) ?_
      clear H a
      intro a H
      refine s_skip H (wantN H rfl rfl rfl) rfl (lt_ rfl) ?_
      clear H a
      intro a H
      refine s_pickF H rfl rfl rfl (lt_ rfl) ?_
      clear H a
      intro a H
      exact hr9 _ (H.weaken ⟨by rw [hg8]; rfl, rfl, trivial⟩)
  · clear H a
    intro a H
    refine s_move H rfl rfl (lt_ rfl) ?_
    clear H a
    intro a H
    obtain ⟨R12, h, hx21⟩ := h
    refine g_joinW (n := 22) R12 (fun x13 => [(21, (.bool x13))]) (.succ (.succ (.succ (.succ (.zero _))))) ?_ ?_
    · intro hr11
      clear hx21
      rcases Bool.eq_false_or_eq_true ((decide ((Putr5.l : Int) = 0)) && (decide (Putr6 = 0))) with hg10 | hg10
      · replace H := H.ch (t := 17) (b := true) rfl hg10
        replace h := h.1 hg10
        refine s_move H (wantG H rfl rfl) rfl (lt_ rfl) ?_
        clear H a
        intro a H
        refine s_call H (wantG H rfl rfl) body_20 (H.args (vs := [(.pointer none)]) rfl) (lt_ rfl) h ?_ (fun c w' h H => e_panic (P := PP) (fn := Tryd.f11) H h)
        clear H h a
        rintro _ w15 a ⟨Count16, rfl, h⟩ H
        refine s_bin H (wantG H rfl rfl) rfl rfl r_eql (lt_ rfl) ?_
        clear H a
        intro a H
        refine s_pickT H rfl rfl rfl (lt_ rfl) ?_
        clear H a
        intro a H
        exact hr11 _ _ _ h (H.weaken ⟨rfl, trivial⟩)
      · replace H := H.ch (t := 17) (b := false) rfl hg10
        replace h := h.2 hg10
        refine s_skip H (wantN H rfl rfl rfl) rfl (lt_ rfl) ?_
        clear H a
        intro a H
        refine s_skip H (wantN H rfl rfl rfl) rfl (lt_ rfl) ?_
        clear H a
        intro a H
        refine s_skip H (wantN H rfl rfl rfl) rfl (lt_ rfl) ?_
        clear H a
        intro a H
        refine s_pickF H rfl rfl rfl (lt_ rfl) ?_
        clear H a
        intro a H
        exact hr11 _ _ _ h (H.weaken ⟨rfl, trivial⟩)
    · clear H a h
      intro a x13 w14 h H
      replace h := hx21 x13 w14 h
      clear hx21
      refine s_assign H rfl rfl (lt_ rfl) ?_
      clear H a
      intro a H
      refine c_nil ?_
      refine hK7 _ _ ?_
      refine c_ret ?_
      exact e_ret1 H rfl rfl h

set_option maxRecDepth 100000 in
set_option maxHeartbeats 4000000 in
theorem sim_sherdlaw11_putting (w1 : Option Addr) (v2 : Option Addr) (u_Kind3 : Int) (u_Key4 : ByteArray) (u_Entry_Tag_Count5 : Int) (u_Entry_Tag_Client6 : Int) (u_Entry_Fin7 : Bool) (u_Entry_Has8 : Bool) (u_Entry_Data9 : Slc) (w : World) (Q : Ending → World → Prop) (h : vc_sherdlaw11_putting w1 v2 u_Kind3 u_Key4 u_Entry_Tag_Count5 u_Entry_Tag_Client6 u_Entry_Fin7 u_Entry_Has8 u_Entry_Data9 w Q) : Calls PP F_sherdlaw11_putting #[(.pointer w1), (.pointer v2), (.agg #[(.int .i64 u_Kind3), (.string u_Key4), (.int .i64 u_Entry_Tag_Count5), (.int .i64 u_Entry_Tag_Client6), (.bool u_Entry_Fin7), (.bool u_Entry_Has8), (Slc.v u_Entry_Data9)])] w Q := by
  unfold vc_sherdlaw11_putting at h
  refine enter (n := 63) (l := [(.pointer w1), (.pointer v2), (.agg #[(.int .i64 u_Kind3), (.string u_Key4), (.int .i64 u_Entry_Tag_Count5), (.int .i64 u_Entry_Tag_Client6), (.bool u_Entry_Fin7), (.bool u_Entry_Has8), (Slc.v u_Entry_Data9)])]) Tryd.func12 rfl rfl (Nat.le_of_ble_eq_true rfl) fun a H => ?_
  replace H : Has 63 [] a [(0, (.pointer w1)), (1, (.pointer v2)), (2, (.agg #[(.int .i64 u_Kind3), (.string u_Key4), (.int .i64 u_Entry_Tag_Count5), (.int .i64 u_Entry_Tag_Client6), (.bool u_Entry_Fin7), (.bool u_Entry_Has8), (Slc.v u_Entry_Data9)]))] := H
  refine c_seq fun K10 hK10 => ?_
  refine c_reg ?_
  replace h := h.get
  obtain ⟨b11, w12, nb13, h⟩ := h
  refine s_box H rfl rfl (lt_ rfl) ?_
  rw [← nb13.at_]
  clear H a
  intro a H
  refine nb13.go ?_
  refine s_assign H rfl rfl (lt_ rfl) ?_
  clear H a
  intro a H
  refine s_assign H rfl rfl (lt_ rfl) ?_
  clear H a
  intro a H
  refine c_nil ?_
  refine hK10 _ _ ?_
  refine c_seq fun K14 hK14 => ?_
  refine c_reg ?_
  refine s_fld H rfl rfl fld_45_2 (lt_ rfl) ?_
  clear H a
  intro a H
  refine s_fld H rfl rfl fld_43_3 (lt_ rfl) ?_
  clear H a
  intro a H
  refine s_load (v := (Slc.v u_Entry_Data9)) H rfl rfl one_28 (nb13.cell (i := 6) rfl) (lt_ rfl) ?_
  clear H a
  intro a H
  refine s_call H rfl body_26 (H.args (vs := [(Slc.v u_Entry_Data9)]) rfl) (lt_ rfl) h ?_ (fun c w' h H => e_panic (P := PP) (fn := Tryd.f12) H h)
  clear H h a
  rintro _ w15 a ⟨lent16, rfl, h⟩ H
  refine s_assign H rfl rfl (lt_ rfl) ?_
  clear H a
  intro a H
  refine c_nil ?_
  refine hK14 _ _ ?_
  refine c_seq fun K17 hK17 => ?_
  refine c_reg ?_
  obtain ⟨l_Kind18, hc19, h⟩ := h
  obtain ⟨l_Key20, hc21, h⟩ := h
  obtain ⟨l_Entry_Tag_Count22, hc23, h⟩ := h
  obtain ⟨l_Entry_Tag_Client24, hc25, h⟩ := h
  obtain ⟨l_Entry_Fin26, hc27, h⟩ := h
  obtain ⟨l_Entry_Has28, hc29, h⟩ := h
  obtain ⟨l_Entry_Data30, hc31, h⟩ := h
  refine s_loadN (l := [(.int .i64 l_Kind18), (.string l_Key20), (.int .i64 l_Entry_Tag_Count22), (.int .i64 l_Entry_Tag_Client24), (.bool l_Entry_Fin26), (.bool l_Entry_Has28), (Slc.v l_Entry_Data30)]) H rfl rfl agg_45 rfl ⟨hc19, hc21, hc23, hc25, hc27, hc29, hc31, trivial⟩ (lt_ rfl) ?_
  clear H a
  intro a H
  replace h := h.get
  obtain ⟨b32, w33, nb34, h⟩ := h
  refine s_alloc H rfl zero_45 (lt_ rfl) ?_
  rw [← nb34.at_]
  clear H a
  intro a H
  refine nb34.go ?_
  refine s_stoN (l := [(.int .i64 l_Kind18), (.string l_Key20), (.int .i64 l_Entry_Tag_Count22), (.int .i64 l_Entry_Tag_Client24), (.bool l_Entry_Fin26), (.bool l_Entry_Has28), (Slc.v l_Entry_Data30)]) H rfl rfl rfl rfl agg_45 rfl rfl h ?_
  clear h H
  intro w35 h H
  refine c_nil ?_
  refine hK17 _ _ ?_
  refine c_seq fun K36 hK36 => ?_
  refine c_reg ?_
  refine s_move H rfl rfl (lt_ rfl) ?_
  clear H a
  intro a H
  refine s_fld H rfl rfl fld_45_2 (lt_ rfl) ?_
  clear H a
  intro a H
  refine s_fld H rfl rfl fld_43_3 (lt_ rfl) ?_
  clear H a
  intro a H
  obtain ⟨l37, hc38, h⟩ := h
  refine s_load (v := (Slc.v l37)) H rfl rfl one_28 hc38 (lt_ rfl) ?_
  clear H a
  intro a H
  refine s_blt H rfl (H.args (vs := [(Slc.v l37)]) rfl) (lt_ rfl) (fun cs => b_lenS (z := l37) sl_28) ?_
  clear H a
  intro a H
  obtain ⟨hi39, hi40, hi41, h⟩ := h
  refine s_slice (v := (Slc.v (lent16.cut 1 (Int.toNat (0)) (Int.toNat ((l37.l : Int)))))) H rfl rfl ⟨rfl, rfl⟩ ⟨rfl, rfl⟩ ⟨rfl, rfl⟩ (r_sliceSlc (lo := none) (hi := (some (.i64, (l37.l : Int)))) slc_28 rfl rfl hi39 hi40 hi41) (lt_ rfl) ?_
  clear H a
  intro a H
  refine s_fld H rfl rfl fld_45_2 (lt_ rfl) ?_
  clear H a
  intro a H
  refine s_fld H rfl rfl fld_43_3 (lt_ rfl) ?_
  clear H a
  intro a H
  obtain ⟨hs43, hf44, h⟩ := h
  refine s_sto (p := ((blk b32).add 2).add 4) (v := (Slc.v (lent16.cut 1 (Int.toNat (0)) (Int.toNat ((l37.l : Int)))))) H rfl rfl rfl rfl one_28 rfl hs43 hf44 ?_
  clear H
  intro H
  generalize hww42 : World.setCell w35 (((blk b32).add 2).add 4) (Slc.v (lent16.cut 1 (Int.toNat (0)) (Int.toNat ((l37.l : Int))))) = w42 at h ⊢
  have w42S : SetAt w35 (((blk b32).add 2).add 4) (Slc.v (lent16.cut 1 (Int.toNat (0)) (Int.toNat ((l37.l : Int))))) w42 := ⟨hww42.symm⟩
  clear hww42 hs43 hf44
  refine c_nil ?_
  refine hK36 _ _ ?_
  refine c_seq fun K45 hK45 => ?_
  refine c_reg ?_
  refine s_move H rfl rfl (lt_ rfl) ?_
  clear H a
  intro a H
  obtain ⟨l_Kind46, hc47, h⟩ := h
  obtain ⟨l_Key48, hc49, h⟩ := h
  obtain ⟨l_Entry_Tag_Count50, hc51, h⟩ := h
  obtain ⟨l_Entry_Tag_Client52, hc53, h⟩ := h
  obtain ⟨l_Entry_Fin54, hc55, h⟩ := h
  obtain ⟨l_Entry_Has56, hc57, h⟩ := h
  obtain ⟨l_Entry_Data58, hc59, h⟩ := h
  refine s_loadN (l := [(.int .i64 l_Kind46), (.string l_Key48), (.int .i64 l_Entry_Tag_Count50), (.int .i64 l_Entry_Tag_Client52), (.bool l_Entry_Fin54), (.bool l_Entry_Has56), (Slc.v l_Entry_Data58)]) H rfl rfl agg_45 rfl ⟨hc47, hc49, hc51, hc53, hc55, hc57, hc59, trivial⟩ (lt_ rfl) ?_
  clear H a
  intro a H
  refine s_call H rfl body_27 (H.args (vs := [(.pointer v2), (.agg #[(.int .i64 l_Kind46), (.string l_Key48), (.int .i64 l_Entry_Tag_Count50), (.int .i64 l_Entry_Tag_Client52), (.bool l_Entry_Fin54), (.bool l_Entry_Has56), (Slc.v l_Entry_Data58)])]) rfl) (lt_ rfl) h ?_ (fun c w' h H => e_panic (P := PP) (fn := Tryd.f12) H h)
  clear H h a
  rintro _ w60 a ⟨Putr61, Putr62, rfl, h⟩ H
  refine s_move H rfl rfl (lt_ rfl) ?_
  clear H a
  intro a H
  refine s_ext H rfl rfl rfl (lt_ rfl) ?_
  clear H a
  intro a H
  refine s_ext H rfl rfl rfl (lt_ rfl) ?_
  clear H a
  intro a H
  refine s_assign H rfl rfl (lt_ rfl) ?_
  clear H a
  intro a H
  refine s_assign H rfl rfl (lt_ rfl) ?_
  clear H a
  intro a H
  refine c_nil ?_
  refine hK45 _ _ ?_
  refine c_seq fun K63 hK63 => ?_
  refine c_reg ?_
  refine s_move H rfl rfl (lt_ rfl) ?_
  clear H a
  intro a H
  obtain ⟨l_Kind64, hc65, h⟩ := h
  obtain ⟨l_Key66, hc67, h⟩ := h
  obtain ⟨l_Entry_Tag_Count68, hc69, h⟩ := h
  obtain ⟨l_Entry_Tag_Client70, hc71, h⟩ := h
  obtain ⟨l_Entry_Fin72, hc73, h⟩ := h
  obtain ⟨l_Entry_Has74, hc75, h⟩ := h
  obtain ⟨l_Entry_Data76, hc77, h⟩ := h
  refine s_loadN (l := [(.int .i64 l_Kind64), (.string l_Key66), (.int .i64 l_Entry_Tag_Count68), (.int .i64 l_Entry_Tag_Client70), (.bool l_Entry_Fin72), (.bool l_Entry_Has74), (Slc.v l_Entry_Data76)]) H rfl rfl agg_45 rfl ⟨hc65, hc67, hc69, hc71, hc73, hc75, hc77, trivial⟩ (lt_ rfl) ?_
  clear H a
  intro a H
  refine s_call H rfl body_19 (H.args (vs := [(.pointer w1), (.agg #[(.int .i64 l_Kind64), (.string l_Key66), (.int .i64 l_Entry_Tag_Count68), (.int .i64 l_Entry_Tag_Client70), (.bool l_Entry_Fin72), (.bool l_Entry_Has74), (Slc.v l_Entry_Data76)])]) rfl) (lt_ rfl) h ?_ (fun c w' h H => e_panic (P := PP) (fn := Tryd.f12) H h)
  clear H h a
  rintro _ w78 a ⟨Putr79, Putr80, rfl, h⟩ H
  refine s_move H rfl rfl (lt_ rfl) ?_
  clear H a
  intro a H
  refine s_ext H rfl rfl rfl (lt_ rfl) ?_
  clear H a
  intro a H
  refine s_ext H rfl rfl rfl (lt_ rfl) ?_
  clear H a
  intro a H
  refine s_assign H rfl rfl (lt_ rfl) ?_
  clear H a
  intro a H
  refine s_assign H rfl rfl (lt_ rfl) ?_
  clear H a
  intro a H
  refine c_nil ?_
  refine hK63 _ _ ?_
  refine c_seq fun K81 hK81 => ?_
  refine c_reg ?_
  refine s_move H rfl rfl (lt_ rfl) ?_
  clear H a
  intro a H
  refine s_move H rfl rfl (lt_ rfl) ?_
  clear H a
  intro a H
  refine s_move H rfl rfl (lt_ rfl) ?_
  clear H a
  intro a H
  refine s_bin H rfl rfl rfl r_eql (lt_ rfl) ?_
  clear H a
  intro a H
  refine s_move H rfl rfl (lt_ rfl) ?_
  clear H a
  intro a H
  obtain ⟨R84, h, hx131⟩ := h
  refine g_joinW (n := 63) R84 (fun x85 => [(47, (.bool x85)), (0, (.pointer w1)), (1, (.pointer v2)), (5, (.pointer (some (blk b11)))), (8, (Slc.v lent16)), (39, (Slc.v Putr79))]) (.succ (.succ (.succ (.succ (.zero _))))) ?_ ?_
  · intro hr83
    clear hx131
    rcases Bool.eq_false_or_eq_true (decide (Putr80 = Putr62)) with hg82 | hg82
    · replace H := H.ch (t := 43) (b := true) rfl hg82
      replace h := h.1 hg82
      refine s_move H (wantG H rfl rfl) rfl (lt_ rfl) ?_
      clear H a
      intro a H
      refine s_move H (wantG H rfl rfl) rfl (lt_ rfl) ?_
      clear H a
      intro a H
      refine s_call H (wantG H rfl rfl) body_10 (H.args (vs := [(Slc.v Putr79), (Slc.v Putr61)]) rfl) (lt_ rfl) h ?_ (fun c w' h H => e_panic (P := PP) (fn := Tryd.f12) H h)
      clear H h a
      rintro _ w87 a ⟨same88, rfl, h⟩ H
      refine s_pickT H rfl rfl rfl (lt_ rfl) ?_
      clear H a
      intro a H
      exact hr83 _ _ _ h (H.weaken ⟨rfl, rfl, rfl, rfl, rfl, rfl, trivial⟩)
    · replace H := H.ch (t := 43) (b := false) rfl hg82
      replace h := h.2 hg82
      refine s_skip H (wantN H rfl rfl rfl) rfl (lt_ rfl) ?_
      clear H a
      intro a H
      refine s_skip H (wantN H rfl rfl rfl) rfl (lt_ rfl) ?_
      clear H a
      intro a H
      refine s_skip H (wantN H rfl rfl rfl) rfl (lt_ rfl) ?_
      clear H a
      intro a H
      refine s_pickF H rfl rfl rfl (lt_ rfl) ?_
      clear H a
      intro a H
      exact hr83 _ _ _ h (H.weaken ⟨rfl, rfl, rfl, rfl, rfl, rfl, trivial⟩)
  · clear H a h
    intro a x85 w86 h H
    replace h := hx131 x85 w86 h
    clear hx131
    refine s_move H rfl rfl (lt_ rfl) ?_
    clear H a
    intro a H
    obtain ⟨R95, h, hx130⟩ := h
    refine g_joinW (n := 63) R95 (fun x96 => [(54, (.bool x96)), (5, (.pointer (some (blk b11)))), (8, (Slc.v lent16)), (39, (Slc.v Putr79))]) (.succ (.succ (.succ (.succ (.succ (.succ (.zero _))))))) ?_ ?_
    · intro hr94
      clear hx130
      rcases Bool.eq_false_or_eq_true x85 with hg93 | hg93
      · replace H := H.ch (t := 48) (b := true) rfl hg93
        replace h := h.1 hg93
        refine s_move H (wantG H rfl rfl) rfl (lt_ rfl) ?_
        clear H a
        intro a H
        refine s_call H (wantG H rfl rfl) body_20 (H.args (vs := [(.pointer w1)]) rfl) (lt_ rfl) h ?_ (fun c w' h H => e_panic (P := PP) (fn := Tryd.f12) H h)
        clear H h a
        rintro _ w98 a ⟨Count99, rfl, h⟩ H
        refine s_move H (wantG H rfl rfl) rfl (lt_ rfl) ?_
        clear H a
        intro a H
        refine s_call H (wantG H rfl rfl) body_28 (H.args (vs := [(.pointer v2)]) rfl) (lt_ rfl) h ?_ (fun c w' h H => e_panic (P := PP) (fn := Tryd.f12) H h)
        clear H h a
        rintro _ w100 a ⟨Count101, rfl, h⟩ H
        refine s_bin H (wantG H rfl rfl) rfl rfl r_eql (lt_ rfl) ?_
        clear H a
        intro a H
        refine s_pickT H rfl rfl rfl (lt_ rfl) ?_
        clear H a
        intro a H
        exact hr94 _ _ _ h (H.weaken ⟨rfl, rfl, rfl, rfl, trivial⟩)
      · replace H := H.ch (t := 48) (b := false) rfl hg93
        replace h := h.2 hg93
        refine s_skip H (wantN H rfl rfl rfl) rfl (lt_ rfl) ?_
        clear H a
        intro a H
        refine s_skip H (wantN H rfl rfl rfl) rfl (lt_ rfl) ?_
        clear H a
        intro a H
        refine s_skip H (wantN H rfl rfl rfl) rfl (lt_ rfl) ?_
        clear H a
        intro a H
        refine s_skip H (wantN H rfl rfl rfl) rfl (lt_ rfl) ?_
        clear H a
        intro a H
        refine s_skip H (wantN H rfl rfl rfl) rfl (lt_ rfl) ?_
        clear H a
        intro a H
        refine s_pickF H rfl rfl rfl (lt_ rfl) ?_
        clear H a
        intro a H
        exact hr94 _ _ _ h (H.weaken ⟨rfl, rfl, rfl, rfl, trivial⟩)
    · clear H a h
      intro a x96 w97 h H
      replace h := hx130 x96 w97 h
      clear hx130
      refine s_move H rfl rfl (lt_ rfl) ?_
      clear H a
      intro a H
      obtain ⟨R112, h, hx129⟩ := h
      refine g_joinW (n := 63) R112 (fun x113 => [(62, (.bool x113)), (39, (Slc.v Putr79))]) (.succ (.succ (.succ (.succ (.succ (.succ (.succ (.zero _)))))))) ?_ ?_
      · intro hr111
        clear hx129
        rcases Bool.eq_false_or_eq_true x96 with hg110 | hg110
        · replace H := H.ch (t := 55) (b := true) rfl hg110
          replace h := h.1 hg110
          refine s_move H (wantG H rfl rfl) rfl (lt_ rfl) ?_
          clear H a
          intro a H
          refine s_fld H (wantG H rfl rfl) rfl fld_45_2 (lt_ rfl) ?_
          clear H a
          intro a H
          refine s_fld H (wantG H rfl rfl) rfl fld_43_3 (lt_ rfl) ?_
          clear H a
          intro a H
          obtain ⟨l115, hc116, h⟩ := h
          refine s_load (v := (Slc.v l115)) H (wantG H rfl rfl) rfl one_28 hc116 (lt_ rfl) ?_
          clear H a
          intro a H
          refine s_call H (wantG H rfl rfl) body_26 (H.args (vs := [(Slc.v l115)]) rfl) (lt_ rfl) h ?_ (fun c w' h H => e_panic (P := PP) (fn := Tryd.f12) H h)
          clear H h a
          rintro _ w117 a ⟨lent118, rfl, h⟩ H
          refine s_call H (wantG H rfl rfl) body_10 (H.args (vs := [(Slc.v lent16), (Slc.v lent118)]) rfl) (lt_ rfl) h ?_ (fun c w' h H => e_panic (P := PP) (fn := Tryd.f12) H h)
          clear H h a
          rintro _ w119 a ⟨same120, rfl, h⟩ H
          refine s_pickT H rfl rfl rfl (lt_ rfl) ?_
          clear H a
          intro a H
          exact hr111 _ _ _ h (H.weaken ⟨rfl, rfl, trivial⟩)
        · replace H := H.ch (t := 55) (b := false) rfl hg110
          replace h := h.2 hg110
          refine s_skip H (wantN H rfl rfl rfl) rfl (lt_ rfl) ?_
          clear H a
          intro a H
          refine s_skip H (wantN H rfl rfl rfl) rfl (lt_ rfl) ?_
          clear H a
          intro a H
          refine s_skip H (wantN H rfl rfl rfl) rfl (lt_ rfl) ?_
          clear H a
          intro a H
          refine s_skip H (wantN H rfl rfl rfl) rfl (lt_ rfl) ?_
          clear H a
          intro a H
          refine s_skip H (wantN H rfl rfl rfl) rfl (lt_ rfl) ?_
          clear H a
          intro a H
          refine s_skip H (wantN H rfl rfl rfl) rfl (lt_ rfl) ?_
          clear H a
          intro a H
          refine s_pickF H rfl rfl rfl (lt_ rfl) ?_
          clear H a
          intro a H
          exact hr111 _ _ _ h (H.weaken ⟨rfl, rfl, trivial⟩)
      · clear H a h
        intro a x113 w114 h H
        replace h := hx129 x113 w114 h
        clear hx129
        refine s_assign H rfl rfl (lt_ rfl) ?_
        clear H a
        intro a H
        refine s_assign H rfl rfl (lt_ rfl) ?_
        clear H a
        intro a H
        refine c_nil ?_
        refine hK81 _ _ ?_
        refine c_ret ?_
        exact e_ret2 H rfl rfl rfl h

set_option maxRecDepth 100000 in
set_option maxHeartbeats 4000000 in
theorem sim_sherdlaw11_apart (l1 : Slc) (w : World) (Q : Ending → World → Prop) (h : vc_sherdlaw11_apart l1 w Q) : Calls PP F_sherdlaw11_apart #[(Slc.v l1)] w Q := by
  unfold vc_sherdlaw11_apart at h
  refine enter (n := 111) (l := [(Slc.v l1)]) Tryd.func13 rfl rfl (Nat.le_of_ble_eq_true rfl) fun a H => ?_
  replace H : Has 111 [] a [(0, (Slc.v l1))] := H
  refine c_seq fun K2 hK2 => ?_
  refine c_reg ?_
  refine s_assign H rfl rfl (lt_ rfl) ?_
  clear H a
  intro a H
  refine c_nil ?_
  refine hK2 _ _ ?_
  refine c_seq fun K3 hK3 => ?_
  refine c_seq fun K4 hK4 => ?_
  refine c_reg ?_
  refine s_assign H rfl rfl (lt_ rfl) ?_
  clear H a
  intro a H
  refine c_nil ?_
  refine hK4 _ _ ?_
  refine c_block ?_
  obtain ⟨I7, mu8, h0175, hl176⟩ := h
  refine c_loop (σ := Int) (fun z w => I7 z w) (fun z w => mu8 z w) (fun z => [(0, (Slc.v l1)), (3, (.int .i64 z))]) 0 h0175 (H.weaken ⟨rfl, rfl, trivial⟩) ?_
  clear H h0175
  rintro i5 a w6 h H
  replace h := hl176 i5 w6 h
  clear hl176
  replace H : Has 111 [] a [(0, (Slc.v l1)), (3, (.int .i64 i5))] := H
  refine c_seq fun K9 hK9 => ?_
  refine c_seq fun K10 hK10 => ?_
  refine c_reg ?_
  refine s_move H rfl rfl (lt_ rfl) ?_
  clear H a
  intro a H
  refine s_move H rfl rfl (lt_ rfl) ?_
  clear H a
  intro a H
  refine s_blt H rfl (H.args (vs := [(Slc.v l1)]) rfl) (lt_ rfl) (fun cs => b_lenS (z := l1) sl_37) ?_
  clear H a
  intro a H
  refine s_bin H rfl rfl rfl r_lss (lt_ rfl) ?_
  clear H a
  intro a H
  refine c_nil ?_
  refine hK10 _ _ ?_
  refine c_cond H rfl (fun hb11 => ?_) (fun hb11 => ?_)
  · replace h := h.1 hb11
    refine c_skip ?_
    refine hK9 _ _ ?_
    refine c_seq fun K12 hK12 => ?_
    obtain ⟨R13, h, hx46⟩ := h
    have hJ15 : ∀ (a : Act) (w14 : World), R13 w14 → Has 111 [] a [(0, (Slc.v l1)), (3, (.int .i64 i5))] → K12 a w14 := by
      clear h
      intro a w14 h H
      replace h := hx46 w14 h
      refine hK12 _ _ ?_
      refine c_reg ?_
      refine s_move H rfl rfl (lt_ rfl) ?_
      clear H a
      intro a H
      refine s_bin H rfl rfl rfl r_add (lt_ rfl) ?_
      clear H a
      intro a H
      refine s_assign H rfl rfl (lt_ rfl) ?_
      clear H a
      intro a H
      refine c_nil ?_
      refine Exists.intro (wr .i64 (i5 + 1)) ⟨h.1, h.2, H.weaken ⟨rfl, rfl, trivial⟩⟩
    clear hx46
    refine c_block ?_
    refine c_seq fun K16 hK16 => ?_
    refine c_reg ?_
    refine s_assign H rfl rfl (lt_ rfl) ?_
    clear H a
    intro a H
    refine c_nil ?_
    refine hK16 _ _ ?_
    refine c_block ?_
    obtain ⟨I19, mu20, h044, hl45⟩ := h
    refine c_loop (σ := Int) (fun z w => I19 z w) (fun z w => mu20 z w) (fun z => [(0, (Slc.v l1)), (3, (.int .i64 i5)), (4, (.int .i64 z))]) 0 h044 (H.weaken ⟨rfl, rfl, rfl, trivial⟩) ?_
    clear H h044
    rintro j17 a w18 h H
    replace h := hl45 j17 w18 h
    clear hl45
    replace H : Has 111 [] a [(0, (Slc.v l1)), (3, (.int .i64 i5)), (4, (.int .i64 j17))] := H
    refine c_seq fun K21 hK21 => ?_
    refine c_seq fun K22 hK22 => ?_
    refine c_reg ?_
    refine s_move H rfl rfl (lt_ rfl) ?_
    clear H a
    intro a H
    refine s_move H rfl rfl (lt_ rfl) ?_
    clear H a
    intro a H
    refine s_move H rfl rfl (lt_ rfl) ?_
    clear H a
    intro a H
    obtain ⟨a23, hi24, hi25, hi26, h⟩ := h
    refine s_idxS (s := l1) H rfl rfl rfl slc_37 hi24 hi25 hi26 (lt_ rfl) ?_
    clear H a
    intro a H
    obtain ⟨l27, hc28, h⟩ := h
    refine s_load (v := (Slc.v l27)) H rfl rfl one_28 hc28 (lt_ rfl) ?_
    clear H a
    intro a H
    refine s_blt H rfl (H.args (vs := [(Slc.v l27)]) rfl) (lt_ rfl) (fun cs => b_lenS (z := l27) sl_28) ?_
    clear H a
    intro a H
    refine s_bin H rfl rfl rfl r_lss (lt_ rfl) ?_
    clear H a
    intro a H
    refine c_nil ?_
    refine hK22 _ _ ?_
    refine c_cond H rfl (fun hb29 => ?_) (fun hb29 => ?_)
    · replace h := h.1 hb29
      refine c_skip ?_
      refine hK21 _ _ ?_
      refine c_seq fun K30 hK30 => ?_
      refine c_block ?_
      refine c_reg ?_
      refine s_move H rfl rfl (lt_ rfl) ?_
      clear H a
      intro a H
      refine s_move H rfl rfl (lt_ rfl) ?_
      clear H a
      intro a H
      obtain ⟨a31, hi32, hi33, hi34, h⟩ := h
      refine s_idxS (s := l1) H rfl rfl rfl slc_37 hi32 hi33 hi34 (lt_ rfl) ?_
      clear H a
      intro a H
      obtain ⟨l35, hc36, h⟩ := h
      refine s_load (v := (Slc.v l35)) H rfl rfl one_28 hc36 (lt_ rfl) ?_
      clear H a
      intro a H
      refine s_move H rfl rfl (lt_ rfl) ?_
      clear H a
      intro a H
      refine s_move H rfl rfl (lt_ rfl) ?_
      clear H a
      intro a H
      refine s_bin H rfl rfl rfl r_mul (lt_ rfl) ?_
      clear H a
      intro a H
      refine s_bin H rfl rfl rfl r_add (lt_ rfl) ?_
      clear H a
      intro a H
      refine s_cv H rfl rfl (r_cvI some_3 int_5) (lt_ rfl) ?_
      clear H a
      intro a H
      obtain ⟨a37, hi38, hi39, hi40, h⟩ := h
      refine s_idxS (s := l35) H rfl rfl rfl slc_28 hi38 hi39 hi40 (lt_ rfl) ?_
      clear H a
      intro a H
      obtain ⟨hs42, hf43, h⟩ := h
      refine s_sto (p := a37.add (Int.toNat (j17) * 1)) (v := (.int .u8 (wr .u8 (wr .i64 ((wr .i64 (i5 * 3)) + 1))))) H rfl rfl rfl rfl one_5 rfl hs42 hf43 ?_
      clear H
      intro H
      generalize hww41 : World.setCell w18 (a37.add (Int.toNat (j17) * 1)) (.int .u8 (wr .u8 (wr .i64 ((wr .i64 (i5 * 3)) + 1)))) = w41 at h ⊢
      have w41S : SetAt w18 (a37.add (Int.toNat (j17) * 1)) (.int .u8 (wr .u8 (wr .i64 ((wr .i64 (i5 * 3)) + 1)))) w41 := ⟨hww41.symm⟩
      clear hww41 hs42 hf43
      refine c_nil ?_
      refine hK30 _ _ ?_
      refine c_reg ?_
      refine s_move H rfl rfl (lt_ rfl) ?_
      clear H a
      intro a H
      refine s_bin H rfl rfl rfl r_add (lt_ rfl) ?_
      clear H a
      intro a H
      refine s_assign H rfl rfl (lt_ rfl) ?_
      clear H a
      intro a H
      refine c_nil ?_
      refine Exists.intro (wr .i64 (j17 + 1)) ⟨h.1, h.2, H.weaken ⟨rfl, rfl, rfl, trivial⟩⟩
    · replace h := h.2 hb29
      refine c_exit ?_
      simp only [Exit.then, Exit.inBlock, ↓reduceIte, Nat.reduceEqDiff]
      exact hJ15 _ _ h (H.weaken ⟨rfl, rfl, trivial⟩)
  · replace h := h.2 hb11
    refine c_exit ?_
    simp only [Exit.then, Exit.inBlock, ↓reduceIte, Nat.reduceEqDiff]
    refine hK3 _ _ ?_
    refine c_seq fun K47 hK47 => ?_
    refine c_reg ?_
    refine s_assign H rfl rfl (lt_ rfl) ?_
    clear H a
    intro a H
    refine c_nil ?_
    refine hK47 _ _ ?_
    refine c_seq fun K48 hK48 => ?_
    refine c_seq fun K49 hK49 => ?_
    refine c_reg ?_
    refine s_assign H rfl rfl (lt_ rfl) ?_
    clear H a
    intro a H
    refine c_nil ?_
    refine hK49 _ _ ?_
    refine c_block ?_
    obtain ⟨I53, mu54, h0173, hl174⟩ := h
    refine c_loop (σ := Slc × Int) (fun z w => I53 z.1 z.2 w) (fun z w => mu54 z.1 z.2 w) (fun z => [(0, (Slc.v l1)), (5, (Slc.v z.1)), (6, (.int .i64 z.2))]) (Slc.nil, 0) h0173 (H.weaken ⟨rfl, rfl, rfl, trivial⟩) ?_
    clear H h0173
    rintro ⟨more50, i51⟩ a w52 h H
    replace h := hl174 more50 i51 w52 h
    clear hl174
    replace H : Has 111 [] a [(0, (Slc.v l1)), (5, (Slc.v more50)), (6, (.int .i64 i51))] := H
    refine c_seq fun K55 hK55 => ?_
    refine c_seq fun K56 hK56 => ?_
    refine c_reg ?_
    refine s_move H rfl rfl (lt_ rfl) ?_
    clear H a
    intro a H
    refine s_move H rfl rfl (lt_ rfl) ?_
    clear H a
    intro a H
    refine s_blt H rfl (H.args (vs := [(Slc.v l1)]) rfl) (lt_ rfl) (fun cs => b_lenS (z := l1) sl_37) ?_
    clear H a
    intro a H
    refine s_bin H rfl rfl rfl r_lss (lt_ rfl) ?_
    clear H a
    intro a H
    refine c_nil ?_
    refine hK56 _ _ ?_
    refine c_cond H rfl (fun hb57 => ?_) (fun hb57 => ?_)
    · replace h := h.1 hb57
      refine c_skip ?_
      refine hK55 _ _ ?_
      refine c_seq fun K58 hK58 => ?_
      obtain ⟨R60, h, hx95⟩ := h
      have hJ62 : ∀ (a : Act) (more59 : Slc) (w61 : World), R60 more59 w61 → Has 111 [] a [(0, (Slc.v l1)), (5, (Slc.v more59)), (6, (.int .i64 i51))] → K58 a w61 := by
        clear h
        intro a more59 w61 h H
        replace h := hx95 more59 w61 h
        refine hK58 _ _ ?_
        refine c_reg ?_
        refine s_move H rfl rfl (lt_ rfl) ?_
        clear H a
        intro a H
        refine s_bin H rfl rfl rfl r_add (lt_ rfl) ?_
        clear H a
        intro a H
        refine s_assign H rfl rfl (lt_ rfl) ?_
        clear H a
        intro a H
        refine c_nil ?_
        refine Exists.intro (more59, wr .i64 (i51 + 1)) ⟨h.1, h.2, H.weaken ⟨rfl, rfl, rfl, trivial⟩⟩
      clear hx95
      refine c_block ?_
      refine c_seq fun K63 hK63 => ?_
      refine c_reg ?_
      refine s_move H rfl rfl (lt_ rfl) ?_
      clear H a
      intro a H
      refine s_move H rfl rfl (lt_ rfl) ?_
      clear H a
      intro a H
      obtain ⟨a64, hi65, hi66, hi67, h⟩ := h
      refine s_idxS (s := l1) H rfl rfl rfl slc_37 hi65 hi66 hi67 (lt_ rfl) ?_
      clear H a
      intro a H
      obtain ⟨l68, hc69, h⟩ := h
      refine s_load (v := (Slc.v l68)) H rfl rfl one_28 hc69 (lt_ rfl) ?_
      clear H a
      intro a H
      refine s_assign H rfl rfl (lt_ rfl) ?_
      clear H a
      intro a H
      refine c_nil ?_
      refine hK63 _ _ ?_
      refine c_seq fun K70 hK70 => ?_
      refine c_seq fun K71 hK71 => ?_
      refine c_reg ?_
      refine s_assign H rfl rfl (lt_ rfl) ?_
      clear H a
      intro a H
      refine c_nil ?_
      refine hK71 _ _ ?_
      refine c_block ?_
      obtain ⟨I75, mu76, h093, hl94⟩ := h
      refine c_loop (σ := Slc × Int) (fun z w => I75 z.1 z.2 w) (fun z w => mu76 z.1 z.2 w) (fun z => [(0, (Slc.v l1)), (5, (Slc.v more50)), (6, (.int .i64 i51)), (7, (Slc.v z.1)), (8, (.int .i64 z.2))]) (l68, 0) h093 (H.weaken ⟨rfl, rfl, rfl, rfl, rfl, trivial⟩) ?_
      clear H h093
      rintro ⟨x72, k73⟩ a w74 h H
      replace h := hl94 x72 k73 w74 h
      clear hl94
      replace H : Has 111 [] a [(0, (Slc.v l1)), (5, (Slc.v more50)), (6, (.int .i64 i51)), (7, (Slc.v x72)), (8, (.int .i64 k73))] := H
      refine c_seq fun K77 hK77 => ?_
      refine c_seq fun K78 hK78 => ?_
      refine c_reg ?_
      refine s_move H rfl rfl (lt_ rfl) ?_
      clear H a
      intro a H
      refine s_bin H rfl rfl rfl r_lss (lt_ rfl) ?_
      clear H a
      intro a H
      refine c_nil ?_
      refine hK78 _ _ ?_
      refine c_cond H rfl (fun hb79 => ?_) (fun hb79 => ?_)
      · replace h := h.1 hb79
        refine c_skip ?_
        refine hK77 _ _ ?_
        refine c_seq fun K80 hK80 => ?_
        refine c_block ?_
        refine c_reg ?_
        refine s_move H rfl rfl (lt_ rfl) ?_
        clear H a
        intro a H
        refine s_move H rfl rfl (lt_ rfl) ?_
        clear H a
        intro a H
        refine s_bin H rfl rfl rfl r_mul (lt_ rfl) ?_
        clear H a
        intro a H
        refine s_bin H rfl rfl rfl r_add (lt_ rfl) ?_
        clear H a
        intro a H
        refine s_cv H rfl rfl (r_cvI some_3 int_5) (lt_ rfl) ?_
        clear H a
        intro a H
        replace h := h.get
        obtain ⟨b81, w82, nb83, h⟩ := h
        refine s_bslc H rfl (by rw [H.parts (vs := [(0, (.int .u8 (wr .u8 (wr .i64 ((wr .i64 (i51 * 3)) + 1)))))]) rfl]; exact bs_28_1_iu80 w74 (wr .u8 (wr .i64 ((wr .i64 (i51 * 3)) + 1)))) (lt_ rfl) ?_
        rw [← nb83.at_]
        clear H a
        intro a H
        refine nb83.go ?_
        obtain ⟨s84, w85, hq86, h⟩ := h
        refine s_blt H rfl (H.args (vs := [(Slc.v x72), (Slc.v (Slc.mk (some (blk b81)) 1 1))]) rfl) (lt_ rfl) (fun cs => b_app (z := s84) hq86) ?_
        clear H a hq86
        intro a H
        refine s_assign H rfl rfl (lt_ rfl) ?_
        clear H a
        intro a H
        refine c_nil ?_
        refine hK80 _ _ ?_
        refine c_reg ?_
        refine s_move H rfl rfl (lt_ rfl) ?_
        clear H a
        intro a H
        refine s_bin H rfl rfl rfl r_add (lt_ rfl) ?_
        clear H a
        intro a H
        refine s_assign H rfl rfl (lt_ rfl) ?_
        clear H a
        intro a H
        refine c_nil ?_
        refine Exists.intro (s84, wr .i64 (k73 + 1)) ⟨h.1, h.2, H.weaken ⟨rfl, rfl, rfl, rfl, rfl, trivial⟩⟩
      · replace h := h.2 hb79
        refine c_exit ?_
        simp only [Exit.then, Exit.inBlock, ↓reduceIte, Nat.reduceEqDiff]
        refine hK70 _ _ ?_
        refine c_reg ?_
        refine s_move H rfl rfl (lt_ rfl) ?_
        clear H a
        intro a H
        refine s_move H rfl rfl (lt_ rfl) ?_
        clear H a
        intro a H
        replace h := h.get
        obtain ⟨b87, w88, nb89, h⟩ := h
        refine s_bslc H rfl (by rw [H.parts (vs := [(0, (Slc.v x72))]) rfl]; exact bs_37_1_s0 w74 x72) (lt_ rfl) ?_
        rw [← nb89.at_]
        clear H a
        intro a H
        refine nb89.go ?_
        obtain ⟨s90, w91, hq92, h⟩ := h
        refine s_blt H rfl (H.args (vs := [(Slc.v more50), (Slc.v (Slc.mk (some (blk b87)) 1 1))]) rfl) (lt_ rfl) (fun cs => b_app (z := s90) hq92) ?_
        clear H a hq92
        intro a H
        refine s_assign H rfl rfl (lt_ rfl) ?_
        clear H a
        intro a H
        refine c_nil ?_
        exact hJ62 _ _ _ h (H.weaken ⟨rfl, rfl, rfl, trivial⟩)
    · replace h := h.2 hb57
      refine c_exit ?_
      simp only [Exit.then, Exit.inBlock, ↓reduceIte, Nat.reduceEqDiff]
      refine hK48 _ _ ?_
      refine c_seq fun K96 hK96 => ?_
      refine c_seq fun K97 hK97 => ?_
      refine c_reg ?_
      refine s_assign H rfl rfl (lt_ rfl) ?_
      clear H a
      intro a H
      refine c_nil ?_
      refine hK97 _ _ ?_
      refine c_block ?_
      obtain ⟨I100, mu101, h0171, hl172⟩ := h
      refine c_loop (σ := Int) (fun z w => I100 z w) (fun z w => mu101 z w) (fun z => [(0, (Slc.v l1)), (5, (Slc.v more50)), (9, (.int .i64 z))]) 0 h0171 (H.weaken ⟨rfl, rfl, rfl, trivial⟩) ?_
      clear H h0171
      rintro i98 a w99 h H
      replace h := hl172 i98 w99 h
      clear hl172
      replace H : Has 111 [] a [(0, (Slc.v l1)), (5, (Slc.v more50)), (9, (.int .i64 i98))] := H
      refine c_seq fun K102 hK102 => ?_
      refine c_seq fun K103 hK103 => ?_
      refine c_reg ?_
      refine s_move H rfl rfl (lt_ rfl) ?_
      clear H a
      intro a H
      refine s_move H rfl rfl (lt_ rfl) ?_
      clear H a
      intro a H
      refine s_blt H rfl (H.args (vs := [(Slc.v l1)]) rfl) (lt_ rfl) (fun cs => b_lenS (z := l1) sl_37) ?_
      clear H a
      intro a H
      refine s_bin H rfl rfl rfl r_lss (lt_ rfl) ?_
      clear H a
      intro a H
      refine c_nil ?_
      refine hK103 _ _ ?_
      refine c_cond H rfl (fun hb104 => ?_) (fun hb104 => ?_)
      · replace h := h.1 hb104
        refine c_skip ?_
        refine hK102 _ _ ?_
        refine c_seq fun K105 hK105 => ?_
        obtain ⟨R106, h, hx169⟩ := h
        have hJ108 : ∀ (a : Act) (w107 : World), R106 w107 → Has 111 [] a [(0, (Slc.v l1)), (5, (Slc.v more50)), (9, (.int .i64 i98))] → K105 a w107 := by
          clear h
          intro a w107 h H
          replace h := hx169 w107 h
          refine hK105 _ _ ?_
          refine c_reg ?_
          refine s_move H rfl rfl (lt_ rfl) ?_
          clear H a
          intro a H
          refine s_bin H rfl rfl rfl r_add (lt_ rfl) ?_
          clear H a
          intro a H
          refine s_assign H rfl rfl (lt_ rfl) ?_
          clear H a
          intro a H
          refine c_nil ?_
          refine Exists.intro (wr .i64 (i98 + 1)) ⟨h.1, h.2, H.weaken ⟨rfl, rfl, rfl, trivial⟩⟩
        clear hx169
        refine c_block ?_
        refine c_seq fun K109 hK109 => ?_
        refine c_reg ?_
        refine s_assign H rfl rfl (lt_ rfl) ?_
        clear H a
        intro a H
        refine c_nil ?_
        refine hK109 _ _ ?_
        refine c_block ?_
        obtain ⟨I112, mu113, h0167, hl168⟩ := h
        refine c_loop (σ := Int) (fun z w => I112 z w) (fun z w => mu113 z w) (fun z => [(0, (Slc.v l1)), (5, (Slc.v more50)), (9, (.int .i64 i98)), (10, (.int .i64 z))]) 0 h0167 (H.weaken ⟨rfl, rfl, rfl, rfl, trivial⟩) ?_
        clear H h0167
        rintro j110 a w111 h H
        replace h := hl168 j110 w111 h
        clear hl168
        replace H : Has 111 [] a [(0, (Slc.v l1)), (5, (Slc.v more50)), (9, (.int .i64 i98)), (10, (.int .i64 j110))] := H
        refine c_seq fun K114 hK114 => ?_
        refine c_seq fun K115 hK115 => ?_
        refine c_reg ?_
        refine s_move H rfl rfl (lt_ rfl) ?_
        clear H a
        intro a H
        refine s_move H rfl rfl (lt_ rfl) ?_
        clear H a
        intro a H
        refine s_move H rfl rfl (lt_ rfl) ?_
        clear H a
        intro a H
        obtain ⟨a116, hi117, hi118, hi119, h⟩ := h
        refine s_idxS (s := more50) H rfl rfl rfl slc_37 hi117 hi118 hi119 (lt_ rfl) ?_
        clear H a
        intro a H
        obtain ⟨l120, hc121, h⟩ := h
        refine s_load (v := (Slc.v l120)) H rfl rfl one_28 hc121 (lt_ rfl) ?_
        clear H a
        intro a H
        refine s_blt H rfl (H.args (vs := [(Slc.v l120)]) rfl) (lt_ rfl) (fun cs => b_lenS (z := l120) sl_28) ?_
        clear H a
        intro a H
        refine s_bin H rfl rfl rfl r_lss (lt_ rfl) ?_
        clear H a
        intro a H
        refine c_nil ?_
        refine hK115 _ _ ?_
        refine c_cond H rfl (fun hb122 => ?_) (fun hb122 => ?_)
        · replace h := h.1 hb122
          refine c_skip ?_
          refine hK114 _ _ ?_
          refine c_seq fun K123 hK123 => ?_
          refine c_block ?_
          refine c_seq fun K124 hK124 => ?_
          refine c_reg ?_
          refine s_move H rfl rfl (lt_ rfl) ?_
          clear H a
          intro a H
          refine s_move H rfl rfl (lt_ rfl) ?_
          clear H a
          intro a H
          obtain ⟨a125, hi126, hi127, hi128, h⟩ := h
          refine s_idxS (s := more50) H rfl rfl rfl slc_37 hi126 hi127 hi128 (lt_ rfl) ?_
          clear H a
          intro a H
          obtain ⟨l129, hc130, h⟩ := h
          refine s_load (v := (Slc.v l129)) H rfl rfl one_28 hc130 (lt_ rfl) ?_
          clear H a
          intro a H
          refine s_move H rfl rfl (lt_ rfl) ?_
          clear H a
          intro a H
          obtain ⟨a131, hi132, hi133, hi134, h⟩ := h
          refine s_idxS (s := l129) H rfl rfl rfl slc_28 hi132 hi133 hi134 (lt_ rfl) ?_
          clear H a
          intro a H
          obtain ⟨l135, hc136, h⟩ := h
          refine s_load (v := (.int .u8 l135)) H rfl rfl one_5 hc136 (lt_ rfl) ?_
          clear H a
          intro a H
          refine s_move H rfl rfl (lt_ rfl) ?_
          clear H a
          intro a H
          refine s_bin H rfl rfl rfl r_mul (lt_ rfl) ?_
          clear H a
          intro a H
          refine s_bin H rfl rfl rfl r_add (lt_ rfl) ?_
          clear H a
          intro a H
          refine s_cv H rfl rfl (r_cvI some_3 int_5) (lt_ rfl) ?_
          clear H a
          intro a H
          refine s_bin H rfl rfl rfl r_neq (lt_ rfl) ?_
          clear H a
          intro a H
          refine s_move H rfl rfl (lt_ rfl) ?_
          clear H a
          intro a H
          obtain ⟨x162, hy163, hn164, h⟩ := h
          refine g_join (n := 111) [(110, (.bool x162)), (0, (Slc.v l1)), (5, (Slc.v more50)), (9, (.int .i64 i98)), (10, (.int .i64 j110))] (.succ (.succ (.succ (.succ (.succ (.succ (.succ (.succ (.succ (.succ (.succ (.succ (.succ (.succ (.succ (.succ (.succ (.succ (.succ (.succ (.succ (.succ (.zero _))))))))))))))))))))))) ?_ ?_
          · intro hr138
            try clear h
            rcases Bool.eq_false_or_eq_true (decide (l135 ≠ (wr .u8 (wr .i64 ((wr .i64 (i98 * 3)) + 1))))) with hg137 | hg137
            · replace H := H.ch (t := 88) (b := true) rfl hg137
              refine s_skip H (wantN H rfl rfl rfl) rfl (lt_ rfl) ?_
              clear H a
              intro a H
              refine s_skip H (wantN H rfl rfl rfl) rfl (lt_ rfl) ?_
              clear H a
              intro a H
              refine s_skip H (wantN H rfl rfl rfl) rfl (lt_ rfl) ?_
              clear H a
              intro a H
              refine s_skip H (wantN H rfl rfl rfl) rfl (lt_ rfl) ?_
              clear H a
              intro a H
              refine s_skip H (wantN H rfl rfl rfl) rfl (lt_ rfl) ?_
              clear H a
              intro a H
              refine s_skip H (wantN H rfl rfl rfl) rfl (lt_ rfl) ?_
              clear H a
              intro a H
              refine s_skip H (wantN H rfl rfl rfl) rfl (lt_ rfl) ?_
              clear H a
              intro a H
              refine s_skip H (wantN H rfl rfl rfl) rfl (lt_ rfl) ?_
              clear H a
              intro a H
              refine s_skip H (wantU H rfl rfl) rfl (lt_ rfl) ?_
              clear H a
              intro a H
              refine s_skip H (wantU H rfl rfl) rfl (lt_ rfl) ?_
              clear H a
              intro a H
              refine s_skip H (wantU H rfl rfl) rfl (lt_ rfl) ?_
              clear H a
              intro a H
              refine s_skip H (wantU H rfl rfl) rfl (lt_ rfl) ?_
              clear H a
              intro a H
              refine s_skip H (wantU H rfl rfl) rfl (lt_ rfl) ?_
              clear H a
              intro a H
              refine s_skip H (wantU H rfl rfl) rfl (lt_ rfl) ?_
              clear H a
              intro a H
              refine s_skip H (wantU H rfl rfl) rfl (lt_ rfl) ?_
              clear H a
              intro a H
              refine s_skip H (wantU H rfl rfl) rfl (lt_ rfl) ?_
              clear H a
              intro a H
              refine s_skip H (wantU H rfl rfl) rfl (lt_ rfl) ?_
              clear H a
              intro a H
              refine s_skip H (wantU H rfl rfl) rfl (lt_ rfl) ?_
              clear H a
              intro a H
              refine s_skip H (wantU H rfl rfl) rfl (lt_ rfl) ?_
              clear H a
              intro a H
              refine s_skip H (wantU H rfl rfl) rfl (lt_ rfl) ?_
              clear H a
              intro a H
              refine s_skip H (wantN H rfl rfl rfl) rfl (lt_ rfl) ?_
              clear H a
              intro a H
              refine s_pickT H rfl rfl rfl (lt_ rfl) ?_
              clear H a
              intro a H
              replace h := hn164 hg137
              subst h
              exact hr138 _ (H.weaken ⟨rfl, rfl, rfl, rfl, rfl, trivial⟩)
            · replace H := H.ch (t := 88) (b := false) rfl hg137
              replace h := hy163 hg137
              refine s_move H (wantG H rfl rfl) rfl (lt_ rfl) ?_
              clear H a
              intro a H
              refine s_move H (wantG H rfl rfl) rfl (lt_ rfl) ?_
              clear H a
              intro a H
              refine s_move H (wantG H rfl rfl) rfl (lt_ rfl) ?_
              clear H a
              intro a H
              obtain ⟨a139, hi140, hi141, hi142, h⟩ := h
              refine s_idxS (s := l1) H (wantG H rfl rfl) rfl rfl slc_37 hi140 hi141 hi142 (lt_ rfl) ?_
              clear H a
              intro a H
              obtain ⟨l143, hc144, h⟩ := h
              refine s_load (v := (Slc.v l143)) H (wantG H rfl rfl) rfl one_28 hc144 (lt_ rfl) ?_
              clear H a
              intro a H
              refine s_blt H (wantG H rfl rfl) (H.args (vs := [(Slc.v l143)]) rfl) (lt_ rfl) (fun cs => b_lenS (z := l143) sl_28) ?_
              clear H a
              intro a H
              refine s_bin H (wantG H rfl rfl) rfl rfl r_lss (lt_ rfl) ?_
              clear H a
              intro a H
              refine s_move H (wantG H rfl rfl) rfl (lt_ rfl) ?_
              clear H a
              intro a H
              obtain ⟨x159, hy160, hn161, h⟩ := h
              refine g_join (n := 111) [(109, (.bool x159)), (0, (Slc.v l1)), (5, (Slc.v more50)), (9, (.int .i64 i98)), (10, (.int .i64 j110)), (88, (.bool false))] (.succ (.succ (.succ (.succ (.succ (.succ (.succ (.succ (.succ (.succ (.succ (.succ (.succ (.zero _)))))))))))))) ?_ ?_
              · intro hr146
                try clear h
                rcases Bool.eq_false_or_eq_true (decide (j110 < (l143.l : Int))) with hg145 | hg145
                · replace H := H.ch (t := 96) (b := true) rfl hg145
                  replace h := hy160 hg145
                  refine s_move H (wantG H rfl rfl) rfl (lt_ rfl) ?_
                  clear H a
                  intro a H
                  refine s_move H (wantG H rfl rfl) rfl (lt_ rfl) ?_
                  clear H a
                  intro a H
                  obtain ⟨a147, hi148, hi149, hi150, h⟩ := h
                  refine s_idxS (s := l1) H (wantG H rfl rfl) rfl rfl slc_37 hi148 hi149 hi150 (lt_ rfl) ?_
                  clear H a
                  intro a H
                  obtain ⟨l151, hc152, h⟩ := h
                  refine s_load (v := (Slc.v l151)) H (wantG H rfl rfl) rfl one_28 hc152 (lt_ rfl) ?_
                  clear H a
                  intro a H
                  refine s_move H (wantG H rfl rfl) rfl (lt_ rfl) ?_
                  clear H a
                  intro a H
                  obtain ⟨a153, hi154, hi155, hi156, h⟩ := h
                  refine s_idxS (s := l151) H (wantG H rfl rfl) rfl rfl slc_28 hi154 hi155 hi156 (lt_ rfl) ?_
                  clear H a
                  intro a H
                  obtain ⟨l157, hc158, h⟩ := h
                  refine s_load (v := (.int .u8 l157)) H (wantG H rfl rfl) rfl one_5 hc158 (lt_ rfl) ?_
                  clear H a
                  intro a H
                  refine s_move H (wantG H rfl rfl) rfl (lt_ rfl) ?_
                  clear H a
                  intro a H
                  refine s_bin H (wantG H rfl rfl) rfl rfl r_mul (lt_ rfl) ?_
                  clear H a
                  intro a H
                  refine s_bin H (wantG H rfl rfl) rfl rfl r_add (lt_ rfl) ?_
                  clear H a
                  intro a H
                  refine s_cv H (wantG H rfl rfl) rfl (r_cvI some_3 int_5) (lt_ rfl) ?_
                  clear H a
                  intro a H
                  refine s_bin H (wantG H rfl rfl) rfl rfl r_neq (lt_ rfl) ?_
                  clear H a
                  intro a H
                  refine s_pickT H (wantG H rfl rfl) rfl rfl (lt_ rfl) ?_
                  clear H a
                  intro a H
                  subst h
                  exact hr146 _ (H.weaken ⟨rfl, rfl, rfl, rfl, rfl, rfl, trivial⟩)
                · replace H := H.ch (t := 96) (b := false) rfl hg145
                  refine s_skip H (wantN H rfl rfl rfl) rfl (lt_ rfl) ?_
                  clear H a
                  intro a H
                  refine s_skip H (wantN H rfl rfl rfl) rfl (lt_ rfl) ?_
                  clear H a
                  intro a H
                  refine s_skip H (wantN H rfl rfl rfl) rfl (lt_ rfl) ?_
                  clear H a
                  intro a H
                  refine s_skip H (wantN H rfl rfl rfl) rfl (lt_ rfl) ?_
                  clear H a
                  intro a H
                  refine s_skip H (wantN H rfl rfl rfl) rfl (lt_ rfl) ?_
                  clear H a
                  intro a H
                  refine s_skip H (wantN H rfl rfl rfl) rfl (lt_ rfl) ?_
                  clear H a
                  intro a H
                  refine s_skip H (wantN H rfl rfl rfl) rfl (lt_ rfl) ?_
                  clear H a
                  intro a H
                  refine s_skip H (wantN H rfl rfl rfl) rfl (lt_ rfl) ?_
                  clear H a
                  intro a H
                  refine s_skip H (wantN H rfl rfl rfl) rfl (lt_ rfl) ?_
                  clear H a
                  intro a H
                  refine s_skip H (wantN H rfl rfl rfl) rfl (lt_ rfl) ?_
                  clear H a
                  intro a H
                  refine s_skip H (wantN H rfl rfl rfl) rfl (lt_ rfl) ?_
                  clear H a
                  intro a H
                  refine s_skip H (wantN H rfl rfl rfl) rfl (lt_ rfl) ?_
                  clear H a
                  intro a H
                  refine s_pickF H (wantG H rfl rfl) rfl rfl (lt_ rfl) ?_
                  clear H a
                  intro a H
                  replace h := hn161 hg145
                  subst h
                  exact hr146 _ (H.weaken ⟨rfl, rfl, rfl, rfl, rfl, rfl, trivial⟩)
              · clear H a
                clear hy160 hn161
                intro a H
                refine s_pickF H rfl rfl rfl (lt_ rfl) ?_
                clear H a
                intro a H
                subst h
                exact hr138 _ (H.weaken ⟨rfl, rfl, rfl, rfl, rfl, trivial⟩)
          · clear H a
            clear hy163 hn164
            intro a H
            refine c_nil ?_
            refine hK124 _ _ ?_
            refine c_cond H rfl (fun hb165 => ?_) (fun hb165 => ?_)
            · replace h := h.1 hb165
              refine c_seq fun K166 hK166 => ?_
              refine c_reg ?_
              refine s_assign H rfl rfl (lt_ rfl) ?_
              clear H a
              intro a H
              refine c_nil ?_
              refine hK166 _ _ ?_
              refine c_ret ?_
              exact e_ret1 H rfl rfl h
            · replace h := h.2 hb165
              refine c_skip ?_
              refine hK123 _ _ ?_
              refine c_reg ?_
              refine s_move H rfl rfl (lt_ rfl) ?_
              clear H a
              intro a H
              refine s_bin H rfl rfl rfl r_add (lt_ rfl) ?_
              clear H a
              intro a H
              refine s_assign H rfl rfl (lt_ rfl) ?_
              clear H a
              intro a H
              refine c_nil ?_
              refine Exists.intro (wr .i64 (j110 + 1)) ⟨h.1, h.2, H.weaken ⟨rfl, rfl, rfl, rfl, trivial⟩⟩
        · replace h := h.2 hb122
          refine c_exit ?_
          simp only [Exit.then, Exit.inBlock, ↓reduceIte, Nat.reduceEqDiff]
          exact hJ108 _ _ h (H.weaken ⟨rfl, rfl, rfl, trivial⟩)
      · replace h := h.2 hb104
        refine c_exit ?_
        simp only [Exit.then, Exit.inBlock, ↓reduceIte, Nat.reduceEqDiff]
        refine hK96 _ _ ?_
        refine c_seq fun K170 hK170 => ?_
        refine c_reg ?_
        refine s_assign H rfl rfl (lt_ rfl) ?_
        clear H a
        intro a H
        refine c_nil ?_
        refine hK170 _ _ ?_
        refine c_ret ?_
        exact e_ret1 H rfl rfl h

set_option maxRecDepth 100000 in
set_option maxHeartbeats 4000000 in
theorem sim_sherdlaw11_written (x_N1 : Int) (x_K2 : Int) (x_Delta3 : Int) (x_Server4 : Int) (x_Updates5 : Slc) (w : World) (Q : Ending → World → Prop) (h : vc_sherdlaw11_written x_N1 x_K2 x_Delta3 x_Server4 x_Updates5 w Q) : Calls PP F_sherdlaw11_written #[(.agg #[(.int .i64 x_N1), (.int .i64 x_K2), (.int .i64 x_Delta3), (.int .i64 x_Server4), (Slc.v x_Updates5)])] w Q := by
  unfold vc_sherdlaw11_written at h
  refine enter (n := 109) (l := [(.agg #[(.int .i64 x_N1), (.int .i64 x_K2), (.int .i64 x_Delta3), (.int .i64 x_Server4), (Slc.v x_Updates5)])]) Tryd.func14 rfl rfl (Nat.le_of_ble_eq_true rfl) fun a H => ?_
  replace H : Has 109 [] a [(0, (.agg #[(.int .i64 x_N1), (.int .i64 x_K2), (.int .i64 x_Delta3), (.int .i64 x_Server4), (Slc.v x_Updates5)]))] := H
  refine c_seq fun K6 hK6 => ?_
  refine c_reg ?_
  replace h := h.get
  obtain ⟨b7, w8, nb9, h⟩ := h
  refine s_box H rfl rfl (lt_ rfl) ?_
  rw [← nb9.at_]
  clear H a
  intro a H
  refine nb9.go ?_
  replace h := h.get
  obtain ⟨b10, w11, nb12, h⟩ := h
  refine s_alloc H rfl zero_25 (lt_ rfl) ?_
  rw [← nb12.at_]
  clear H a
  intro a H
  refine nb12.go ?_
  refine s_assign H rfl rfl (lt_ rfl) ?_
  clear H a
  intro a H
  refine s_assign H rfl rfl (lt_ rfl) ?_
  clear H a
  intro a H
  refine s_assign H rfl rfl (lt_ rfl) ?_
  clear H a
  intro a H
  refine s_assign H rfl rfl (lt_ rfl) ?_
  clear H a
  intro a H
  refine c_nil ?_
  refine hK6 _ _ ?_
  refine c_seq fun K13 hK13 => ?_
  refine c_reg ?_
  refine s_build H rfl (by rw [H.parts (vs := []) rfl]; exact bd_25 w11) (lt_ rfl) ?_
  clear H a
  intro a H
  replace h := h.get
  obtain ⟨b14, w15, nb16, h⟩ := h
  refine s_alloc H rfl zero_25 (lt_ rfl) ?_
  rw [← nb16.at_]
  clear H a
  intro a H
  refine nb16.go ?_
  refine s_stoN (l := [(.int .i64 0), (.int .i64 0), (.int .i64 0), (.int .i64 0)]) H rfl rfl rfl rfl agg_25 rfl rfl h ?_
  clear h H
  intro w17 h H
  refine c_nil ?_
  refine hK13 _ _ ?_
  refine c_seq fun K18 hK18 => ?_
  refine c_reg ?_
  refine s_fld H rfl rfl fld_49_0 (lt_ rfl) ?_
  clear H a
  intro a H
  obtain ⟨l19, hc20, h⟩ := h
  refine s_load (v := (.int .i64 l19)) H rfl rfl one_3 hc20 (lt_ rfl) ?_
  clear H a
  intro a H
  refine s_call H rfl body_15 (H.args (vs := [(.int .i64 l19), (.int .i64 255)]) rfl) (lt_ rfl) h ?_ (fun c w' h H => e_panic (P := PP) (fn := Tryd.f14) H h)
  clear H h a
  rintro _ w21 a ⟨mod22, rfl, h⟩ H
  refine s_bin H rfl rfl rfl r_add (lt_ rfl) ?_
  clear H a
  intro a H
  refine s_fld H rfl rfl fld_25_0 (lt_ rfl) ?_
  clear H a
  intro a H
  refine s_fld H rfl rfl fld_23_0 (lt_ rfl) ?_
  clear H a
  intro a H
  obtain ⟨hs24, hf25, h⟩ := h
  refine s_sto (p := ((blk b14).add 0).add 0) (v := (.int .i64 (wr .i64 (mod22 + 1)))) H rfl rfl rfl rfl one_3 rfl hs24 hf25 ?_
  clear H
  intro H
  generalize hww23 : World.setCell w21 (((blk b14).add 0).add 0) (.int .i64 (wr .i64 (mod22 + 1))) = w23 at h ⊢
  have w23S : SetAt w21 (((blk b14).add 0).add 0) (.int .i64 (wr .i64 (mod22 + 1))) w23 := ⟨hww23.symm⟩
  clear hww23 hs24 hf25
  refine c_nil ?_
  refine hK18 _ _ ?_
  refine c_seq fun K26 hK26 => ?_
  refine c_reg ?_
  refine s_fld H rfl rfl fld_49_1 (lt_ rfl) ?_
  clear H a
  intro a H
  obtain ⟨l27, hc28, h⟩ := h
  refine s_load (v := (.int .i64 l27)) H rfl rfl one_3 hc28 (lt_ rfl) ?_
  clear H a
  intro a H
  refine s_fld H rfl rfl fld_25_0 (lt_ rfl) ?_
  clear H a
  intro a H
  refine s_fld H rfl rfl fld_23_0 (lt_ rfl) ?_
  clear H a
  intro a H
  obtain ⟨l29, hc30, h⟩ := h
  refine s_load (v := (.int .i64 l29)) H rfl rfl one_3 hc30 (lt_ rfl) ?_
  clear H a
  intro a H
  refine s_call H rfl body_15 (H.args (vs := [(.int .i64 l27), (.int .i64 l29)]) rfl) (lt_ rfl) h ?_ (fun c w' h H => e_panic (P := PP) (fn := Tryd.f14) H h)
  clear H h a
  rintro _ w31 a ⟨mod32, rfl, h⟩ H
  refine s_bin H rfl rfl rfl r_add (lt_ rfl) ?_
  clear H a
  intro a H
  refine s_fld H rfl rfl fld_25_0 (lt_ rfl) ?_
  clear H a
  intro a H
  refine s_fld H rfl rfl fld_23_1 (lt_ rfl) ?_
  clear H a
  intro a H
  obtain ⟨hs34, hf35, h⟩ := h
  refine s_sto (p := ((blk b14).add 0).add 1) (v := (.int .i64 (wr .i64 (mod32 + 1)))) H rfl rfl rfl rfl one_3 rfl hs34 hf35 ?_
  clear H
  intro H
  generalize hww33 : World.setCell w31 (((blk b14).add 0).add 1) (.int .i64 (wr .i64 (mod32 + 1))) = w33 at h ⊢
  have w33S : SetAt w31 (((blk b14).add 0).add 1) (.int .i64 (wr .i64 (mod32 + 1))) w33 := ⟨hww33.symm⟩
  clear hww33 hs34 hf35
  refine c_nil ?_
  refine hK26 _ _ ?_
  refine c_seq fun K36 hK36 => ?_
  refine c_reg ?_
  refine s_fld H rfl rfl fld_49_2 (lt_ rfl) ?_
  clear H a
  intro a H
  obtain ⟨l37, hc38, h⟩ := h
  refine s_load (v := (.int .i64 l37)) H rfl rfl one_3 hc38 (lt_ rfl) ?_
  clear H a
  intro a H
  refine s_blt H rfl (H.args (vs := [(.int .i64 0), (.int .i64 l37)]) rfl) (lt_ rfl) (fun cs => b_max) ?_
  clear H a
  intro a H
  refine s_bin H rfl rfl rfl (r_rem (by decide)) (lt_ rfl) ?_
  clear H a
  intro a H
  refine s_fld H rfl rfl fld_25_0 (lt_ rfl) ?_
  clear H a
  intro a H
  refine s_fld H rfl rfl fld_23_2 (lt_ rfl) ?_
  clear H a
  intro a H
  obtain ⟨hs40, hf41, h⟩ := h
  refine s_sto (p := ((blk b14).add 0).add 2) (v := (.int .i64 ((maxI 0 l37).tmod 4611686018427387904))) H rfl rfl rfl rfl one_3 rfl hs40 hf41 ?_
  clear H
  intro H
  generalize hww39 : World.setCell w33 (((blk b14).add 0).add 2) (.int .i64 ((maxI 0 l37).tmod 4611686018427387904)) = w39 at h ⊢
  have w39S : SetAt w33 (((blk b14).add 0).add 2) (.int .i64 ((maxI 0 l37).tmod 4611686018427387904)) w39 := ⟨hww39.symm⟩
  clear hww39 hs40 hf41
  refine c_nil ?_
  refine hK36 _ _ ?_
  refine c_seq fun K42 hK42 => ?_
  refine c_reg ?_
  refine s_fld H rfl rfl fld_49_3 (lt_ rfl) ?_
  clear H a
  intro a H
  obtain ⟨l43, hc44, h⟩ := h
  refine s_load (v := (.int .i64 l43)) H rfl rfl one_3 hc44 (lt_ rfl) ?_
  clear H a
  intro a H
  refine s_fld H rfl rfl fld_25_0 (lt_ rfl) ?_
  clear H a
  intro a H
  refine s_fld H rfl rfl fld_23_0 (lt_ rfl) ?_
  clear H a
  intro a H
  obtain ⟨l45, hc46, h⟩ := h
  refine s_load (v := (.int .i64 l45)) H rfl rfl one_3 hc46 (lt_ rfl) ?_
  clear H a
  intro a H
  refine s_call H rfl body_15 (H.args (vs := [(.int .i64 l43), (.int .i64 l45)]) rfl) (lt_ rfl) h ?_ (fun c w' h H => e_panic (P := PP) (fn := Tryd.f14) H h)
  clear H h a
  rintro _ w47 a ⟨mod48, rfl, h⟩ H
  refine s_fld H rfl rfl fld_25_1 (lt_ rfl) ?_
  clear H a
  intro a H
  obtain ⟨hs50, hf51, h⟩ := h
  refine s_sto (p := (blk b14).add 3) (v := (.int .i64 mod48)) H rfl rfl rfl rfl one_3 rfl hs50 hf51 ?_
  clear H
  intro H
  generalize hww49 : World.setCell w47 ((blk b14).add 3) (.int .i64 mod48) = w49 at h ⊢
  have w49S : SetAt w47 ((blk b14).add 3) (.int .i64 mod48) w49 := ⟨hww49.symm⟩
  clear hww49 hs50 hf51
  refine c_nil ?_
  refine hK42 _ _ ?_
  refine c_seq fun K52 hK52 => ?_
  refine c_reg ?_
  obtain ⟨l_Config_N53, hc54, h⟩ := h
  obtain ⟨l_Config_K55, hc56, h⟩ := h
  obtain ⟨l_Config_Delta57, hc58, h⟩ := h
  obtain ⟨l_Server59, hc60, h⟩ := h
  refine s_loadN (l := [(.int .i64 l_Config_N53), (.int .i64 l_Config_K55), (.int .i64 l_Config_Delta57), (.int .i64 l_Server59)]) H rfl rfl agg_25 rfl ⟨hc54, hc56, hc58, hc60, trivial⟩ (lt_ rfl) ?_
  clear H a
  intro a H
  refine s_call H rfl body_9 (H.args (vs := [(.agg #[(.int .i64 l_Config_N53), (.int .i64 l_Config_K55), (.int .i64 l_Config_Delta57), (.int .i64 l_Server59)])]) rfl) (lt_ rfl) h ?_ (fun c w' h H => e_panic (P := PP) (fn := Tryd.f14) H h)
  clear H h a
  rintro _ w61 a ⟨Newr62, Newr63, Newr64, rfl, h⟩ H
  refine s_move H rfl rfl (lt_ rfl) ?_
  clear H a
  intro a H
  refine s_ext H rfl rfl rfl (lt_ rfl) ?_
  clear H a
  intro a H
  refine s_ext H rfl rfl rfl (lt_ rfl) ?_
  clear H a
  intro a H
  refine s_ext H rfl rfl rfl (lt_ rfl) ?_
  clear H a
  intro a H
  refine s_assign H rfl rfl (lt_ rfl) ?_
  clear H a
  intro a H
  refine s_assign H rfl rfl (lt_ rfl) ?_
  clear H a
  intro a H
  refine s_assign H rfl rfl (lt_ rfl) ?_
  clear H a
  intro a H
  refine c_nil ?_
  refine hK52 _ _ ?_
  refine c_seq fun K65 hK65 => ?_
  refine c_seq fun K66 hK66 => ?_
  refine c_reg ?_
  refine s_move H rfl rfl (lt_ rfl) ?_
  clear H a
  intro a H
  refine s_bin H rfl rfl rfl (r_eqP0 ptr_32) (lt_ rfl) ?_
  clear H a
  intro a H
  refine s_move H rfl rfl (lt_ rfl) ?_
  clear H a
  intro a H
  refine g_join (n := 109) [(56, (.bool (Newr62.isNone || (decide (Newr64 ≠ 0))))), (1, (.pointer (some (blk b7)))), (2, (.pointer (some (blk b10)))), (7, (.pointer (some (blk b14)))), (8, (.pointer Newr62)), (9, (Slc.v Newr63))] (.succ (.succ (.succ (.zero _)))) ?_ ?_
  · intro hr68
    try clear h
    rcases Bool.eq_false_or_eq_true Newr62.isNone with hg67 | hg67
    · replace H := H.ch (t := 53) (b := true) rfl hg67
      refine s_skip H (wantN H rfl rfl rfl) rfl (lt_ rfl) ?_
      clear H a
      intro a H
      refine s_skip H (wantN H rfl rfl rfl) rfl (lt_ rfl) ?_
      clear H a
      intro a H
      refine s_pickT H rfl rfl rfl (lt_ rfl) ?_
      clear H a
      intro a H
      exact hr68 _ (H.weaken ⟨by rw [hg67]; rfl, rfl, rfl, rfl, rfl, rfl, trivial⟩)
    · replace H := H.ch (t := 53) (b := false) rfl hg67
      refine s_move H (wantG H rfl rfl) rfl (lt_ rfl) ?_
      clear H a
      intro a H
      refine s_bin H (wantG H rfl rfl) rfl rfl r_neq (lt_ rfl) ?_
      clear H a
      intro a H
      refine s_pickF H rfl rfl rfl (lt_ rfl) ?_
      clear H a
      intro a H
      exact hr68 _ (H.weaken ⟨by rw [hg67]; rfl, rfl, rfl, rfl, rfl, rfl, trivial⟩)
  · clear H a
    intro a H
    refine s_move H rfl rfl (lt_ rfl) ?_
    clear H a
    intro a H
    refine g_join (n := 109) [(61, (.bool ((Newr62.isNone || (decide (Newr64 ≠ 0))) || (decide ((Newr63.l : Int) < 9))))), (1, (.pointer (some (blk b7)))), (2, (.pointer (some (blk b10)))), (7, (.pointer (some (blk b14)))), (8, (.pointer Newr62)), (9, (Slc.v Newr63))] (.succ (.succ (.succ (.succ (.zero _))))) ?_ ?_
    · intro hr70
      try clear h
      rcases Bool.eq_false_or_eq_true (Newr62.isNone || (decide (Newr64 ≠ 0))) with hg69 | hg69
      · replace H := H.ch (t := 57) (b := true) rfl hg69
        refine s_skip H (wantN H rfl rfl rfl) rfl (lt_ rfl) ?_
        clear H a
        intro a H
        refine s_skip H (wantN H rfl rfl rfl) rfl (lt_ rfl) ?_
        clear H a
        intro a H
        refine s_skip H (wantN H rfl rfl rfl) rfl (lt_ rfl) ?_
        clear H a
        intro a H
        refine s_pickT H rfl rfl rfl (lt_ rfl) ?_
        clear H a
        intro a H
        exact hr70 _ (H.weaken ⟨by rw [hg69]; rfl, rfl, rfl, rfl, rfl, rfl, trivial⟩)
      · replace H := H.ch (t := 57) (b := false) rfl hg69
        refine s_move H (wantG H rfl rfl) rfl (lt_ rfl) ?_
        clear H a
        intro a H
        refine s_blt H (wantG H rfl rfl) (H.args (vs := [(Slc.v Newr63)]) rfl) (lt_ rfl) (fun cs => b_lenS (z := Newr63) sl_28) ?_
        clear H a
        intro a H
        refine s_bin H (wantG H rfl rfl) rfl rfl r_lss (lt_ rfl) ?_
        clear H a
        intro a H
        refine s_pickF H rfl rfl rfl (lt_ rfl) ?_
        clear H a
        intro a H
        exact hr70 _ (H.weaken ⟨by rw [hg69]; rfl, rfl, rfl, rfl, rfl, rfl, trivial⟩)
    · clear H a
      intro a H
      refine c_nil ?_
      refine hK66 _ _ ?_
      refine c_cond H rfl (fun hb71 => ?_) (fun hb71 => ?_)
      · replace h := h.1 hb71
        refine c_seq fun K72 hK72 => ?_
        refine c_reg ?_
        obtain ⟨l_Config_N73, hc74, h⟩ := h
        obtain ⟨l_Config_K75, hc76, h⟩ := h
        obtain ⟨l_Config_Delta77, hc78, h⟩ := h
        obtain ⟨l_Server79, hc80, h⟩ := h
        refine s_loadN (l := [(.int .i64 l_Config_N73), (.int .i64 l_Config_K75), (.int .i64 l_Config_Delta77), (.int .i64 l_Server79)]) H rfl rfl agg_25 rfl ⟨hc74, hc76, hc78, hc80, trivial⟩ (lt_ rfl) ?_
        clear H a
        intro a H
        refine s_stoN (l := [(.int .i64 l_Config_N73), (.int .i64 l_Config_K75), (.int .i64 l_Config_Delta77), (.int .i64 l_Server79)]) H rfl rfl rfl rfl agg_25 rfl rfl h ?_
        clear h H
        intro w81 h H
        refine s_assign H rfl rfl (lt_ rfl) ?_
        clear H a
        intro a H
        refine s_assign H rfl rfl (lt_ rfl) ?_
        clear H a
        intro a H
        refine s_assign H rfl rfl (lt_ rfl) ?_
        clear H a
        intro a H
        refine s_assign H rfl rfl (lt_ rfl) ?_
        clear H a
        intro a H
        refine c_nil ?_
        refine hK72 _ _ ?_
        refine c_ret ?_
        obtain ⟨res_Config_N82, hc83, h⟩ := h
        obtain ⟨res_Config_K84, hc85, h⟩ := h
        obtain ⟨res_Config_Delta86, hc87, h⟩ := h
        obtain ⟨res_Server88, hc89, h⟩ := h
        exact e_ret5 H rfl ⟨_, rfl, run_loadN (l := [(.int .i64 res_Config_N82), (.int .i64 res_Config_K84), (.int .i64 res_Config_Delta86), (.int .i64 res_Server88)]) agg_25 rfl ⟨hc83, hc85, hc87, hc89, trivial⟩⟩ rfl rfl rfl rfl h
      · replace h := h.2 hb71
        refine c_skip ?_
        refine hK65 _ _ ?_
        refine c_seq fun K90 hK90 => ?_
        refine c_reg ?_
        refine s_move H rfl rfl (lt_ rfl) ?_
        clear H a
        intro a H
        refine s_blt H rfl (H.args (vs := [(Slc.v Newr63)]) rfl) (lt_ rfl) (fun cs => b_lenS (z := Newr63) sl_28) ?_
        clear H a
        intro a H
        replace h := h.get
        obtain ⟨b91, w92, nb93, h⟩ := h
        refine s_bslc H rfl (by rw [H.parts (vs := [(0, (.int .i64 (Newr63.l : Int)))]) rfl]; exact bs_50_1_ii640 w61 (Newr63.l : Int)) (lt_ rfl) ?_
        rw [← nb93.at_]
        clear H a
        intro a H
        refine nb93.go ?_
        refine s_assign H rfl rfl (lt_ rfl) ?_
        clear H a
        intro a H
        refine c_nil ?_
        refine hK90 _ _ ?_
        refine c_seq fun K94 hK94 => ?_
        refine c_reg ?_
        refine s_assign H rfl rfl (lt_ rfl) ?_
        clear H a
        intro a H
        refine c_nil ?_
        refine hK94 _ _ ?_
        refine c_seq fun K95 hK95 => ?_
        refine c_seq fun K96 hK96 => ?_
        refine c_reg ?_
        refine s_assign H rfl rfl (lt_ rfl) ?_
        clear H a
        intro a H
        refine c_nil ?_
        refine hK96 _ _ ?_
        refine c_block ?_
        obtain ⟨I102, mu103, h0220, hl221⟩ := h
        refine c_loop (σ := Slc × Slc × Slc × Int) (fun z w => I102 z.1 z.2.1 z.2.2.1 z.2.2.2 w) (fun z w => mu103 z.1 z.2.1 z.2.2.1 z.2.2.2 w) (fun z => [(1, (.pointer (some (blk b7)))), (2, (.pointer (some (blk b10)))), (7, (.pointer (some (blk b14)))), (8, (.pointer Newr62)), (9, (Slc.v z.1)), (11, (Slc.v z.2.1)), (12, (Slc.v z.2.2.1)), (13, (.int .i64 z.2.2.2))]) (Newr63, Slc.mk (some (blk b91)) 1 1, Slc.nil, 0) h0220 (H.weaken ⟨rfl, rfl, rfl, rfl, rfl, rfl, rfl, rfl, trivial⟩) ?_
        clear H h0220
        rintro ⟨all97, marks98, us99, i100⟩ a w101 h H
        replace h := hl221 all97 marks98 us99 i100 w101 h
        clear hl221
        replace H : Has 109 [] a [(1, (.pointer (some (blk b7)))), (2, (.pointer (some (blk b10)))), (7, (.pointer (some (blk b14)))), (8, (.pointer Newr62)), (9, (Slc.v all97)), (11, (Slc.v marks98)), (12, (Slc.v us99)), (13, (.int .i64 i100))] := H
        refine c_seq fun K104 hK104 => ?_
        refine c_seq fun K105 hK105 => ?_
        refine c_reg ?_
        refine s_move H rfl rfl (lt_ rfl) ?_
        clear H a
        intro a H
        refine s_fld H rfl rfl fld_49_4 (lt_ rfl) ?_
        clear H a
        intro a H
        obtain ⟨l106, hc107, h⟩ := h
        refine s_load (v := (Slc.v l106)) H rfl rfl one_26 hc107 (lt_ rfl) ?_
        clear H a
        intro a H
        refine s_blt H rfl (H.args (vs := [(Slc.v l106)]) rfl) (lt_ rfl) (fun cs => b_lenS (z := l106) sl_26) ?_
        clear H a
        intro a H
        refine s_bin H rfl rfl rfl r_lss (lt_ rfl) ?_
        clear H a
        intro a H
        refine c_nil ?_
        refine hK105 _ _ ?_
        refine c_cond H rfl (fun hb108 => ?_) (fun hb108 => ?_)
        · replace h := h.1 hb108
          refine c_skip ?_
          refine hK104 _ _ ?_
          refine c_seq fun K109 hK109 => ?_
          obtain ⟨R113, h, hx201⟩ := h
          have hJ115 : ∀ (a : Act) (all110 : Slc) (marks111 : Slc) (us112 : Slc) (w114 : World), R113 all110 marks111 us112 w114 → Has 109 [] a [(1, (.pointer (some (blk b7)))), (2, (.pointer (some (blk b10)))), (7, (.pointer (some (blk b14)))), (8, (.pointer Newr62)), (9, (Slc.v all110)), (11, (Slc.v marks111)), (12, (Slc.v us112)), (13, (.int .i64 i100))] → K109 a w114 := by
            clear h
            intro a all110 marks111 us112 w114 h H
            replace h := hx201 all110 marks111 us112 w114 h
            refine hK109 _ _ ?_
            refine c_reg ?_
            refine s_move H rfl rfl (lt_ rfl) ?_
            clear H a
            intro a H
            refine s_bin H rfl rfl rfl r_add (lt_ rfl) ?_
            clear H a
            intro a H
            refine s_assign H rfl rfl (lt_ rfl) ?_
            clear H a
            intro a H
            refine c_nil ?_
            refine Exists.intro (all110, marks111, us112, wr .i64 (i100 + 1)) ⟨h.1, h.2, H.weaken ⟨rfl, rfl, rfl, rfl, rfl, rfl, rfl, rfl, trivial⟩⟩
          clear hx201
          refine c_block ?_
          refine c_seq fun K116 hK116 => ?_
          refine c_reg ?_
          refine s_move H rfl rfl (lt_ rfl) ?_
          clear H a
          intro a H
          refine s_fld H rfl rfl fld_49_4 (lt_ rfl) ?_
          clear H a
          intro a H
          obtain ⟨l117, hc118, h⟩ := h
          refine s_load (v := (Slc.v l117)) H rfl rfl one_26 hc118 (lt_ rfl) ?_
          clear H a
          intro a H
          refine s_move H rfl rfl (lt_ rfl) ?_
          clear H a
          intro a H
          obtain ⟨a119, hi120, hi121, hi122, h⟩ := h
          refine s_idxS (s := l117) H rfl rfl rfl slc_26 hi120 hi121 hi122 (lt_ rfl) ?_
          clear H a
          intro a H
          obtain ⟨l_Kind123, hc124, h⟩ := h
          obtain ⟨l_Key125, hc126, h⟩ := h
          obtain ⟨l_Entry_Tag_Count127, hc128, h⟩ := h
          obtain ⟨l_Entry_Tag_Client129, hc130, h⟩ := h
          obtain ⟨l_Entry_Fin131, hc132, h⟩ := h
          obtain ⟨l_Entry_Has133, hc134, h⟩ := h
          obtain ⟨l_Entry_Data135, hc136, h⟩ := h
          refine s_loadN (l := [(.int .i64 l_Kind123), (.string l_Key125), (.int .i64 l_Entry_Tag_Count127), (.int .i64 l_Entry_Tag_Client129), (.bool l_Entry_Fin131), (.bool l_Entry_Has133), (Slc.v l_Entry_Data135)]) H rfl rfl agg_45 rfl ⟨hc124, hc126, hc128, hc130, hc132, hc134, hc136, trivial⟩ (lt_ rfl) ?_
          clear H a
          intro a H
          refine s_call H rfl body_19 (H.args (vs := [(.pointer Newr62), (.agg #[(.int .i64 l_Kind123), (.string l_Key125), (.int .i64 l_Entry_Tag_Count127), (.int .i64 l_Entry_Tag_Client129), (.bool l_Entry_Fin131), (.bool l_Entry_Has133), (Slc.v l_Entry_Data135)])]) rfl) (lt_ rfl) h ?_ (fun c w' h H => e_panic (P := PP) (fn := Tryd.f14) H h)
          clear H h a
          rintro _ w137 a ⟨Putr138, Putr139, rfl, h⟩ H
          refine s_move H rfl rfl (lt_ rfl) ?_
          clear H a
          intro a H
          refine s_ext H rfl rfl rfl (lt_ rfl) ?_
          clear H a
          intro a H
          refine s_ext H rfl rfl rfl (lt_ rfl) ?_
          clear H a
          intro a H
          refine s_assign H rfl rfl (lt_ rfl) ?_
          clear H a
          intro a H
          refine s_assign H rfl rfl (lt_ rfl) ?_
          clear H a
          intro a H
          refine c_nil ?_
          refine hK116 _ _ ?_
          refine c_seq fun K140 hK140 => ?_
          refine c_reg ?_
          refine s_move H rfl rfl (lt_ rfl) ?_
          clear H a
          intro a H
          refine s_bin H rfl rfl rfl r_eql (lt_ rfl) ?_
          clear H a
          intro a H
          refine c_nil ?_
          refine hK140 _ _ ?_
          refine c_cond H rfl (fun hb141 => ?_) (fun hb141 => ?_)
          · replace h := h.1 hb141
            refine c_seq fun K142 hK142 => ?_
            refine c_reg ?_
            replace h := h.get
            obtain ⟨b143, w144, nb145, h⟩ := h
            refine s_bslc H rfl (by rw [H.parts (vs := []) rfl]; exact bs_28_0 w137) (lt_ rfl) ?_
            rw [← nb145.at_]
            clear H a
            intro a H
            refine nb145.go ?_
            refine s_move H rfl rfl (lt_ rfl) ?_
            clear H a
            intro a H
            obtain ⟨s146, w147, hq148, h⟩ := h
            refine s_blt H rfl (H.args (vs := [(Slc.v (Slc.mk (some (blk b143)) 0 0)), (Slc.v all97)]) rfl) (lt_ rfl) (fun cs => b_app (z := s146) hq148) ?_
            clear H a hq148
            intro a H
            refine s_move H rfl rfl (lt_ rfl) ?_
            clear H a
            intro a H
            obtain ⟨s149, w150, hq151, h⟩ := h
            refine s_blt H rfl (H.args (vs := [(Slc.v s146), (Slc.v Putr138)]) rfl) (lt_ rfl) (fun cs => b_app (z := s149) hq151) ?_
            clear H a hq151
            intro a H
            refine s_assign H rfl rfl (lt_ rfl) ?_
            clear H a
            intro a H
            refine c_nil ?_
            refine hK142 _ _ ?_
            refine c_seq fun K152 hK152 => ?_
            refine c_reg ?_
            refine s_move H rfl rfl (lt_ rfl) ?_
            clear H a
            intro a H
            refine s_move H rfl rfl (lt_ rfl) ?_
            clear H a
            intro a H
            refine s_blt H rfl (H.args (vs := [(Slc.v s149)]) rfl) (lt_ rfl) (fun cs => b_lenS (z := s149) sl_28) ?_
            clear H a
            intro a H
            replace h := h.get
            obtain ⟨b153, w154, nb155, h⟩ := h
            refine s_bslc H rfl (by rw [H.parts (vs := [(0, (.int .i64 (s149.l : Int)))]) rfl]; exact bs_50_1_ii640 w150 (s149.l : Int)) (lt_ rfl) ?_
            rw [← nb155.at_]
            clear H a
            intro a H
            refine nb155.go ?_
            obtain ⟨s156, w157, hq158, h⟩ := h
            refine s_blt H rfl (H.args (vs := [(Slc.v marks98), (Slc.v (Slc.mk (some (blk b153)) 1 1))]) rfl) (lt_ rfl) (fun cs => b_app (z := s156) hq158) ?_
            clear H a hq158
            intro a H
            refine s_assign H rfl rfl (lt_ rfl) ?_
            clear H a
            intro a H
            refine c_nil ?_
            refine hK152 _ _ ?_
            refine c_reg ?_
            refine s_move H rfl rfl (lt_ rfl) ?_
            clear H a
            intro a H
            refine s_fld H rfl rfl fld_49_4 (lt_ rfl) ?_
            clear H a
            intro a H
            obtain ⟨l159, hc160, h⟩ := h
            refine s_load (v := (Slc.v l159)) H rfl rfl one_26 hc160 (lt_ rfl) ?_
            clear H a
            intro a H
            refine s_move H rfl rfl (lt_ rfl) ?_
            clear H a
            intro a H
            obtain ⟨a161, hi162, hi163, hi164, h⟩ := h
            refine s_idxS (s := l159) H rfl rfl rfl slc_26 hi162 hi163 hi164 (lt_ rfl) ?_
            clear H a
            intro a H
            obtain ⟨l_Kind165, hc166, h⟩ := h
            obtain ⟨l_Key167, hc168, h⟩ := h
            obtain ⟨l_Entry_Tag_Count169, hc170, h⟩ := h
            obtain ⟨l_Entry_Tag_Client171, hc172, h⟩ := h
            obtain ⟨l_Entry_Fin173, hc174, h⟩ := h
            obtain ⟨l_Entry_Has175, hc176, h⟩ := h
            obtain ⟨l_Entry_Data177, hc178, h⟩ := h
            refine s_loadN (l := [(.int .i64 l_Kind165), (.string l_Key167), (.int .i64 l_Entry_Tag_Count169), (.int .i64 l_Entry_Tag_Client171), (.bool l_Entry_Fin173), (.bool l_Entry_Has175), (Slc.v l_Entry_Data177)]) H rfl rfl agg_45 rfl ⟨hc166, hc168, hc170, hc172, hc174, hc176, hc178, trivial⟩ (lt_ rfl) ?_
            clear H a
            intro a H
            refine s_call H rfl body_29 (H.args (vs := [(.agg #[(.int .i64 l_Kind165), (.string l_Key167), (.int .i64 l_Entry_Tag_Count169), (.int .i64 l_Entry_Tag_Client171), (.bool l_Entry_Fin173), (.bool l_Entry_Has175), (Slc.v l_Entry_Data177)])]) rfl) (lt_ rfl) h ?_ (fun c w' h H => e_panic (P := PP) (fn := Tryd.f14) H h)
            clear H h a
            rintro _ w179 a ⟨own_Kind180, own_Key181, own_Entry_Tag_Count182, own_Entry_Tag_Client183, own_Entry_Fin184, own_Entry_Has185, own_Entry_Data186, rfl, h⟩ H
            replace h := h.get
            obtain ⟨b187, w188, nb189, h⟩ := h
            refine s_bslc H rfl (by rw [H.parts (vs := [(0, (.agg #[(.int .i64 own_Kind180), (.string own_Key181), (.int .i64 own_Entry_Tag_Count182), (.int .i64 own_Entry_Tag_Client183), (.bool own_Entry_Fin184), (.bool own_Entry_Has185), (Slc.v own_Entry_Data186)]))]) rfl]; exact bs_26_1_ii64sii64ii64bbs0 w179 own_Kind180 own_Key181 own_Entry_Tag_Count182 own_Entry_Tag_Client183 own_Entry_Fin184 own_Entry_Has185 own_Entry_Data186) (lt_ rfl) ?_
            rw [← nb189.at_]
            clear H a
            intro a H
            refine nb189.go ?_
            obtain ⟨s190, w191, hq192, h⟩ := h
            refine s_blt H rfl (H.args (vs := [(Slc.v us99), (Slc.v (Slc.mk (some (blk b187)) 1 1))]) rfl) (lt_ rfl) (fun cs => b_app (z := s190) hq192) ?_
            clear H a hq192
            intro a H
            refine s_assign H rfl rfl (lt_ rfl) ?_
            clear H a
            intro a H
            refine c_nil ?_
            exact hJ115 _ _ _ _ _ h (H.weaken ⟨rfl, rfl, rfl, rfl, rfl, rfl, rfl, rfl, trivial⟩)
          · replace h := h.2 hb141
            refine c_skip ?_
            exact hJ115 _ _ _ _ _ h (H.weaken ⟨rfl, rfl, rfl, rfl, rfl, rfl, rfl, rfl, trivial⟩)
        · replace h := h.2 hb108
          refine c_exit ?_
          simp only [Exit.then, Exit.inBlock, ↓reduceIte, Nat.reduceEqDiff]
          refine hK95 _ _ ?_
          refine c_seq fun K202 hK202 => ?_
          refine c_reg ?_
          obtain ⟨l_Config_N203, hc204, h⟩ := h
          obtain ⟨l_Config_K205, hc206, h⟩ := h
          obtain ⟨l_Config_Delta207, hc208, h⟩ := h
          obtain ⟨l_Server209, hc210, h⟩ := h
          refine s_loadN (l := [(.int .i64 l_Config_N203), (.int .i64 l_Config_K205), (.int .i64 l_Config_Delta207), (.int .i64 l_Server209)]) H rfl rfl agg_25 rfl ⟨hc204, hc206, hc208, hc210, trivial⟩ (lt_ rfl) ?_
          clear H a
          intro a H
          refine s_move H rfl rfl (lt_ rfl) ?_
          clear H a
          intro a H
          refine s_move H rfl rfl (lt_ rfl) ?_
          clear H a
          intro a H
          refine s_move H rfl rfl (lt_ rfl) ?_
          clear H a
          intro a H
          refine s_move H rfl rfl (lt_ rfl) ?_
          clear H a
          intro a H
          refine s_stoN (l := [(.int .i64 l_Config_N203), (.int .i64 l_Config_K205), (.int .i64 l_Config_Delta207), (.int .i64 l_Server209)]) H rfl rfl rfl rfl agg_25 rfl rfl h ?_
          clear h H
          intro w211 h H
          refine s_assign H rfl rfl (lt_ rfl) ?_
          clear H a
          intro a H
          refine s_assign H rfl rfl (lt_ rfl) ?_
          clear H a
          intro a H
          refine s_assign H rfl rfl (lt_ rfl) ?_
          clear H a
          intro a H
          refine s_assign H rfl rfl (lt_ rfl) ?_
          clear H a
          intro a H
          refine c_nil ?_
          refine hK202 _ _ ?_
          refine c_ret ?_
          obtain ⟨res_Config_N212, hc213, h⟩ := h
          obtain ⟨res_Config_K214, hc215, h⟩ := h
          obtain ⟨res_Config_Delta216, hc217, h⟩ := h
          obtain ⟨res_Server218, hc219, h⟩ := h
          exact e_ret5 H rfl ⟨_, rfl, run_loadN (l := [(.int .i64 res_Config_N212), (.int .i64 res_Config_K214), (.int .i64 res_Config_Delta216), (.int .i64 res_Server218)]) agg_25 rfl ⟨hc213, hc215, hc217, hc219, trivial⟩⟩ rfl rfl rfl rfl h

set_option maxRecDepth 100000 in
set_option maxHeartbeats 4000000 in
theorem sim_sherdlaw11_mod (k1 : Int) (n2 : Int) (w : World) (Q : Ending → World → Prop) (h : vc_sherdlaw11_mod k1 n2 w Q) : Calls PP F_sherdlaw11_mod #[(.int .i64 k1), (.int .i64 n2)] w Q := by
  unfold vc_sherdlaw11_mod at h
  refine enter (n := 15) (l := [(.int .i64 k1), (.int .i64 n2)]) Tryd.func15 rfl rfl (Nat.le_of_ble_eq_true rfl) fun a H => ?_
  replace H : Has 15 [] a [(0, (.int .i64 k1)), (1, (.int .i64 n2))] := H
  refine c_seq fun K3 hK3 => ?_
  refine c_reg ?_
  refine s_assign H rfl rfl (lt_ rfl) ?_
  clear H a
  intro a H
  refine c_nil ?_
  refine hK3 _ _ ?_
  refine c_seq fun K4 hK4 => ?_
  refine c_reg ?_
  refine s_move H rfl rfl (lt_ rfl) ?_
  clear H a
  intro a H
  refine s_move H rfl rfl (lt_ rfl) ?_
  clear H a
  intro a H
  obtain ⟨hz5, h⟩ := h
  refine s_bin H rfl rfl rfl (r_rem hz5) (lt_ rfl) ?_
  clear H a
  intro a H
  refine s_assign H rfl rfl (lt_ rfl) ?_
  clear H a
  intro a H
  refine c_nil ?_
  refine hK4 _ _ ?_
  refine c_seq fun K6 hK6 => ?_
  obtain ⟨R8, h, hx14⟩ := h
  have hJ11 : ∀ (a : Act) (r7 : Int) (w9 : World), R8 r7 w9 → Has 15 [] a [(5, (.int .i64 r7))] → K6 a w9 := by
    clear h
    intro a r7 w9 h H
    replace h := hx14 r7 w9 h
    refine hK6 _ _ ?_
    refine c_seq fun K10 hK10 => ?_
    refine c_reg ?_
    refine s_move H rfl rfl (lt_ rfl) ?_
    clear H a
    intro a H
    refine s_assign H rfl rfl (lt_ rfl) ?_
    clear H a
    intro a H
    refine c_nil ?_
    refine hK10 _ _ ?_
    refine c_ret ?_
    exact e_ret1 H rfl rfl h
  clear hx14
  refine c_seq fun K12 hK12 => ?_
  refine c_reg ?_
  refine s_move H rfl rfl (lt_ rfl) ?_
  clear H a
  intro a H
  refine s_bin H rfl rfl rfl r_lss (lt_ rfl) ?_
  clear H a
  intro a H
  refine c_nil ?_
  refine hK12 _ _ ?_
  refine c_cond H rfl (fun hb13 => ?_) (fun hb13 => ?_)
  · replace h := h.1 hb13
    refine c_reg ?_
    refine s_move H rfl rfl (lt_ rfl) ?_
    clear H a
    intro a H
    refine s_move H rfl rfl (lt_ rfl) ?_
    clear H a
    intro a H
    refine s_bin H rfl rfl rfl r_add (lt_ rfl) ?_
    clear H a
    intro a H
    refine s_assign H rfl rfl (lt_ rfl) ?_
    clear H a
    intro a H
    refine c_nil ?_
    exact hJ11 _ _ _ h (H.weaken ⟨rfl, trivial⟩)
  · replace h := h.2 hb13
    refine c_skip ?_
    exact hJ11 _ _ _ h (H.weaken ⟨rfl, trivial⟩)

set_option maxRecDepth 100000 in
set_option maxHeartbeats 4000000 in
theorem sim_sherdlaw11_ints (a1 : Slc) (b2 : Slc) (w : World) (Q : Ending → World → Prop) (h : vc_sherdlaw11_ints a1 b2 w Q) : Calls PP F_sherdlaw11_ints #[(Slc.v a1), (Slc.v b2)] w Q := by
  unfold vc_sherdlaw11_ints at h
  refine enter (n := 26) (l := [(Slc.v a1), (Slc.v b2)]) Tryd.func18 rfl rfl (Nat.le_of_ble_eq_true rfl) fun a H => ?_
  replace H : Has 26 [] a [(0, (Slc.v a1)), (1, (Slc.v b2))] := H
  refine c_seq fun K3 hK3 => ?_
  refine c_reg ?_
  refine s_assign H rfl rfl (lt_ rfl) ?_
  clear H a
  intro a H
  refine c_nil ?_
  refine hK3 _ _ ?_
  refine c_seq fun K4 hK4 => ?_
  refine c_seq fun K5 hK5 => ?_
  refine c_reg ?_
  refine s_move H rfl rfl (lt_ rfl) ?_
  clear H a
  intro a H
  refine s_blt H rfl (H.args (vs := [(Slc.v a1)]) rfl) (lt_ rfl) (fun cs => b_lenS (z := a1) sl_50) ?_
  clear H a
  intro a H
  refine s_move H rfl rfl (lt_ rfl) ?_
  clear H a
  intro a H
  refine s_blt H rfl (H.args (vs := [(Slc.v b2)]) rfl) (lt_ rfl) (fun cs => b_lenS (z := b2) sl_50) ?_
  clear H a
  intro a H
  refine s_bin H rfl rfl rfl r_neq (lt_ rfl) ?_
  clear H a
  intro a H
  refine c_nil ?_
  refine hK5 _ _ ?_
  refine c_cond H rfl (fun hb6 => ?_) (fun hb6 => ?_)
  · replace h := h.1 hb6
    refine c_seq fun K7 hK7 => ?_
    refine c_reg ?_
    refine s_assign H rfl rfl (lt_ rfl) ?_
    clear H a
    intro a H
    refine c_nil ?_
    refine hK7 _ _ ?_
    refine c_ret ?_
    exact e_ret1 H rfl rfl h
  · replace h := h.2 hb6
    refine c_skip ?_
    refine hK4 _ _ ?_
    refine c_seq fun K8 hK8 => ?_
    refine c_seq fun K9 hK9 => ?_
    refine c_reg ?_
    refine s_assign H rfl rfl (lt_ rfl) ?_
    clear H a
    intro a H
    refine c_nil ?_
    refine hK9 _ _ ?_
    refine c_block ?_
    obtain ⟨I12, mu13, h035, hl36⟩ := h
    refine c_loop (σ := Int) (fun z w => I12 z w) (fun z w => mu13 z w) (fun z => [(0, (Slc.v a1)), (1, (Slc.v b2)), (5, (.int .i64 z))]) 0 h035 (H.weaken ⟨rfl, rfl, rfl, trivial⟩) ?_
    clear H h035
    rintro i10 a w11 h H
    replace h := hl36 i10 w11 h
    clear hl36
    replace H : Has 26 [] a [(0, (Slc.v a1)), (1, (Slc.v b2)), (5, (.int .i64 i10))] := H
    refine c_seq fun K14 hK14 => ?_
    refine c_seq fun K15 hK15 => ?_
    refine c_reg ?_
    refine s_move H rfl rfl (lt_ rfl) ?_
    clear H a
    intro a H
    refine s_move H rfl rfl (lt_ rfl) ?_
    clear H a
    intro a H
    refine s_blt H rfl (H.args (vs := [(Slc.v a1)]) rfl) (lt_ rfl) (fun cs => b_lenS (z := a1) sl_50) ?_
    clear H a
    intro a H
    refine s_bin H rfl rfl rfl r_lss (lt_ rfl) ?_
    clear H a
    intro a H
    refine c_nil ?_
    refine hK15 _ _ ?_
    refine c_cond H rfl (fun hb16 => ?_) (fun hb16 => ?_)
    · replace h := h.1 hb16
      refine c_skip ?_
      refine hK14 _ _ ?_
      refine c_seq fun K17 hK17 => ?_
      refine c_block ?_
      refine c_seq fun K18 hK18 => ?_
      refine c_regD mixed (by kernel_rfl) ?_
      refine z_move H rfl rfl (lt_ rfl) ?_
      clear H a
      intro a H
      refine z_move H rfl rfl (lt_ rfl) ?_
      clear H a
      intro a H
      obtain ⟨a20, hi21, hi22, hi23, h⟩ := h
      refine z_idxS (s := a1) H rfl rfl rfl slc_50 hi21 hi22 hi23 (lt_ rfl) ?_
      clear H a
      intro a H
      obtain ⟨l24, hc25, h⟩ := h
      refine z_load (v := (.int .i64 l24)) H rfl rfl one_3 hc25 (lt_ rfl) ?_
      clear H a
      intro a H
      refine z_move H rfl rfl (lt_ rfl) ?_
      clear H a
      intro a H
      refine z_move H rfl rfl (lt_ rfl) ?_
      clear H a
      intro a H
      obtain ⟨a26, hi27, hi28, hi29, h⟩ := h
      refine z_idxS (s := b2) H rfl rfl rfl slc_50 hi27 hi28 hi29 (lt_ rfl) ?_
      clear H a
      intro a H
      obtain ⟨l30, hc31, h⟩ := h
      refine z_load (v := (.int .i64 l30)) H rfl rfl one_3 hc31 (lt_ rfl) ?_
      clear H a
      intro a H
      refine z_bin H rfl rfl rfl r_neq (lt_ rfl) ?_
      clear H a
      intro a H
      refine wpQuiet_nil ?_
      rintro _ ⟨k19, rfl⟩
      replace h := h k19
      refine hK18 _ _ ?_
      refine c_cond H rfl (fun hb32 => ?_) (fun hb32 => ?_)
      · replace h := h.1 hb32
        refine c_seq fun K33 hK33 => ?_
        refine c_reg ?_
        refine s_assign H rfl rfl (lt_ rfl) ?_
        clear H a
        intro a H
        refine c_nil ?_
        refine hK33 _ _ ?_
        refine c_ret ?_
        exact e_ret1 H rfl rfl h
      · replace h := h.2 hb32
        refine c_skip ?_
        refine hK17 _ _ ?_
        refine c_reg ?_
        refine s_move H rfl rfl (lt_ rfl) ?_
        clear H a
        intro a H
        refine s_bin H rfl rfl rfl r_add (lt_ rfl) ?_
        clear H a
        intro a H
        refine s_assign H rfl rfl (lt_ rfl) ?_
        clear H a
        intro a H
        refine c_nil ?_
        refine Exists.intro (wr .i64 (i10 + 1)) ⟨h.1, h.2, H.weaken ⟨rfl, rfl, rfl, trivial⟩⟩
    · replace h := h.2 hb16
      refine c_exit ?_
      simp only [Exit.then, Exit.inBlock, ↓reduceIte, Nat.reduceEqDiff]
      refine hK8 _ _ ?_
      refine c_seq fun K34 hK34 => ?_
      refine c_reg ?_
      refine s_assign H rfl rfl (lt_ rfl) ?_
      clear H a
      intro a H
      refine c_nil ?_
      refine hK34 _ _ ?_
      refine c_ret ?_
      exact e_ret1 H rfl rfl h

set_option maxRecDepth 100000 in
set_option maxHeartbeats 4000000 in
theorem sim_record_Writer_Put (w1 : Option Addr) (u_Kind2 : Int) (u_Key3 : ByteArray) (u_Entry_Tag_Count4 : Int) (u_Entry_Tag_Client5 : Int) (u_Entry_Fin6 : Bool) (u_Entry_Has7 : Bool) (u_Entry_Data8 : Slc) (w : World) (Q : Ending → World → Prop) (h : vc_record_Writer_Put w1 u_Kind2 u_Key3 u_Entry_Tag_Count4 u_Entry_Tag_Client5 u_Entry_Fin6 u_Entry_Has7 u_Entry_Data8 w Q) : Calls PP F_record_Writer_Put #[(.pointer w1), (.agg #[(.int .i64 u_Kind2), (.string u_Key3), (.int .i64 u_Entry_Tag_Count4), (.int .i64 u_Entry_Tag_Client5), (.bool u_Entry_Fin6), (.bool u_Entry_Has7), (Slc.v u_Entry_Data8)])] w Q := by
  unfold vc_record_Writer_Put at h
  refine enter (n := 50) (l := [(.pointer w1), (.agg #[(.int .i64 u_Kind2), (.string u_Key3), (.int .i64 u_Entry_Tag_Count4), (.int .i64 u_Entry_Tag_Client5), (.bool u_Entry_Fin6), (.bool u_Entry_Has7), (Slc.v u_Entry_Data8)])]) Tryd.func19 rfl rfl (Nat.le_of_ble_eq_true rfl) fun a H => ?_
  replace H : Has 50 [] a [(0, (.pointer w1)), (1, (.agg #[(.int .i64 u_Kind2), (.string u_Key3), (.int .i64 u_Entry_Tag_Count4), (.int .i64 u_Entry_Tag_Client5), (.bool u_Entry_Fin6), (.bool u_Entry_Has7), (Slc.v u_Entry_Data8)]))] := H
  refine c_seq fun K9 hK9 => ?_
  refine c_reg ?_
  replace h := h.get
  obtain ⟨b10, w11, nb12, h⟩ := h
  refine s_box H rfl rfl (lt_ rfl) ?_
  rw [← nb12.at_]
  clear H a
  intro a H
  refine nb12.go ?_
  refine s_assign H rfl rfl (lt_ rfl) ?_
  clear H a
  intro a H
  refine s_assign H rfl rfl (lt_ rfl) ?_
  clear H a
  intro a H
  refine c_nil ?_
  refine hK9 _ _ ?_
  refine c_seq fun K13 hK13 => ?_
  refine c_seq fun K14 hK14 => ?_
  refine c_reg ?_
  refine s_move H rfl rfl (lt_ rfl) ?_
  clear H a
  intro a H
  refine s_bin H rfl rfl rfl (r_eqP0 ptr_32) (lt_ rfl) ?_
  clear H a
  intro a H
  refine c_nil ?_
  refine hK14 _ _ ?_
  refine c_cond H rfl (fun hb15 => ?_) (fun hb15 => ?_)
  · replace h := h.1 hb15
    refine c_seq fun K16 hK16 => ?_
    refine c_reg ?_
    refine s_assign H rfl rfl (lt_ rfl) ?_
    clear H a
    intro a H
    refine s_assign H rfl rfl (lt_ rfl) ?_
    clear H a
    intro a H
    refine c_nil ?_
    refine hK16 _ _ ?_
    refine c_ret ?_
    exact e_ret2 H rfl rfl rfl h
  · replace h := h.2 hb15
    refine c_skip ?_
    refine hK13 _ _ ?_
    refine c_seq fun K17 hK17 => ?_
    refine c_seq fun K18 hK18 => ?_
    refine c_reg ?_
    refine s_loadN (l := [(.int .i64 u_Kind2), (.string u_Key3), (.int .i64 u_Entry_Tag_Count4), (.int .i64 u_Entry_Tag_Client5), (.bool u_Entry_Fin6), (.bool u_Entry_Has7), (Slc.v u_Entry_Data8)]) H rfl rfl agg_45 rfl ⟨(nb12.cell (i := 0) rfl), (nb12.cell (i := 1) rfl), (nb12.cell (i := 2) rfl), (nb12.cell (i := 3) rfl), (nb12.cell (i := 4) rfl), (nb12.cell (i := 5) rfl), (nb12.cell (i := 6) rfl), trivial⟩ (lt_ rfl) ?_
    clear H a
    intro a H
    refine s_call H rfl body_36 (H.args (vs := [(.agg #[(.int .i64 u_Kind2), (.string u_Key3), (.int .i64 u_Entry_Tag_Count4), (.int .i64 u_Entry_Tag_Client5), (.bool u_Entry_Fin6), (.bool u_Entry_Has7), (Slc.v u_Entry_Data8)])]) rfl) (lt_ rfl) h ?_ (fun c w' h H => e_panic (P := PP) (fn := Tryd.f19) H h)
    clear H h a
    rintro _ w19 a ⟨may20, rfl, h⟩ H
    refine s_assign H rfl rfl (lt_ rfl) ?_
    clear H a
    intro a H
    refine c_nil ?_
    refine hK18 _ _ ?_
    refine c_seq fun K21 hK21 => ?_
    refine c_reg ?_
    refine s_move H rfl rfl (lt_ rfl) ?_
    clear H a
    intro a H
    refine s_bin H rfl rfl rfl r_neq (lt_ rfl) ?_
    clear H a
    intro a H
    refine c_nil ?_
    refine hK21 _ _ ?_
    refine c_cond H rfl (fun hb22 => ?_) (fun hb22 => ?_)
    · replace h := h.1 hb22
      refine c_seq fun K23 hK23 => ?_
      refine c_reg ?_
      refine s_move H rfl rfl (lt_ rfl) ?_
      clear H a
      intro a H
      refine s_assign H rfl rfl (lt_ rfl) ?_
      clear H a
      intro a H
      refine s_assign H rfl rfl (lt_ rfl) ?_
      clear H a
      intro a H
      refine c_nil ?_
      refine hK23 _ _ ?_
      refine c_ret ?_
      exact e_ret2 H rfl rfl rfl h
    · replace h := h.2 hb22
      refine c_skip ?_
      refine hK17 _ _ ?_
      refine c_seq fun K24 hK24 => ?_
      refine c_reg ?_
      refine s_call H rfl body_37 (H.args (vs := []) rfl) (lt_ rfl) h ?_ (fun c w' h H => e_panic (P := PP) (fn := Tryd.f19) H h)
      clear H h a
      rintro _ w25 a ⟨NewWri26, rfl, h⟩ H
      refine s_assign H rfl rfl (lt_ rfl) ?_
      clear H a
      intro a H
      refine c_nil ?_
      refine hK24 _ _ ?_
      refine c_seq fun K27 hK27 => ?_
      refine c_reg ?_
      refine s_move H rfl rfl (lt_ rfl) ?_
      clear H a
      intro a H
      refine s_call H rfl body_38 (H.args (vs := [(.pointer NewWri26), (.int .u8 82)]) rfl) (lt_ rfl) h ?_ (fun c w' h H => e_panic (P := PP) (fn := Tryd.f19) H h)
      clear H h a
      rintro _ w28 a ⟨rfl, h⟩ H
      refine c_nil ?_
      refine hK27 _ _ ?_
      refine c_seq fun K29 hK29 => ?_
      refine c_reg ?_
      refine s_move H rfl rfl (lt_ rfl) ?_
      clear H a
      intro a H
      obtain ⟨l_Kind30, hc31, h⟩ := h
      obtain ⟨l_Key32, hc33, h⟩ := h
      obtain ⟨l_Entry_Tag_Count34, hc35, h⟩ := h
      obtain ⟨l_Entry_Tag_Client36, hc37, h⟩ := h
      obtain ⟨l_Entry_Fin38, hc39, h⟩ := h
      obtain ⟨l_Entry_Has40, hc41, h⟩ := h
      obtain ⟨l_Entry_Data42, hc43, h⟩ := h
      refine s_loadN (l := [(.int .i64 l_Kind30), (.string l_Key32), (.int .i64 l_Entry_Tag_Count34), (.int .i64 l_Entry_Tag_Client36), (.bool l_Entry_Fin38), (.bool l_Entry_Has40), (Slc.v l_Entry_Data42)]) H rfl rfl agg_45 rfl ⟨hc31, hc33, hc35, hc37, hc39, hc41, hc43, trivial⟩ (lt_ rfl) ?_
      clear H a
      intro a H
      refine s_call H rfl body_40 (H.args (vs := [(.agg #[(.int .i64 l_Kind30), (.string l_Key32), (.int .i64 l_Entry_Tag_Count34), (.int .i64 l_Entry_Tag_Client36), (.bool l_Entry_Fin38), (.bool l_Entry_Has40), (Slc.v l_Entry_Data42)])]) rfl) (lt_ rfl) h ?_ (fun c w' h H => e_panic (P := PP) (fn := Tryd.f19) H h)
      clear H h a
      rintro _ w44 a ⟨body45, rfl, h⟩ H
      refine s_call H rfl body_39 (H.args (vs := [(.pointer NewWri26), (Slc.v body45)]) rfl) (lt_ rfl) h ?_ (fun c w' h H => e_panic (P := PP) (fn := Tryd.f19) H h)
      clear H h a
      rintro _ w46 a ⟨rfl, h⟩ H
      refine c_nil ?_
      refine hK29 _ _ ?_
      refine c_seq fun K47 hK47 => ?_
      refine c_reg ?_
      refine s_move H rfl rfl (lt_ rfl) ?_
      clear H a
      intro a H
      refine s_call H rfl body_41 (H.args (vs := [(.pointer NewWri26)]) rfl) (lt_ rfl) h ?_ (fun c w' h H => e_panic (P := PP) (fn := Tryd.f19) H h)
      clear H h a
      rintro _ w48 a ⟨Data49, rfl, h⟩ H
      refine s_assign H rfl rfl (lt_ rfl) ?_
      clear H a
      intro a H
      refine c_nil ?_
      refine hK47 _ _ ?_
      refine c_seq fun K50 hK50 => ?_
      refine c_reg ?_
      refine s_move H rfl rfl (lt_ rfl) ?_
      clear H a
      intro a H
      refine s_move H rfl rfl (lt_ rfl) ?_
      clear H a
      intro a H
      obtain ⟨a51, hq90, h⟩ := h
      subst hq90
      refine s_nil H rfl rfl (lt_ rfl) ?_
      clear H a
      intro a H
      refine s_fld H rfl rfl fld_71_0 (lt_ rfl) ?_
      clear H a
      intro a H
      obtain ⟨l52, hc53, h⟩ := h
      refine s_load (v := (Slc.v l52)) H rfl rfl one_28 hc53 (lt_ rfl) ?_
      clear H a
      intro a H
      refine s_move H rfl rfl (lt_ rfl) ?_
      clear H a
      intro a H
      replace h := h.get
      obtain ⟨b54, w55, nb56, h⟩ := h
      refine s_bslc H rfl (by rw [H.parts (vs := [(0, (Slc.v l52)), (1, (Slc.v Data49))]) rfl]; exact bs_37_2_s0_s1 w48 l52 Data49) (lt_ rfl) ?_
      rw [← nb56.at_]
      clear H a
      intro a H
      refine nb56.go ?_
      refine s_call H rfl body_43 (H.args (vs := [(Slc.v (Slc.mk (some (blk b54)) 2 2))]) rfl) (lt_ rfl) h ?_ (fun c w' h H => e_panic (P := PP) (fn := Tryd.f19) H h)
      clear H h a
      rintro _ w57 a ⟨Of58, rfl, h⟩ H
      refine s_call H rfl body_42 (H.args (vs := [(.int .u32 Of58)]) rfl) (lt_ rfl) h ?_ (fun c w' h H => e_panic (P := PP) (fn := Tryd.f19) H h)
      clear H h a
      rintro _ w59 a ⟨four60, rfl, h⟩ H
      refine s_nil H rfl rfl (lt_ rfl) ?_
      clear H a
      intro a H
      refine s_fld H rfl rfl fld_71_0 (lt_ rfl) ?_
      clear H a
      intro a H
      obtain ⟨hs62, hf63, h⟩ := h
      refine s_sto (p := a51.add 0) (v := (Slc.v four60)) H rfl rfl rfl rfl one_28 rfl hs62 hf63 ?_
      clear H
      intro H
      generalize hww61 : World.setCell w59 (a51.add 0) (Slc.v four60) = w61 at h ⊢
      have w61S : SetAt w59 (a51.add 0) (Slc.v four60) w61 := ⟨hww61.symm⟩
      clear hww61 hs62 hf63
      refine c_nil ?_
      refine hK50 _ _ ?_
      refine c_seq fun K64 hK64 => ?_
      refine c_reg ?_
      refine s_move H rfl rfl (lt_ rfl) ?_
      clear H a
      intro a H
      refine s_nil H rfl rfl (lt_ rfl) ?_
      clear H a
      intro a H
      refine s_fld H rfl rfl fld_71_1 (lt_ rfl) ?_
      clear H a
      intro a H
      obtain ⟨l65, hc66, h⟩ := h
      refine s_load (v := (.int .i64 l65)) H rfl rfl one_3 hc66 (lt_ rfl) ?_
      clear H a
      intro a H
      refine s_bin H rfl rfl rfl r_add (lt_ rfl) ?_
      clear H a
      intro a H
      refine s_nil H rfl rfl (lt_ rfl) ?_
      clear H a
      intro a H
      refine s_fld H rfl rfl fld_71_1 (lt_ rfl) ?_
      clear H a
      intro a H
      obtain ⟨hs68, hf69, h⟩ := h
      refine s_sto (p := a51.add 1) (v := (.int .i64 (wr .i64 (l65 + 1)))) H rfl rfl rfl rfl one_3 rfl hs68 hf69 ?_
      clear H
      intro H
      generalize hww67 : World.setCell w61 (a51.add 1) (.int .i64 (wr .i64 (l65 + 1))) = w67 at h ⊢
      have w67S : SetAt w61 (a51.add 1) (.int .i64 (wr .i64 (l65 + 1))) w67 := ⟨hww67.symm⟩
      clear hww67 hs68 hf69
      refine c_nil ?_
      refine hK64 _ _ ?_
      refine c_seq fun K70 hK70 => ?_
      refine c_reg ?_
      refine s_move H rfl rfl (lt_ rfl) ?_
      clear H a
      intro a H
      refine s_move H rfl rfl (lt_ rfl) ?_
      clear H a
      intro a H
      refine s_nil H rfl rfl (lt_ rfl) ?_
      clear H a
      intro a H
      refine s_fld H rfl rfl fld_71_0 (lt_ rfl) ?_
      clear H a
      intro a H
      obtain ⟨l71, hc72, h⟩ := h
      refine s_load (v := (Slc.v l71)) H rfl rfl one_28 hc72 (lt_ rfl) ?_
      clear H a
      intro a H
      replace h := h.get
      obtain ⟨b73, w74, nb75, h⟩ := h
      refine s_bslc H rfl (by rw [H.parts (vs := [(0, (Slc.v Data49)), (1, (Slc.v l71))]) rfl]; exact bs_37_2_s0_s1 w67 Data49 l71) (lt_ rfl) ?_
      rw [← nb75.at_]
      clear H a
      intro a H
      refine nb75.go ?_
      refine s_call H rfl body_44 (H.args (vs := [(Slc.v (Slc.mk (some (blk b73)) 2 2))]) rfl) (lt_ rfl) h ?_ (fun c w' h H => e_panic (P := PP) (fn := Tryd.f19) H h)
      clear H h a
      rintro _ w76 a ⟨Concat77, rfl, h⟩ H
      refine s_assign H rfl rfl (lt_ rfl) ?_
      clear H a
      intro a H
      refine s_assign H rfl rfl (lt_ rfl) ?_
      clear H a
      intro a H
      refine c_nil ?_
      refine hK70 _ _ ?_
      refine c_ret ?_
      exact e_ret2 H rfl rfl rfl h

set_option maxRecDepth 100000 in
set_option maxHeartbeats 4000000 in
theorem sim_record_Writer_Count (w1 : Option Addr) (w : World) (Q : Ending → World → Prop) (h : vc_record_Writer_Count w1 w Q) : Calls PP F_record_Writer_Count #[(.pointer w1)] w Q := by
  unfold vc_record_Writer_Count at h
  refine enter (n := 9) (l := [(.pointer w1)]) Tryd.func20 rfl rfl (Nat.le_of_ble_eq_true rfl) fun a H => ?_
  replace H : Has 9 [] a [(0, (.pointer w1))] := H
  refine c_seq fun K2 hK2 => ?_
  refine c_reg ?_
  refine s_assign H rfl rfl (lt_ rfl) ?_
  clear H a
  intro a H
  refine c_nil ?_
  refine hK2 _ _ ?_
  refine c_seq fun K3 hK3 => ?_
  refine c_seq fun K4 hK4 => ?_
  refine c_reg ?_
  refine s_move H rfl rfl (lt_ rfl) ?_
  clear H a
  intro a H
  refine s_bin H rfl rfl rfl (r_eqP0 ptr_32) (lt_ rfl) ?_
  clear H a
  intro a H
  refine c_nil ?_
  refine hK4 _ _ ?_
  refine c_cond H rfl (fun hb5 => ?_) (fun hb5 => ?_)
  · replace h := h.1 hb5
    refine c_seq fun K6 hK6 => ?_
    refine c_reg ?_
    refine s_assign H rfl rfl (lt_ rfl) ?_
    clear H a
    intro a H
    refine c_nil ?_
    refine hK6 _ _ ?_
    refine c_ret ?_
    exact e_ret1 H rfl rfl h
  · replace h := h.2 hb5
    refine c_skip ?_
    refine hK3 _ _ ?_
    refine c_seq fun K7 hK7 => ?_
    refine c_reg ?_
    refine s_move H rfl rfl (lt_ rfl) ?_
    clear H a
    intro a H
    obtain ⟨a8, hq11, h⟩ := h
    subst hq11
    refine s_nil H rfl rfl (lt_ rfl) ?_
    clear H a
    intro a H
    refine s_fld H rfl rfl fld_71_1 (lt_ rfl) ?_
    clear H a
    intro a H
    obtain ⟨l9, hc10, h⟩ := h
    refine s_load (v := (.int .i64 l9)) H rfl rfl one_3 hc10 (lt_ rfl) ?_
    clear H a
    intro a H
    refine s_assign H rfl rfl (lt_ rfl) ?_
    clear H a
    intro a H
    refine c_nil ?_
    refine hK7 _ _ ?_
    refine c_ret ?_
    exact e_ret1 H rfl rfl h

set_option maxRecDepth 100000 in
set_option maxHeartbeats 4000000 in
theorem sim_sherdref11_CheckHead (h_Config_N1 : Int) (h_Config_K2 : Int) (h_Config_Delta3 : Int) (h_Server4 : Int) (w : World) (Q : Ending → World → Prop) (h : vc_sherdref11_CheckHead h_Config_N1 h_Config_K2 h_Config_Delta3 h_Server4 w Q) : Calls PP F_sherdref11_CheckHead #[(.agg #[(.int .i64 h_Config_N1), (.int .i64 h_Config_K2), (.int .i64 h_Config_Delta3), (.int .i64 h_Server4)])] w Q := by
  unfold vc_sherdref11_CheckHead at h
  refine enter (n := 21) (l := [(.agg #[(.int .i64 h_Config_N1), (.int .i64 h_Config_K2), (.int .i64 h_Config_Delta3), (.int .i64 h_Server4)])]) Tryd.func21 rfl rfl (Nat.le_of_ble_eq_true rfl) fun a H => ?_
  replace H : Has 21 [] a [(0, (.agg #[(.int .i64 h_Config_N1), (.int .i64 h_Config_K2), (.int .i64 h_Config_Delta3), (.int .i64 h_Server4)]))] := H
  refine c_seq fun K5 hK5 => ?_
  refine c_reg ?_
  replace h := h.get
  obtain ⟨b6, w7, nb8, h⟩ := h
  refine s_box H rfl rfl (lt_ rfl) ?_
  rw [← nb8.at_]
  clear H a
  intro a H
  refine nb8.go ?_
  refine s_assign H rfl rfl (lt_ rfl) ?_
  clear H a
  intro a H
  refine c_nil ?_
  refine hK5 _ _ ?_
  refine c_seq fun K9 hK9 => ?_
  refine c_reg ?_
  refine s_fld H rfl rfl fld_25_0 (lt_ rfl) ?_
  clear H a
  intro a H
  refine s_loadN (l := [(.int .i64 h_Config_N1), (.int .i64 h_Config_K2), (.int .i64 h_Config_Delta3)]) H rfl rfl agg_23 rfl ⟨(nb8.cell (i := 0) rfl), (nb8.cell (i := 1) rfl), (nb8.cell (i := 2) rfl), trivial⟩ (lt_ rfl) ?_
  clear H a
  intro a H
  refine s_call H rfl body_45 (H.args (vs := [(.agg #[(.int .i64 h_Config_N1), (.int .i64 h_Config_K2), (.int .i64 h_Config_Delta3)])]) rfl) (lt_ rfl) h ?_ (fun c w' h H => e_panic (P := PP) (fn := Tryd.f21) H h)
  clear H h a
  rintro _ w10 a ⟨Check11, rfl, h⟩ H
  refine s_assign H rfl rfl (lt_ rfl) ?_
  clear H a
  intro a H
  refine c_nil ?_
  refine hK9 _ _ ?_
  refine c_seq fun K12 hK12 => ?_
  refine c_seq fun K13 hK13 => ?_
  refine c_reg ?_
  refine s_move H rfl rfl (lt_ rfl) ?_
  clear H a
  intro a H
  refine s_bin H rfl rfl rfl r_neq (lt_ rfl) ?_
  clear H a
  intro a H
  refine c_nil ?_
  refine hK13 _ _ ?_
  refine c_cond H rfl (fun hb14 => ?_) (fun hb14 => ?_)
  · replace h := h.1 hb14
    refine c_seq fun K15 hK15 => ?_
    refine c_reg ?_
    refine s_move H rfl rfl (lt_ rfl) ?_
    clear H a
    intro a H
    refine s_assign H rfl rfl (lt_ rfl) ?_
    clear H a
    intro a H
    refine c_nil ?_
    refine hK15 _ _ ?_
    refine c_ret ?_
    exact e_ret1 H rfl rfl h
  · replace h := h.2 hb14
    refine c_skip ?_
    refine hK12 _ _ ?_
    refine c_seq fun K16 hK16 => ?_
    refine c_seq fun K17 hK17 => ?_
    refine c_reg ?_
    refine s_fld H rfl rfl fld_25_1 (lt_ rfl) ?_
    clear H a
    intro a H
    obtain ⟨l18, hc19, h⟩ := h
    refine s_load (v := (.int .i64 l18)) H rfl rfl one_3 hc19 (lt_ rfl) ?_
    clear H a
    intro a H
    refine s_bin H rfl rfl rfl r_lss (lt_ rfl) ?_
    clear H a
    intro a H
    refine s_move H rfl rfl (lt_ rfl) ?_
    clear H a
    intro a H
    obtain ⟨x26, hy27, hn28, h⟩ := h
    refine g_join (n := 21) [(20, (.bool x26))] (.succ (.succ (.succ (.succ (.succ (.succ (.succ (.zero _)))))))) ?_ ?_
    · intro hr21
      try clear h
      rcases Bool.eq_false_or_eq_true (decide (l18 < 0)) with hg20 | hg20
      · replace H := H.ch (t := 13) (b := true) rfl hg20
        refine s_skip H (wantN H rfl rfl rfl) rfl (lt_ rfl) ?_
        clear H a
        intro a H
        refine s_skip H (wantN H rfl rfl rfl) rfl (lt_ rfl) ?_
        clear H a
        intro a H
        refine s_skip H (wantN H rfl rfl rfl) rfl (lt_ rfl) ?_
        clear H a
        intro a H
        refine s_skip H (wantN H rfl rfl rfl) rfl (lt_ rfl) ?_
        clear H a
        intro a H
        refine s_skip H (wantN H rfl rfl rfl) rfl (lt_ rfl) ?_
        clear H a
        intro a H
        refine s_skip H (wantN H rfl rfl rfl) rfl (lt_ rfl) ?_
        clear H a
        intro a H
        refine s_pickT H rfl rfl rfl (lt_ rfl) ?_
        clear H a
        intro a H
        replace h := hn28 hg20
        subst h
        exact hr21 _ (H.weaken ⟨rfl, trivial⟩)
      · replace H := H.ch (t := 13) (b := false) rfl hg20
        replace h := hy27 hg20
        refine s_fld H (wantG H rfl rfl) rfl fld_25_1 (lt_ rfl) ?_
        clear H a
        intro a H
        obtain ⟨l22, hc23, h⟩ := h
        refine s_load (v := (.int .i64 l22)) H (wantG H rfl rfl) rfl one_3 hc23 (lt_ rfl) ?_
        clear H a
        intro a H
        refine s_fld H (wantG H rfl rfl) rfl fld_25_0 (lt_ rfl) ?_
        clear H a
        intro a H
        refine s_fld H (wantG H rfl rfl) rfl fld_23_0 (lt_ rfl) ?_
        clear H a
        intro a H
        obtain ⟨l24, hc25, h⟩ := h
        refine s_load (v := (.int .i64 l24)) H (wantG H rfl rfl) rfl one_3 hc25 (lt_ rfl) ?_
        clear H a
        intro a H
        refine s_bin H (wantG H rfl rfl) rfl rfl r_geq (lt_ rfl) ?_
        clear H a
        intro a H
        refine s_pickF H rfl rfl rfl (lt_ rfl) ?_
        clear H a
        intro a H
        subst h
        exact hr21 _ (H.weaken ⟨rfl, trivial⟩)
    · clear H a
      clear hy27 hn28
      intro a H
      refine c_nil ?_
      refine hK17 _ _ ?_
      refine c_cond H rfl (fun hb29 => ?_) (fun hb29 => ?_)
      · replace h := h.1 hb29
        refine c_seq fun K30 hK30 => ?_
        refine c_reg ?_
        refine s_assign H rfl rfl (lt_ rfl) ?_
        clear H a
        intro a H
        refine c_nil ?_
        refine hK30 _ _ ?_
        refine c_ret ?_
        exact e_ret1 H rfl rfl h
      · replace h := h.2 hb29
        refine c_skip ?_
        refine hK16 _ _ ?_
        refine c_seq fun K31 hK31 => ?_
        refine c_reg ?_
        refine s_assign H rfl rfl (lt_ rfl) ?_
        clear H a
        intro a H
        refine c_nil ?_
        refine hK31 _ _ ?_
        refine c_ret ?_
        exact e_ret1 H rfl rfl h

set_option maxRecDepth 100000 in
set_option maxHeartbeats 4000000 in
theorem sim_sherdref11_headBytes (h_Config_N1 : Int) (h_Config_K2 : Int) (h_Config_Delta3 : Int) (h_Server4 : Int) (w : World) (Q : Ending → World → Prop) (h : vc_sherdref11_headBytes h_Config_N1 h_Config_K2 h_Config_Delta3 h_Server4 w Q) : Calls PP F_sherdref11_headBytes #[(.agg #[(.int .i64 h_Config_N1), (.int .i64 h_Config_K2), (.int .i64 h_Config_Delta3), (.int .i64 h_Server4)])] w Q := by
  unfold vc_sherdref11_headBytes at h
  refine enter (n := 33) (l := [(.agg #[(.int .i64 h_Config_N1), (.int .i64 h_Config_K2), (.int .i64 h_Config_Delta3), (.int .i64 h_Server4)])]) Tryd.func22 rfl rfl (Nat.le_of_ble_eq_true rfl) fun a H => ?_
  replace H : Has 33 [] a [(0, (.agg #[(.int .i64 h_Config_N1), (.int .i64 h_Config_K2), (.int .i64 h_Config_Delta3), (.int .i64 h_Server4)]))] := H
  refine c_seq fun K5 hK5 => ?_
  refine c_reg ?_
  replace h := h.get
  obtain ⟨b6, w7, nb8, h⟩ := h
  refine s_box H rfl rfl (lt_ rfl) ?_
  rw [← nb8.at_]
  clear H a
  intro a H
  refine nb8.go ?_
  refine s_assign H rfl rfl (lt_ rfl) ?_
  clear H a
  intro a H
  refine c_nil ?_
  refine hK5 _ _ ?_
  refine c_seq fun K9 hK9 => ?_
  refine c_reg ?_
  refine s_call H rfl body_46 (H.args (vs := []) rfl) (lt_ rfl) h ?_ (fun c w' h H => e_panic (P := PP) (fn := Tryd.f22) H h)
  clear H h a
  rintro _ w10 a ⟨NewWri11, rfl, h⟩ H
  refine s_assign H rfl rfl (lt_ rfl) ?_
  clear H a
  intro a H
  refine c_nil ?_
  refine hK9 _ _ ?_
  refine c_seq fun K12 hK12 => ?_
  refine c_reg ?_
  refine s_move H rfl rfl (lt_ rfl) ?_
  clear H a
  intro a H
  refine s_call H rfl body_47 (H.args (vs := [(.pointer NewWri11), (.int .u8 72)]) rfl) (lt_ rfl) h ?_ (fun c w' h H => e_panic (P := PP) (fn := Tryd.f22) H h)
  clear H h a
  rintro _ w13 a ⟨rfl, h⟩ H
  refine c_nil ?_
  refine hK12 _ _ ?_
  refine c_seq fun K14 hK14 => ?_
  refine c_reg ?_
  refine s_move H rfl rfl (lt_ rfl) ?_
  clear H a
  intro a H
  refine s_fld H rfl rfl fld_25_0 (lt_ rfl) ?_
  clear H a
  intro a H
  refine s_fld H rfl rfl fld_23_0 (lt_ rfl) ?_
  clear H a
  intro a H
  obtain ⟨l15, hc16, h⟩ := h
  refine s_load (v := (.int .i64 l15)) H rfl rfl one_3 hc16 (lt_ rfl) ?_
  clear H a
  intro a H
  refine s_call H rfl body_48 (H.args (vs := [(.pointer NewWri11), (.int .i64 l15)]) rfl) (lt_ rfl) h ?_ (fun c w' h H => e_panic (P := PP) (fn := Tryd.f22) H h)
  clear H h a
  rintro _ w17 a ⟨rfl, h⟩ H
  refine c_nil ?_
  refine hK14 _ _ ?_
  refine c_seq fun K18 hK18 => ?_
  refine c_reg ?_
  refine s_move H rfl rfl (lt_ rfl) ?_
  clear H a
  intro a H
  refine s_fld H rfl rfl fld_25_0 (lt_ rfl) ?_
  clear H a
  intro a H
  refine s_fld H rfl rfl fld_23_1 (lt_ rfl) ?_
  clear H a
  intro a H
  obtain ⟨l19, hc20, h⟩ := h
  refine s_load (v := (.int .i64 l19)) H rfl rfl one_3 hc20 (lt_ rfl) ?_
  clear H a
  intro a H
  refine s_call H rfl body_48 (H.args (vs := [(.pointer NewWri11), (.int .i64 l19)]) rfl) (lt_ rfl) h ?_ (fun c w' h H => e_panic (P := PP) (fn := Tryd.f22) H h)
  clear H h a
  rintro _ w21 a ⟨rfl, h⟩ H
  refine c_nil ?_
  refine hK18 _ _ ?_
  refine c_seq fun K22 hK22 => ?_
  refine c_reg ?_
  refine s_move H rfl rfl (lt_ rfl) ?_
  clear H a
  intro a H
  refine s_fld H rfl rfl fld_25_0 (lt_ rfl) ?_
  clear H a
  intro a H
  refine s_fld H rfl rfl fld_23_2 (lt_ rfl) ?_
  clear H a
  intro a H
  obtain ⟨l23, hc24, h⟩ := h
  refine s_load (v := (.int .i64 l23)) H rfl rfl one_3 hc24 (lt_ rfl) ?_
  clear H a
  intro a H
  refine s_call H rfl body_48 (H.args (vs := [(.pointer NewWri11), (.int .i64 l23)]) rfl) (lt_ rfl) h ?_ (fun c w' h H => e_panic (P := PP) (fn := Tryd.f22) H h)
  clear H h a
  rintro _ w25 a ⟨rfl, h⟩ H
  refine c_nil ?_
  refine hK22 _ _ ?_
  refine c_seq fun K26 hK26 => ?_
  refine c_reg ?_
  refine s_move H rfl rfl (lt_ rfl) ?_
  clear H a
  intro a H
  refine s_fld H rfl rfl fld_25_1 (lt_ rfl) ?_
  clear H a
  intro a H
  obtain ⟨l27, hc28, h⟩ := h
  refine s_load (v := (.int .i64 l27)) H rfl rfl one_3 hc28 (lt_ rfl) ?_
  clear H a
  intro a H
  refine s_call H rfl body_48 (H.args (vs := [(.pointer NewWri11), (.int .i64 l27)]) rfl) (lt_ rfl) h ?_ (fun c w' h H => e_panic (P := PP) (fn := Tryd.f22) H h)
  clear H h a
  rintro _ w29 a ⟨rfl, h⟩ H
  refine c_nil ?_
  refine hK26 _ _ ?_
  refine c_seq fun K30 hK30 => ?_
  refine c_reg ?_
  refine s_move H rfl rfl (lt_ rfl) ?_
  clear H a
  intro a H
  refine s_call H rfl body_49 (H.args (vs := [(.pointer NewWri11)]) rfl) (lt_ rfl) h ?_ (fun c w' h H => e_panic (P := PP) (fn := Tryd.f22) H h)
  clear H h a
  rintro _ w31 a ⟨Data32, rfl, h⟩ H
  refine s_assign H rfl rfl (lt_ rfl) ?_
  clear H a
  intro a H
  refine c_nil ?_
  refine hK30 _ _ ?_
  refine c_seq fun K33 hK33 => ?_
  refine c_reg ?_
  refine s_move H rfl rfl (lt_ rfl) ?_
  clear H a
  intro a H
  refine s_move H rfl rfl (lt_ rfl) ?_
  clear H a
  intro a H
  refine s_call H rfl body_50 (H.args (vs := [(Slc.v Slc.nil), (Slc.v Data32)]) rfl) (lt_ rfl) h ?_ (fun c w' h H => e_panic (P := PP) (fn := Tryd.f22) H h)
  clear H h a
  rintro _ w34 a ⟨Summed35, rfl, h⟩ H
  obtain ⟨s36, w37, hq38, h⟩ := h
  refine s_blt H rfl (H.args (vs := [(Slc.v Data32), (Slc.v Summed35)]) rfl) (lt_ rfl) (fun cs => b_app (z := s36) hq38) ?_
  clear H a hq38
  intro a H
  refine s_assign H rfl rfl (lt_ rfl) ?_
  clear H a
  intro a H
  refine c_nil ?_
  refine hK33 _ _ ?_
  refine c_ret ?_
  exact e_ret1 H rfl rfl h

set_option maxRecDepth 100000 in
set_option maxHeartbeats 4000000 in
theorem sim_record_mayHead (h_Config_N1 : Int) (h_Config_K2 : Int) (h_Config_Delta3 : Int) (h_Server4 : Int) (w : World) (Q : Ending → World → Prop) (h : vc_record_mayHead h_Config_N1 h_Config_K2 h_Config_Delta3 h_Server4 w Q) : Calls PP F_record_mayHead #[(.agg #[(.int .i64 h_Config_N1), (.int .i64 h_Config_K2), (.int .i64 h_Config_Delta3), (.int .i64 h_Server4)])] w Q := by
  unfold vc_record_mayHead at h
  refine enter (n := 21) (l := [(.agg #[(.int .i64 h_Config_N1), (.int .i64 h_Config_K2), (.int .i64 h_Config_Delta3), (.int .i64 h_Server4)])]) Tryd.func23 rfl rfl (Nat.le_of_ble_eq_true rfl) fun a H => ?_
  replace H : Has 21 [] a [(0, (.agg #[(.int .i64 h_Config_N1), (.int .i64 h_Config_K2), (.int .i64 h_Config_Delta3), (.int .i64 h_Server4)]))] := H
  refine c_seq fun K5 hK5 => ?_
  refine c_reg ?_
  replace h := h.get
  obtain ⟨b6, w7, nb8, h⟩ := h
  refine s_box H rfl rfl (lt_ rfl) ?_
  rw [← nb8.at_]
  clear H a
  intro a H
  refine nb8.go ?_
  refine s_assign H rfl rfl (lt_ rfl) ?_
  clear H a
  intro a H
  refine c_nil ?_
  refine hK5 _ _ ?_
  refine c_seq fun K9 hK9 => ?_
  refine c_seq fun K10 hK10 => ?_
  refine c_reg ?_
  refine s_fld H rfl rfl fld_25_0 (lt_ rfl) ?_
  clear H a
  intro a H
  refine s_loadN (l := [(.int .i64 h_Config_N1), (.int .i64 h_Config_K2), (.int .i64 h_Config_Delta3)]) H rfl rfl agg_23 rfl ⟨(nb8.cell (i := 0) rfl), (nb8.cell (i := 1) rfl), (nb8.cell (i := 2) rfl), trivial⟩ (lt_ rfl) ?_
  clear H a
  intro a H
  refine s_call H rfl body_51 (H.args (vs := [(.agg #[(.int .i64 h_Config_N1), (.int .i64 h_Config_K2), (.int .i64 h_Config_Delta3)])]) rfl) (lt_ rfl) h ?_ (fun c w' h H => e_panic (P := PP) (fn := Tryd.f23) H h)
  clear H h a
  rintro _ w11 a ⟨Check12, rfl, h⟩ H
  refine s_assign H rfl rfl (lt_ rfl) ?_
  clear H a
  intro a H
  refine c_nil ?_
  refine hK10 _ _ ?_
  refine c_seq fun K13 hK13 => ?_
  refine c_reg ?_
  refine s_move H rfl rfl (lt_ rfl) ?_
  clear H a
  intro a H
  refine s_bin H rfl rfl rfl r_neq (lt_ rfl) ?_
  clear H a
  intro a H
  refine c_nil ?_
  refine hK13 _ _ ?_
  refine c_cond H rfl (fun hb14 => ?_) (fun hb14 => ?_)
  · replace h := h.1 hb14
    refine c_seq fun K15 hK15 => ?_
    refine c_reg ?_
    refine s_move H rfl rfl (lt_ rfl) ?_
    clear H a
    intro a H
    refine s_assign H rfl rfl (lt_ rfl) ?_
    clear H a
    intro a H
    refine c_nil ?_
    refine hK15 _ _ ?_
    refine c_ret ?_
    exact e_ret1 H rfl rfl h
  · replace h := h.2 hb14
    refine c_skip ?_
    refine hK9 _ _ ?_
    refine c_seq fun K16 hK16 => ?_
    refine c_seq fun K17 hK17 => ?_
    refine c_reg ?_
    refine s_fld H rfl rfl fld_25_1 (lt_ rfl) ?_
    clear H a
    intro a H
    obtain ⟨l18, hc19, h⟩ := h
    refine s_load (v := (.int .i64 l18)) H rfl rfl one_3 hc19 (lt_ rfl) ?_
    clear H a
    intro a H
    refine s_bin H rfl rfl rfl r_lss (lt_ rfl) ?_
    clear H a
    intro a H
    refine s_move H rfl rfl (lt_ rfl) ?_
    clear H a
    intro a H
    obtain ⟨x26, hy27, hn28, h⟩ := h
    refine g_join (n := 21) [(20, (.bool x26))] (.succ (.succ (.succ (.succ (.succ (.succ (.succ (.zero _)))))))) ?_ ?_
    · intro hr21
      try clear h
      rcases Bool.eq_false_or_eq_true (decide (l18 < 0)) with hg20 | hg20
      · replace H := H.ch (t := 13) (b := true) rfl hg20
        refine s_skip H (wantN H rfl rfl rfl) rfl (lt_ rfl) ?_
        clear H a
        intro a H
        refine s_skip H (wantN H rfl rfl rfl) rfl (lt_ rfl) ?_
        clear H a
        intro a H
        refine s_skip H (wantN H rfl rfl rfl) rfl (lt_ rfl) ?_
        clear H a
        intro a H
        refine s_skip H (wantN H rfl rfl rfl) rfl (lt_ rfl) ?_
        clear H a
        intro a H
        refine s_skip H (wantN H rfl rfl rfl) rfl (lt_ rfl) ?_
        clear H a
        intro a H
        refine s_skip H (wantN H rfl rfl rfl) rfl (lt_ rfl) ?_
        clear H a
        intro a H
        refine s_pickT H rfl rfl rfl (lt_ rfl) ?_
        clear H a
        intro a H
        replace h := hn28 hg20
        subst h
        exact hr21 _ (H.weaken ⟨rfl, trivial⟩)
      · replace H := H.ch (t := 13) (b := false) rfl hg20
        replace h := hy27 hg20
        refine s_fld H (wantG H rfl rfl) rfl fld_25_1 (lt_ rfl) ?_
        clear H a
        intro a H
        obtain ⟨l22, hc23, h⟩ := h
        refine s_load (v := (.int .i64 l22)) H (wantG H rfl rfl) rfl one_3 hc23 (lt_ rfl) ?_
        clear H a
        intro a H
        refine s_fld H (wantG H rfl rfl) rfl fld_25_0 (lt_ rfl) ?_
        clear H a
        intro a H
        refine s_fld H (wantG H rfl rfl) rfl fld_23_0 (lt_ rfl) ?_
        clear H a
        intro a H
        obtain ⟨l24, hc25, h⟩ := h
        refine s_load (v := (.int .i64 l24)) H (wantG H rfl rfl) rfl one_3 hc25 (lt_ rfl) ?_
        clear H a
        intro a H
        refine s_bin H (wantG H rfl rfl) rfl rfl r_geq (lt_ rfl) ?_
        clear H a
        intro a H
        refine s_pickF H rfl rfl rfl (lt_ rfl) ?_
        clear H a
        intro a H
        subst h
        exact hr21 _ (H.weaken ⟨rfl, trivial⟩)
    · clear H a
      clear hy27 hn28
      intro a H
      refine c_nil ?_
      refine hK17 _ _ ?_
      refine c_cond H rfl (fun hb29 => ?_) (fun hb29 => ?_)
      · replace h := h.1 hb29
        refine c_seq fun K30 hK30 => ?_
        refine c_reg ?_
        refine s_assign H rfl rfl (lt_ rfl) ?_
        clear H a
        intro a H
        refine c_nil ?_
        refine hK30 _ _ ?_
        refine c_ret ?_
        exact e_ret1 H rfl rfl h
      · replace h := h.2 hb29
        refine c_skip ?_
        refine hK16 _ _ ?_
        refine c_seq fun K31 hK31 => ?_
        refine c_reg ?_
        refine s_assign H rfl rfl (lt_ rfl) ?_
        clear H a
        intro a H
        refine c_nil ?_
        refine hK31 _ _ ?_
        refine c_ret ?_
        exact e_ret1 H rfl rfl h
end Go.Proofs.YtnhgnfflihoaiaaDoor
