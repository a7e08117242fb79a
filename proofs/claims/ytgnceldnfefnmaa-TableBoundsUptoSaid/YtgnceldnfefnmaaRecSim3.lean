/-
  The conditions give the machine's calls; printed by vcgen.py.
-/
import Derived.Test.YtgnceldnfefnmaaRecVc
namespace Go.Proofs.Ytgnceldnfefnmaa
open Go Go.Vc
set_option maxRecDepth 100000
set_option maxHeartbeats 4000000
theorem sim_table_may (K1 : Int) (K2 : ByteArray) (C3 C4 : Int) (F5 H6 : Bool) (D7 : Slc) (w : World) (Q : Ending → World → Prop) (h : vc_table_may K1 K2 C3 C4 F5 H6 D7 w Q) : Calls PP F_table_may #[(.agg #[(.i K1), (.string K2), (.i C3), (.i C4), (.bool F5), (.bool H6), D7.v])] w Q := by
 unfold vc_table_may at h
 refine enter (n := 74) Try.func25 rfl rfl (Nat.le_of_ble_eq_true rfl) fun a H => c_seq fun K8 hK8 => c_reg ?_
 replace h := h.get
 obtain ⟨b9, w10, n11, h⟩ := h
 refine s_box H rfl rfl (lt_ rfl) ?_
 rw [← n11.at_]
 clear H a
 intro a H
 refine n11.go <| s_assign H rfl rfl (lt_ rfl) fun a H => c_nil <| hK8 _ _ <| c_seq fun K12 hK12 => c_reg <| s_fld H rfl rfl fld_39_2 (lt_ rfl) fun a H => s_loadN (l := [(.i C3), (.i C4), (.bool F5), (.bool H6), D7.v]) H rfl rfl agg_37 rfl ⟨(n11.cell (i := 2) rfl), (n11.cell (i := 3) rfl), (n11.cell (i := 4) rfl), (n11.cell (i := 5) rfl), (n11.cell (i := 6) rfl), trivial⟩ (lt_ rfl) fun a H => ?_
 replace h := h.get
 obtain ⟨b13, w14, n15, h⟩ := h
 refine s_alloc H rfl zero_37 (lt_ rfl) ?_
 rw [← n15.at_]
 clear H a
 intro a H
 refine n15.go <| s_stoN (l := [(.i C3), (.i C4), (.bool F5), (.bool H6), D7.v]) H rfl rfl rfl rfl agg_37 rfl rfl h ?_
 clear h H
 intro w16 h H
 refine c_nil <| hK12 _ _ <| c_seq fun K17 hK17 => c_seq fun K18 hK18 => c_reg <| s_fld H rfl rfl fld_39_1 (lt_ rfl) fun a H => ?_
 obtain ⟨l19, hc20, h⟩ := h
 refine s_load (v := (.string l19)) H rfl rfl one_9 hc20 (lt_ rfl) fun a H => s_bin H rfl rfl rfl r_eqlS (lt_ rfl) fun a H => s_move H rfl rfl (lt_ rfl) fun a H => ?_
 obtain ⟨x25, h26, h27, h⟩ := h
 refine g_join (n := 74) [(14, (.bool x25)), (1, (.pointer (some (blk b9)))), (3, (.pointer (some (blk b13))))] (.succ (.succ (.succ (.succ (.succ (.zero _)))))) ?_ ?_
 ·intro h22
  try clear h
  rcases Bool.eq_false_or_eq_true (decide (l19.toList = (ByteArray.mk #[]).toList)) with h21 | h21
  ·replace H := H.ch (t := 9) (b := true) rfl h21
   iterate 4 refine s_skip H (wantN H rfl rfl rfl) rfl (lt_ rfl) fun a H => ?_
   refine s_pickT H rfl rfl rfl (lt_ rfl) fun a H => ?_
   replace h := h27 h21
   subst h
   exact h22 _ (H.weaken ⟨rfl, rfl, rfl, trivial⟩)
  ·replace H := H.ch (t := 9) (b := false) rfl h21
   replace h := h26 h21
   refine s_fld H (wantG H rfl rfl) rfl fld_39_1 (lt_ rfl) fun a H => ?_
   obtain ⟨l23, hc24, h⟩ := h
   refine s_load (v := (.string l23)) H (wantG H rfl rfl) rfl one_9 hc24 (lt_ rfl) fun a H => s_blt H (wantG H rfl rfl) (H.args (vs := [(.string l23)]) rfl) (lt_ rfl) (fun cs => b_lenT str_9) fun a H => s_bin H (wantG H rfl rfl) rfl rfl r_gtr (lt_ rfl) fun a H => s_pickF H rfl rfl rfl (lt_ rfl) fun a H => ?_
   subst h
   exact h22 _ (H.weaken ⟨rfl, rfl, rfl, trivial⟩)
 ·clear H a
  clear h26 h27
  intro a H
  refine s_move H rfl rfl (lt_ rfl) fun a H => ?_
  obtain ⟨R30, h, h123⟩ := h
  refine g_joinW (n := 74) R30 (fun x31 => [(20, (.bool x31)), (1, (.pointer (some (blk b9)))), (3, (.pointer (some (blk b13))))]) (.succ (.succ (.succ (.succ (.succ (.zero _)))))) ?_ ?_
  ·intro h29
   clear h123
   rcases Bool.eq_false_or_eq_true x25 with h28 | h28
   ·replace H := H.ch (t := 15) (b := true) rfl h28
    replace h := h.2 h28
    iterate 4 refine s_skip H (wantN H rfl rfl rfl) rfl (lt_ rfl) fun a H => ?_
    refine s_pickT H rfl rfl rfl (lt_ rfl) fun a H => ?_
    exact h29 _ _ _ h (H.weaken ⟨rfl, rfl, rfl, trivial⟩)
   ·replace H := H.ch (t := 15) (b := false) rfl h28
    replace h := h.1 h28
    refine s_fld H (wantG H rfl rfl) rfl fld_37_0 (lt_ rfl) fun a H => ?_
    obtain ⟨C33, hc34, C35, hc36, h⟩ := h
    refine s_loadN (l := [(.i C33), (.i C35)]) H (wantG H rfl rfl) rfl agg_29 rfl ⟨hc34, hc36, trivial⟩ (lt_ rfl) fun a H => s_call H (wantG H rfl rfl) body_42 (H.args (vs := [(.agg #[(.i C33), (.i C35)])]) rfl) (lt_ rfl) h ?_ (fun c w' h H => e_panic (P := PP) (fn := Try.f25) H h)
    clear H h a
    rintro _ w37 a ⟨V38, rfl, h⟩ H
    refine s_un H (wantG H rfl rfl) rfl r_not (lt_ rfl) fun a H => s_pickF H rfl rfl rfl (lt_ rfl) fun a H => ?_
    exact h29 _ _ _ h (H.weaken ⟨rfl, rfl, rfl, trivial⟩)
  ·clear H a h
   intro a x31 w32 h H
   replace h := h123 x31 w32 h
   clear h123
   refine s_move H rfl rfl (lt_ rfl) fun a H => ?_
   obtain ⟨R45, h, h122⟩ := h
   refine g_joinW (n := 74) R45 (fun x46 => [(25, (.bool x46)), (1, (.pointer (some (blk b9)))), (3, (.pointer (some (blk b13))))]) (.succ (.succ (.succ (.succ (.zero _))))) ?_ ?_
   ·intro h44
    clear h122
    rcases Bool.eq_false_or_eq_true x31 with h43 | h43
    ·replace H := H.ch (t := 21) (b := true) rfl h43
     replace h := h.2 h43
     iterate 3 refine s_skip H (wantN H rfl rfl rfl) rfl (lt_ rfl) fun a H => ?_
     refine s_pickT H rfl rfl rfl (lt_ rfl) fun a H => ?_
     exact h44 _ _ _ h (H.weaken ⟨rfl, rfl, rfl, trivial⟩)
    ·replace H := H.ch (t := 21) (b := false) rfl h43
     replace h := h.1 h43
     refine s_fld H (wantG H rfl rfl) rfl fld_37_0 (lt_ rfl) fun a H => ?_
     obtain ⟨C48, hc49, C50, hc51, h⟩ := h
     refine s_loadN (l := [(.i C48), (.i C50)]) H (wantG H rfl rfl) rfl agg_29 rfl ⟨hc49, hc51, trivial⟩ (lt_ rfl) fun a H => s_call H (wantG H rfl rfl) body_43 (H.args (vs := [(.agg #[(.i C48), (.i C50)])]) rfl) (lt_ rfl) h ?_ (fun c w' h H => e_panic (P := PP) (fn := Try.f25) H h)
     clear H h a
     rintro _ w52 a ⟨Z53, rfl, h⟩ H
     refine s_pickF H rfl rfl rfl (lt_ rfl) fun a H => ?_
     exact h44 _ _ _ h (H.weaken ⟨rfl, rfl, rfl, trivial⟩)
   ·clear H a h
    intro a x46 w47 h H
    replace h := h122 x46 w47 h
    clear h122
    refine s_move H rfl rfl (lt_ rfl) fun a H => ?_
    obtain ⟨x62, h63, h64, h⟩ := h
    refine g_join (n := 74) [(31, (.bool x62)), (1, (.pointer (some (blk b9)))), (3, (.pointer (some (blk b13))))] (.succ (.succ (.succ (.succ (.succ (.zero _)))))) ?_ ?_
    ·intro h59
     try clear h
     rcases Bool.eq_false_or_eq_true x46 with h58 | h58
     ·replace H := H.ch (t := 26) (b := true) rfl h58
      iterate 4 refine s_skip H (wantN H rfl rfl rfl) rfl (lt_ rfl) fun a H => ?_
      refine s_pickT H rfl rfl rfl (lt_ rfl) fun a H => ?_
      replace h := h64 h58
      subst h
      exact h59 _ (H.weaken ⟨rfl, rfl, rfl, trivial⟩)
     ·replace H := H.ch (t := 26) (b := false) rfl h58
      replace h := h63 h58
      refine s_fld H (wantG H rfl rfl) rfl fld_37_3 (lt_ rfl) fun a H => ?_
      obtain ⟨l60, hc61, h⟩ := h
      refine s_load (v := l60.v) H (wantG H rfl rfl) rfl one_35 hc61 (lt_ rfl) fun a H => s_blt H (wantG H rfl rfl) (H.args (vs := [l60.v]) rfl) (lt_ rfl) (fun cs => b_lenS (z := l60) sl_35) fun a H => s_bin H (wantG H rfl rfl) rfl rfl r_gtr (lt_ rfl) fun a H => s_pickF H rfl rfl rfl (lt_ rfl) fun a H => ?_
      subst h
      exact h59 _ (H.weaken ⟨rfl, rfl, rfl, trivial⟩)
    ·clear H a
     clear h63 h64
     intro a H
     refine c_nil <| hK18 _ _ <| c_cond H rfl (fun h65 => ?_) (fun h65 => ?_)
     ·replace h := h.1 h65
      refine c_seq fun K66 hK66 => c_reg <| s_assign H rfl rfl (lt_ rfl) fun a H => c_nil <| hK66 _ _ <| c_ret ?_
      exact e_ret1 H rfl rfl h
     ·replace h := h.2 h65
      refine c_skip <| hK17 _ _ <| c_seq fun K67 hK67 => c_seq fun K68 hK68 => c_reg <| s_fld H rfl rfl fld_39_0 (lt_ rfl) fun a H => ?_
      obtain ⟨l69, hc70, h⟩ := h
      refine s_load (v := (.i l69)) H rfl rfl one_3 hc70 (lt_ rfl) fun a H => c_nil <| hK68 _ _ <| c_block <| c_seq fun K71 hK71 => c_reg <| s_bin H rfl rfl rfl r_eql (lt_ rfl) fun a H => s_assign H rfl rfl (lt_ rfl) fun a H => c_nil <| hK71 _ _ <| c_cond H rfl (fun h72 => ?_) (fun h72 => ?_)
      ·replace h := h.1 h72
       refine c_seq fun K73 hK73 => c_reg <| s_fld H rfl rfl fld_37_1 (lt_ rfl) fun a H => ?_
       obtain ⟨l74, hc75, h⟩ := h
       refine s_load (v := (.bool l74)) H rfl rfl one_4 hc75 (lt_ rfl) fun a H => s_un H rfl rfl r_not (lt_ rfl) fun a H => s_move H rfl rfl (lt_ rfl) fun a H => ?_
       obtain ⟨x80, h81, h82, h⟩ := h
       refine g_join (n := 74) [(43, (.bool x80))] (.succ (.succ (.succ (.succ (.zero _))))) ?_ ?_
       ·intro h77
        try clear h
        rcases Bool.eq_false_or_eq_true (!l74) with h76 | h76
        ·replace H := H.ch (t := 39) (b := true) rfl h76
         replace h := h81 h76
         refine s_fld H (wantG H rfl rfl) rfl fld_37_2 (lt_ rfl) fun a H => ?_
         obtain ⟨l78, hc79, h⟩ := h
         refine s_load (v := (.bool l78)) H (wantG H rfl rfl) rfl one_4 hc79 (lt_ rfl) fun a H => s_un H (wantG H rfl rfl) rfl r_not (lt_ rfl) fun a H => s_pickT H rfl rfl rfl (lt_ rfl) fun a H => ?_
         subst h
         exact h77 _ (H.weaken ⟨rfl, trivial⟩)
        ·replace H := H.ch (t := 39) (b := false) rfl h76
         iterate 3 refine s_skip H (wantN H rfl rfl rfl) rfl (lt_ rfl) fun a H => ?_
         refine s_pickF H rfl rfl rfl (lt_ rfl) fun a H => ?_
         replace h := h82 h76
         subst h
         exact h77 _ (H.weaken ⟨rfl, trivial⟩)
       ·clear H a
        clear h81 h82
        intro a H
        refine s_assign H rfl rfl (lt_ rfl) fun a H => c_nil <| hK73 _ _ <| c_ret ?_
        exact e_ret1 H rfl rfl h
      ·replace h := h.2 h72
       refine c_seq fun K83 hK83 => c_reg <| s_bin H rfl rfl rfl r_eql (lt_ rfl) fun a H => s_assign H rfl rfl (lt_ rfl) fun a H => c_nil <| hK83 _ _ <| c_cond H rfl (fun h84 => ?_) (fun h84 => ?_)
       ·replace h := h.1 h84
        refine c_seq fun K85 hK85 => c_reg <| s_fld H rfl rfl fld_37_1 (lt_ rfl) fun a H => ?_
        obtain ⟨l86, hc87, h⟩ := h
        refine s_load (v := (.bool l86)) H rfl rfl one_4 hc87 (lt_ rfl) fun a H => s_un H rfl rfl r_not (lt_ rfl) fun a H => s_move H rfl rfl (lt_ rfl) fun a H => ?_
        obtain ⟨x92, h93, h94, h⟩ := h
        refine g_join (n := 74) [(53, (.bool x92)), (3, (.pointer (some (blk b13))))] (.succ (.succ (.succ (.succ (.zero _))))) ?_ ?_
        ·intro h89
         try clear h
         rcases Bool.eq_false_or_eq_true (!l86) with h88 | h88
         ·replace H := H.ch (t := 49) (b := true) rfl h88
          replace h := h93 h88
          refine s_fld H (wantG H rfl rfl) rfl fld_37_2 (lt_ rfl) fun a H => ?_
          obtain ⟨l90, hc91, h⟩ := h
          refine s_load (v := (.bool l90)) H (wantG H rfl rfl) rfl one_4 hc91 (lt_ rfl) fun a H => s_un H (wantG H rfl rfl) rfl r_not (lt_ rfl) fun a H => s_pickT H rfl rfl rfl (lt_ rfl) fun a H => ?_
          subst h
          exact h89 _ (H.weaken ⟨rfl, rfl, trivial⟩)
         ·replace H := H.ch (t := 49) (b := false) rfl h88
          iterate 3 refine s_skip H (wantN H rfl rfl rfl) rfl (lt_ rfl) fun a H => ?_
          refine s_pickF H rfl rfl rfl (lt_ rfl) fun a H => ?_
          replace h := h94 h88
          subst h
          exact h89 _ (H.weaken ⟨rfl, rfl, trivial⟩)
        ·clear H a
         clear h93 h94
         intro a H
         refine s_move H rfl rfl (lt_ rfl) fun a H => ?_
         obtain ⟨x99, h100, h101, h⟩ := h
         refine g_join (n := 74) [(59, (.bool x99))] (.succ (.succ (.succ (.succ (.succ (.zero _)))))) ?_ ?_
         ·intro h96
          try clear h
          rcases Bool.eq_false_or_eq_true x92 with h95 | h95
          ·replace H := H.ch (t := 54) (b := true) rfl h95
           replace h := h100 h95
           refine s_fld H (wantG H rfl rfl) rfl fld_37_3 (lt_ rfl) fun a H => ?_
           obtain ⟨l97, hc98, h⟩ := h
           refine s_load (v := l97.v) H (wantG H rfl rfl) rfl one_35 hc98 (lt_ rfl) fun a H => s_blt H (wantG H rfl rfl) (H.args (vs := [l97.v]) rfl) (lt_ rfl) (fun cs => b_lenS (z := l97) sl_35) fun a H => s_bin H (wantG H rfl rfl) rfl rfl r_eql (lt_ rfl) fun a H => s_pickT H rfl rfl rfl (lt_ rfl) fun a H => ?_
           subst h
           exact h96 _ (H.weaken ⟨rfl, trivial⟩)
          ·replace H := H.ch (t := 54) (b := false) rfl h95
           iterate 4 refine s_skip H (wantN H rfl rfl rfl) rfl (lt_ rfl) fun a H => ?_
           refine s_pickF H rfl rfl rfl (lt_ rfl) fun a H => ?_
           replace h := h101 h95
           subst h
           exact h96 _ (H.weaken ⟨rfl, trivial⟩)
         ·clear H a
          clear h100 h101
          intro a H
          refine s_assign H rfl rfl (lt_ rfl) fun a H => c_nil <| hK85 _ _ <| c_ret ?_
          exact e_ret1 H rfl rfl h
       ·replace h := h.2 h84
        refine c_seq fun K102 hK102 => c_reg <| s_bin H rfl rfl rfl r_eql (lt_ rfl) fun a H => s_assign H rfl rfl (lt_ rfl) fun a H => c_nil <| hK102 _ _ <| c_cond H rfl (fun h103 => ?_) (fun h103 => ?_)
        ·replace h := h.1 h103
         refine c_seq fun K104 hK104 => c_reg <| s_fld H rfl rfl fld_37_2 (lt_ rfl) fun a H => ?_
         obtain ⟨l105, hc106, h⟩ := h
         refine s_load (v := (.bool l105)) H rfl rfl one_4 hc106 (lt_ rfl) fun a H => s_move H rfl rfl (lt_ rfl) fun a H => ?_
         obtain ⟨x118, h119, h120, h⟩ := h
         refine g_join (n := 74) [(73, (.bool x118))] (.succ (.succ (.succ (.succ (.succ (.succ (.succ (.succ (.succ (.zero _)))))))))) ?_ ?_
         ·intro h108
          try clear h
          rcases Bool.eq_false_or_eq_true l105 with h107 | h107
          ·replace H := H.ch (t := 64) (b := true) rfl h107
           iterate 3 refine s_skip H (wantN H rfl rfl rfl) rfl (lt_ rfl) fun a H => ?_
           iterate 4 refine s_skip H (wantU H rfl rfl) rfl (lt_ rfl) fun a H => ?_
           refine s_skip H (wantN H rfl rfl rfl) rfl (lt_ rfl) fun a H => s_pickT H rfl rfl rfl (lt_ rfl) fun a H => ?_
           replace h := h120 h107
           subst h
           exact h108 _ (H.weaken ⟨rfl, trivial⟩)
          ·replace H := H.ch (t := 64) (b := false) rfl h107
           replace h := h119 h107
           refine s_fld H (wantG H rfl rfl) rfl fld_37_1 (lt_ rfl) fun a H => ?_
           obtain ⟨l109, hc110, h⟩ := h
           refine s_load (v := (.bool l109)) H (wantG H rfl rfl) rfl one_4 hc110 (lt_ rfl) fun a H => s_move H (wantG H rfl rfl) rfl (lt_ rfl) fun a H => ?_
           obtain ⟨x115, h116, h117, h⟩ := h
           refine g_join (n := 74) [(72, (.bool x115)), (64, (.bool false))] (.succ (.succ (.succ (.succ (.succ (.zero _)))))) ?_ ?_
           ·intro h112
            try clear h
            rcases Bool.eq_false_or_eq_true l109 with h111 | h111
            ·replace H := H.ch (t := 67) (b := true) rfl h111
             replace h := h116 h111
             refine s_fld H (wantG H rfl rfl) rfl fld_37_3 (lt_ rfl) fun a H => ?_
             obtain ⟨l113, hc114, h⟩ := h
             refine s_load (v := l113.v) H (wantG H rfl rfl) rfl one_35 hc114 (lt_ rfl) fun a H => s_blt H (wantG H rfl rfl) (H.args (vs := [l113.v]) rfl) (lt_ rfl) (fun cs => b_lenS (z := l113) sl_35) fun a H => s_bin H (wantG H rfl rfl) rfl rfl r_eql (lt_ rfl) fun a H => s_pickT H (wantG H rfl rfl) rfl rfl (lt_ rfl) fun a H => ?_
             subst h
             exact h112 _ (H.weaken ⟨rfl, rfl, trivial⟩)
            ·replace H := H.ch (t := 67) (b := false) rfl h111
             iterate 4 refine s_skip H (wantN H rfl rfl rfl) rfl (lt_ rfl) fun a H => ?_
             refine s_pickF H (wantG H rfl rfl) rfl rfl (lt_ rfl) fun a H => ?_
             replace h := h117 h111
             subst h
             exact h112 _ (H.weaken ⟨rfl, rfl, trivial⟩)
           ·clear H a
            clear h116 h117
            intro a H
            refine s_pickF H rfl rfl rfl (lt_ rfl) fun a H => ?_
            subst h
            exact h108 _ (H.weaken ⟨rfl, trivial⟩)
         ·clear H a
          clear h119 h120
          intro a H
          refine s_assign H rfl rfl (lt_ rfl) fun a H => c_nil <| hK104 _ _ <| c_ret ?_
          exact e_ret1 H rfl rfl h
        ·replace h := h.2 h103
         refine c_skip <| hK67 _ _ <| c_seq fun K121 hK121 => c_reg <| s_assign H rfl rfl (lt_ rfl) fun a H => c_nil <| hK121 _ _ <| c_ret ?_
         exact e_ret1 H rfl rfl h

theorem sim_table_Table_pre (t1 : Option Addr) (k2 : ByteArray) (C3 C4 : Int) (d5 : Slc) (w : World) (Q : Ending → World → Prop) (h : vc_table_Table_pre t1 k2 C3 C4 d5 w Q) : Calls PP F_table_Table_pre #[(.pointer t1), (.string k2), (.agg #[(.i C3), (.i C4)]), d5.v] w Q := by
 unfold vc_table_Table_pre at h
 refine enter (n := 50) Try.func26 rfl rfl (Nat.le_of_ble_eq_true rfl) fun a H => c_seq fun K6 hK6 => c_reg ?_
 replace h := h.get
 obtain ⟨b7, w8, n9, h⟩ := h
 refine s_box H rfl rfl (lt_ rfl) ?_
 rw [← n9.at_]
 clear H a
 intro a H
 refine n9.go <| s_assign H rfl rfl (lt_ rfl) fun a H => c_nil <| hK6 _ _ <| c_seq fun K10 hK10 => c_reg <| s_move H rfl rfl (lt_ rfl) fun a H => ?_
 obtain ⟨a11, h103, h⟩ := h
 revert H
 subst h103
 intro H
 refine s_nil H rfl rfl (lt_ rfl) fun a H => s_fld H rfl rfl fld_66_1 (lt_ rfl) fun a H => ?_
 obtain ⟨l12, hc13, h⟩ := h
 refine s_load (v := (.map l12)) H rfl rfl one_64 hc13 (lt_ rfl) fun a H => s_move H rfl rfl (lt_ rfl) fun a H => ?_
 obtain ⟨_, h16, m14, rfl, h⟩ := h
 refine s_lkp H rfl rfl rfl h16 (lt_ rfl) ?_
 clear H a h16
 intro a H
 refine s_assign H rfl rfl (lt_ rfl) fun a H => c_nil <| hK10 _ _ <| c_seq fun K17 hK17 => c_reg <| s_move H rfl rfl (lt_ rfl) fun a H => s_loadN (l := [(.i C3), (.i C4)]) H rfl rfl agg_29 rfl ⟨(n9.cell (i := 0) rfl), (n9.cell (i := 1) rfl), trivial⟩ (lt_ rfl) fun a H => ?_
 obtain ⟨_, h24, C18, C19, F20, H21, D22, rfl, h⟩ := h
 refine s_lkp H rfl rfl rfl h24 (lt_ rfl) ?_
 clear H a h24
 intro a H
 replace h := h.get
 obtain ⟨b25, w26, n27, h⟩ := h
 refine s_alloc H rfl zero_37 (lt_ rfl) ?_
 rw [← n27.at_]
 clear H a
 intro a H
 refine n27.go <| s_stoN (l := [(.i C18), (.i C19), (.bool F20), (.bool H21), D22.v]) H rfl rfl rfl rfl agg_37 rfl rfl h ?_
 clear h H
 intro w28 h H
 refine c_nil <| hK17 _ _ <| c_seq fun K29 hK29 => c_seq fun K30 hK30 => ?_
 obtain ⟨R32, h, h102⟩ := h
 have h77 : ∀ (a : Act) (s31 : Bool) (w33 : World), R32 s31 w33 → Has 50 [] a [(0, (.pointer (some a11))), (1, (.string k2)), (3, d5.v), (6, (.pointer (some (blk b7)))), (9, (.map m14)), (10, (.pointer (some (blk b25)))), (32, (.bool s31))] → K30 a w33 := by
  clear h
  intro a s31 w33 h H
  replace h := h102 s31 w33 h
  refine hK30 _ _ <| c_cond H rfl (fun h34 => ?_) (fun h34 => ?_)
  ·replace h := h.1 h34
   refine c_seq fun K35 hK35 => c_reg <| s_assign H rfl rfl (lt_ rfl) fun a H => c_nil <| hK35 _ _ <| c_ret ?_
   exact e_ret1 H rfl rfl h
  ·replace h := h.2 h34
   refine c_skip <| hK29 _ _ <| c_seq fun K36 hK36 => ?_
   obtain ⟨R38, h, h76⟩ := h
   have h65 : ∀ (a : Act) (s37 : Option Nat) (w39 : World), R38 s37 w39 → Has 50 [] a [(3, d5.v), (6, (.pointer (some (blk b7)))), (9, (.map s37)), (10, (.pointer (some (blk b25))))] → K36 a w39 := by
    clear h
    intro a s37 w39 h H
    replace h := h76 s37 w39 h
    refine hK36 _ _ <| c_seq fun K40 hK40 => ?_
    replace H := H.weaken (L' := [(3, d5.v), (6, (.pointer (some (blk b7)))), (9, (.map s37)), (10, (.pointer (some (blk b25))))]) ⟨rfl, rfl, rfl, rfl, trivial⟩
    obtain ⟨C41, hc42, C43, hc44, C45, hc46, C47, hc48, l49, hc50, h⟩ := h
    refine c_any (V := [(0, (.map s37)), (1, (.agg #[(.i C41), (.i C43)])), (2, (.agg #[(.i C45), (.i C47)])), (3, (.pointer (some ((blk b25).add 2)))), (4, (.bool l49)), (5, d5.v)]) (⟨[[], [], [], [], [3], [], [5], [2, 4, 6], [0, 1, 2, 3, 4, 5, 6, 7]], [some 42, some 43, some 44, some 45, some 46, some 47, some 48, some 49, none], [6, 8], [0, 0, 0, 0, 0, 0, 0, 1, 1], [1, 1, 1, 1, 1, 0, 1, 1, 2]⟩ : Rg) [(3, d5.v), (6, (.pointer (some (blk b7)))), (9, (.map s37)), (10, (.pointer (some (blk b25))))] mixed (by kernel_rfl) H ?_
    refine Stg.eff [0, 1, 2, 3, 4, 5] (by kernel_rfl) rfl (.cons ?_ (.cons ?_ (.cons ?_ (.cons ?_ (.cons ?_ (.cons ?_ .nil)))))) ?_
    ·refine Ans.mk rfl rfl fun a H => s_move H rfl rfl (lt_ rfl) fun a H => ?_
     exact Ans.fin H rfl
    ·refine Ans.mk rfl rfl fun a H => s_loadN (l := [(.i C41), (.i C43)]) H rfl rfl agg_29 rfl ⟨hc42, hc44, trivial⟩ (lt_ rfl) fun a H => ?_
     exact Ans.fin H rfl
    ·refine Ans.mk rfl rfl fun a H => s_loadN (l := [(.i C45), (.i C47)]) H rfl rfl agg_29 rfl ⟨hc46, hc48, trivial⟩ (lt_ rfl) fun a H => ?_
     exact Ans.fin H rfl
    ·refine Ans.mk rfl rfl fun a H => s_fld H rfl rfl fld_37_1 (lt_ rfl) fun a H => ?_
     exact Ans.fin H rfl
    ·refine Ans.mk rfl rfl fun a H => s_load (v := (.bool l49)) H rfl rfl one_4 hc50 (lt_ rfl) fun a H => ?_
     exact Ans.fin H rfl
    ·refine Ans.mk rfl rfl fun a H => s_move H rfl rfl (lt_ rfl) fun a H => ?_
     exact Ans.fin H rfl
    ·intro a H
     replace H := H.weaken (L' := [(47, d5.v)]) ⟨rfl, trivial⟩
     refine s_call H rfl body_44 (H.args (vs := [d5.v]) rfl) (lt_ rfl) h ?_ (fun c w' h H => e_panic (P := PP) (fn := Try.f26) H h)
     clear H h a
     rintro _ w51 a ⟨C52, rfl, h⟩ H
     refine c_nil ?_
     obtain ⟨hc53, hc54, hc55, hc56, hc57, h⟩ := h
     refine effQ.go [(7, (.agg #[(.i C45), (.i C47), (.bool l49), (.bool true), C52.v]))] H rfl rfl <| Stg.eff [0, 1, 2, 3, 4, 7] (by kernel_rfl) rfl (.cons ?_ (.cons ?_ (.cons ?_ (.cons ?_ (.cons ?_ (.cons ?_ .nil)))))) ?_
     ·refine Ans.mk rfl rfl fun a H => s_move H rfl rfl (lt_ rfl) fun a H => ?_
      exact Ans.fin H rfl
     ·refine Ans.mk rfl rfl fun a H => s_loadN (l := [(.i C41), (.i C43)]) H rfl rfl agg_29 rfl ⟨hc53, hc54, trivial⟩ (lt_ rfl) fun a H => ?_
      exact Ans.fin H rfl
     ·refine Ans.mk rfl rfl fun a H => s_loadN (l := [(.i C45), (.i C47)]) H rfl rfl agg_29 rfl ⟨hc55, hc56, trivial⟩ (lt_ rfl) fun a H => ?_
      exact Ans.fin H rfl
     ·refine Ans.mk rfl rfl fun a H => s_fld H rfl rfl fld_37_1 (lt_ rfl) fun a H => ?_
      exact Ans.fin H rfl
     ·refine Ans.mk rfl rfl fun a H => s_load (v := (.bool l49)) H rfl rfl one_4 hc57 (lt_ rfl) fun a H => ?_
      exact Ans.fin H rfl
     ·refine Ans.mk rfl rfl fun a H => s_build H rfl (by rw [H.parts (vs := [(0, (.agg #[(.i C45), (.i C47)])), (1, (.bool l49)), (2, (.bool true)), (3, C52.v)]) rfl]; exact bd_37_ii64ii640_b1_b2_s3 w51 C45 C47 l49 true C52) (lt_ rfl) fun a H => ?_
      exact Ans.fin H rfl
     ·intro a H
      replace H := H.weaken (L' := [(42, (.map s37)), (43, (.agg #[(.i C41), (.i C43)])), (49, (.agg #[(.i C45), (.i C47), (.bool l49), (.bool true), C52.v]))]) ⟨rfl, rfl, rfl, trivial⟩
      obtain ⟨w58, h59, h⟩ := h
      refine s_mup H rfl rfl rfl rfl h59 ?_
      clear H h59
      intro H
      refine c_nil <| effQ.go0 [] H rfl rfl <| Stg.fin [] (by kernel_rfl) .nil ?_
      ·intro a H
       replace H := H.weaken (L' := []) trivial
       refine hK40 _ _ <| c_seq fun K60 hK60 => c_reg <| s_assign H rfl rfl (lt_ rfl) fun a H => c_nil <| hK60 _ _ <| c_ret ?_
       exact e_ret1 H rfl rfl h
   clear h76
   refine c_seq fun K66 hK66 => c_reg <| s_move H rfl rfl (lt_ rfl) fun a H => s_bin H rfl rfl rfl (r_eqM0 map_74) (lt_ rfl) fun a H => c_nil <| hK66 _ _ <| c_cond H rfl (fun h67 => ?_) (fun h67 => ?_)
   ·replace h := h.1 h67
    refine c_seq fun K68 hK68 => c_reg ?_
    obtain ⟨g69, w70, h71, h⟩ := h
    refine s_mkm H rfl h71 (lt_ rfl) ?_
    clear H a h71
    intro a H
    refine s_assign H rfl rfl (lt_ rfl) fun a H => c_nil <| hK68 _ _ <| c_reg <| s_move H rfl rfl (lt_ rfl) fun a H => s_nil H rfl rfl (lt_ rfl) fun a H => s_fld H rfl rfl fld_66_1 (lt_ rfl) fun a H => ?_
    obtain ⟨l72, hc73, h⟩ := h
    refine s_load (v := (.map l72)) H rfl rfl one_64 hc73 (lt_ rfl) fun a H => s_move H rfl rfl (lt_ rfl) fun a H => s_move H rfl rfl (lt_ rfl) fun a H => ?_
    obtain ⟨w74, h75, h⟩ := h
    refine s_mup H rfl rfl rfl rfl h75 ?_
    clear H h75
    intro H
    refine c_nil ?_
    exact h65 _ _ _ h (H.weaken ⟨rfl, rfl, rfl, rfl, trivial⟩)
   ·replace h := h.2 h67
    refine c_skip ?_
    exact h65 _ _ _ h (H.weaken ⟨rfl, rfl, rfl, rfl, trivial⟩)
 clear h102
 replace H := H.weaken (L' := [(0, (.pointer (some a11))), (1, (.string k2)), (3, d5.v), (6, (.pointer (some (blk b7)))), (9, (.map m14)), (10, (.pointer (some (blk b25))))]) ⟨rfl, rfl, rfl, rfl, rfl, rfl, trivial⟩
 obtain ⟨l78, hc79, h⟩ := h
 rcases Bool.eq_false_or_eq_true l78 with h80 | h80
 ·replace h := h.1 h80
  refine c_any (V := [(0, (.pointer (some ((blk b25).add 3)))), (1, (.bool l78)), (2, (.bool l78)), (3, undef), (4, undef), (5, undef), (6, undef), (7, undef), (8, undef)]) (⟨[[], [0], [1], [2], [2], [2], [2, 5], [2, 6], [2, 7], [2, 4, 8], [2, 3, 9], [2, 10], [2, 11]], [some 20, some 21, some 22, some 23, some 24, some 25, some 26, some 27, some 28, some 29, some 30, some 31, some 32], [9, 10], [0, 0, 0, 0, 0, 0, 0, 0, 0, 0, 1, 2, 2], [0, 0, 0, 1, 0, 0, 0, 0, 0, 1, 2, 2, 2]⟩ : Rg) [(0, (.pointer (some a11))), (1, (.string k2)), (3, d5.v), (6, (.pointer (some (blk b7)))), (9, (.map m14)), (10, (.pointer (some (blk b25))))] mixed (by kernel_rfl) H ?_
  refine Stg.eff [0, 1, 2, 3, 4, 5, 6, 7, 8] (by kernel_rfl) rfl (.cons ?_ (.cons ?_ (.cons ?_ (.cons ?_ (.cons ?_ (.cons ?_ (.cons ?_ (.cons ?_ (.cons ?_ .nil))))))))) ?_
  ·refine Ans.mk rfl rfl fun a H => s_fld H rfl rfl fld_37_2 (lt_ rfl) fun a H => ?_
   exact Ans.fin H rfl
  ·refine Ans.mk rfl rfl fun a H => s_load (v := (.bool l78)) H rfl rfl one_4 hc79 (lt_ rfl) fun a H => ?_
   exact Ans.fin H rfl
  ·refine Ans.mk rfl rfl fun a H => s_move H rfl rfl (lt_ rfl) fun a H => ?_
   exact Ans.fin H rfl
  ·exact .skip rfl rfl rfl rfl rfl rfl h80 rfl
  ·exact .skip rfl rfl rfl rfl rfl rfl h80 rfl
  ·exact .skip rfl rfl rfl rfl rfl rfl h80 rfl
  ·exact .skip rfl rfl rfl rfl rfl rfl h80 rfl
  ·exact .skip rfl rfl rfl rfl rfl rfl h80 rfl
  ·exact .skip rfl rfl rfl rfl rfl rfl h80 rfl
  ·intro a H
   replace H := H.weaken (L' := [(22, (.bool l78)), (24, undef), (28, undef)]) ⟨rfl, rfl, rfl, trivial⟩
   replace H := H.ch (t := 22) (b := true) rfl h80
   refine s_skip H (wantN H rfl rfl rfl) rfl (lt_ rfl) fun a H => c_nil <| effQ.go [] H rfl rfl <| Stg.eff [3] (by kernel_rfl) rfl (.cons ?_ .nil) ?_
   ·exact .skip rfl rfl rfl rfl rfl rfl h80 rfl
   ·intro a H
    replace H := H.weaken (L' := [(22, (.bool l78)), (23, undef), (29, undef)]) ⟨rfl, rfl, rfl, trivial⟩
    replace H := H.ch (t := 22) (b := true) rfl h80
    refine s_skip H (wantN H rfl rfl rfl) rfl (lt_ rfl) fun a H => c_nil <| effQ.go [(11, undef), (12, (.bool true))] H rfl rfl <| Stg.fin [11, 12] (by kernel_rfl) (.cons ?_ (.cons ?_ .nil)) ?_
    ·exact .skip rfl rfl rfl rfl rfl rfl h80 rfl
    ·refine Ans.mk rfl rfl fun a H => ?_
     replace H := H.ch (t := 22) (b := true) rfl h80
     refine s_pickT H rfl rfl rfl (lt_ rfl) fun a H => ?_
     exact Ans.fin H rfl
    ·intro a H
     replace H := H.weaken (L' := [(0, (.pointer (some a11))), (1, (.string k2)), (3, d5.v), (6, (.pointer (some (blk b7)))), (9, (.map m14)), (10, (.pointer (some (blk b25)))), (32, (.bool true))]) ⟨rfl, rfl, rfl, rfl, rfl, rfl, rfl, trivial⟩
     exact h77 _ _ _ h (H.weaken ⟨rfl, rfl, rfl, rfl, rfl, rfl, rfl, trivial⟩)
 ·replace h := h.2 h80
  obtain ⟨C81, hc82, C83, hc84, l85, hc86, h⟩ := h
  refine c_any (V := [(0, (.pointer (some ((blk b25).add 3)))), (1, (.bool l78)), (2, (.bool l78)), (3, (.agg #[(.i C81), (.i C83)])), (4, (.map m14)), (5, (.pointer (some a11))), (6, (.pointer (some a11))), (7, (.pointer (some (a11.add 0)))), (8, (.i l85))]) (⟨[[], [0], [1], [2], [2], [2], [2, 5], [2, 6], [2, 7], [2, 4, 8], [2, 3, 9], [2, 10], [2, 11]], [some 20, some 21, some 22, some 23, some 24, some 25, some 26, some 27, some 28, some 29, some 30, some 31, some 32], [9, 10], [0, 0, 0, 0, 0, 0, 0, 0, 0, 0, 1, 2, 2], [0, 0, 0, 1, 0, 0, 0, 0, 0, 1, 2, 2, 2]⟩ : Rg) [(0, (.pointer (some a11))), (1, (.string k2)), (3, d5.v), (6, (.pointer (some (blk b7)))), (9, (.map m14)), (10, (.pointer (some (blk b25))))] mixed (by kernel_rfl) H ?_
  refine Stg.eff [0, 1, 2, 3, 4, 5, 6, 7, 8] (by kernel_rfl) rfl (.cons ?_ (.cons ?_ (.cons ?_ (.cons ?_ (.cons ?_ (.cons ?_ (.cons ?_ (.cons ?_ (.cons ?_ .nil))))))))) ?_
  ·refine Ans.mk rfl rfl fun a H => s_fld H rfl rfl fld_37_2 (lt_ rfl) fun a H => ?_
   exact Ans.fin H rfl
  ·refine Ans.mk rfl rfl fun a H => s_load (v := (.bool l78)) H rfl rfl one_4 hc79 (lt_ rfl) fun a H => ?_
   exact Ans.fin H rfl
  ·refine Ans.mk rfl rfl fun a H => s_move H rfl rfl (lt_ rfl) fun a H => ?_
   exact Ans.fin H rfl
  ·refine Ans.mk rfl rfl fun a H => ?_
   replace H := H.ch (t := 22) (b := false) rfl h80
   refine s_loadN (l := [(.i C81), (.i C83)]) H (wantG H rfl rfl) rfl agg_29 rfl ⟨hc82, hc84, trivial⟩ (lt_ rfl) fun a H => ?_
   exact Ans.fin H rfl
  ·refine Ans.mk rfl rfl fun a H => ?_
   replace H := H.ch (t := 22) (b := false) rfl h80
   refine s_move H (wantG H rfl rfl) rfl (lt_ rfl) fun a H => ?_
   exact Ans.fin H rfl
  ·refine Ans.mk rfl rfl fun a H => ?_
   replace H := H.ch (t := 22) (b := false) rfl h80
   refine s_move H (wantG H rfl rfl) rfl (lt_ rfl) fun a H => ?_
   exact Ans.fin H rfl
  ·refine Ans.mk rfl rfl fun a H => ?_
   replace H := H.ch (t := 22) (b := false) rfl h80
   refine s_nil H (wantG H rfl rfl) rfl (lt_ rfl) fun a H => ?_
   exact Ans.fin H rfl
  ·refine Ans.mk rfl rfl fun a H => ?_
   replace H := H.ch (t := 22) (b := false) rfl h80
   refine s_fld H (wantG H rfl rfl) rfl fld_66_0 (lt_ rfl) fun a H => ?_
   exact Ans.fin H rfl
  ·refine Ans.mk rfl rfl fun a H => ?_
   replace H := H.ch (t := 22) (b := false) rfl h80
   refine s_load (v := (.i l85)) H (wantG H rfl rfl) rfl one_3 hc86 (lt_ rfl) fun a H => ?_
   exact Ans.fin H rfl
  ·intro a H
   replace H := H.weaken (L' := [(22, (.bool l78)), (24, (.map m14)), (28, (.i l85))]) ⟨rfl, rfl, rfl, trivial⟩
   replace H := H.ch (t := 22) (b := false) rfl h80
   refine s_call H (wantG H rfl rfl) body_35 (H.args (vs := [(.map m14), (.i l85)]) rfl) (lt_ rfl) h ?_ (fun c w' h H => e_panic (P := PP) (fn := Try.f26) H h)
   clear H h a
   rintro _ w87 a ⟨C88, C89, rfl, h⟩ H
   refine c_nil ?_
   obtain ⟨hc90, hc91, h⟩ := h
   refine effQ.go [] H rfl rfl <| Stg.eff [3] (by kernel_rfl) rfl (.cons ?_ .nil) ?_
   ·refine Ans.mk rfl rfl fun a H => ?_
    replace H := H.ch (t := 22) (b := false) rfl h80
    refine s_loadN (l := [(.i C81), (.i C83)]) H (wantG H rfl rfl) rfl agg_29 rfl ⟨hc90, hc91, trivial⟩ (lt_ rfl) fun a H => ?_
    exact Ans.fin H rfl
   ·intro a H
    replace H := H.weaken (L' := [(22, (.bool l78)), (23, (.agg #[(.i C81), (.i C83)])), (29, (.agg #[(.i C88), (.i C89)]))]) ⟨rfl, rfl, rfl, trivial⟩
    replace H := H.ch (t := 22) (b := false) rfl h80
    refine s_call H (wantG H rfl rfl) body_13 (H.args (vs := [(.agg #[(.i C81), (.i C83)]), (.agg #[(.i C88), (.i C89)])]) rfl) (lt_ rfl) h ?_ (fun c w' h H => e_panic (P := PP) (fn := Try.f26) H h)
    clear H h a
    rintro _ w92 a ⟨C93, rfl, h⟩ H
    refine c_nil <| effQ.go [(11, (.bool (decide (C93 < 0)))), (12, (.bool (decide (C93 < 0))))] H rfl rfl <| Stg.fin [11, 12] (by kernel_rfl) (.cons ?_ (.cons ?_ .nil)) ?_
    ·refine Ans.mk rfl rfl fun a H => ?_
     replace H := H.ch (t := 22) (b := false) rfl h80
     refine s_bin H (wantG H rfl rfl) rfl rfl r_lss (lt_ rfl) fun a H => ?_
     exact Ans.fin H rfl
    ·refine Ans.mk rfl rfl fun a H => ?_
     replace H := H.ch (t := 22) (b := false) rfl h80
     refine s_pickF H rfl rfl rfl (lt_ rfl) fun a H => ?_
     exact Ans.fin H rfl
    ·intro a H
     replace H := H.weaken (L' := [(0, (.pointer (some a11))), (1, (.string k2)), (3, d5.v), (6, (.pointer (some (blk b7)))), (9, (.map m14)), (10, (.pointer (some (blk b25)))), (32, (.bool (decide (C93 < 0))))]) ⟨rfl, rfl, rfl, rfl, rfl, rfl, rfl, trivial⟩
     exact h77 _ _ _ h (H.weaken ⟨rfl, rfl, rfl, rfl, rfl, rfl, rfl, trivial⟩)
end Go.Proofs.Ytgnceldnfefnmaa
