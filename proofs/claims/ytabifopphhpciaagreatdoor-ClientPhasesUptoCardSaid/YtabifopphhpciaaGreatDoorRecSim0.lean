/-
  The conditions give the machine's calls; printed by vcgen.py.
-/
import Derived.Test.YtabifopphhpciaaGreatDoorRecVc
namespace Go.Proofs.YtabifopphhpciaaGreatDoor
open Go Go.Vc
set_option maxRecDepth 100000
set_option maxHeartbeats 4000000
theorem sim_sherdlaw18_ClientPhases (N1 K2 : Int) (V3 I4 P5 : Slc) (k6 : ByteArray) (C7 C8 : Int) (w : World) (Q : Ending → World → Prop) (h : vc_sherdlaw18_ClientPhases N1 K2 V3 I4 P5 k6 C7 C8 w Q) : Calls PP F_sherdlaw18_ClientPhases #[(.agg #[(.i N1), (.i K2), V3.v, I4.v, P5.v]), (.string k6), (.agg #[(.i C7), (.i C8)])] w Q := by
 unfold vc_sherdlaw18_ClientPhases at h
 have eP {L : List (Nat × Value)} (c : List PanicEntry) (w' : World) (a : Act) (h : Q (.panicked c) w') (H : Has 340 [] a L) : bodyPost PP Tryz.f3 Q (.panic c) a w' := e_panic H h
 refine enter (n := 340) Tryz.func3 rfl rfl (le_ rfl) fun a H => sr fun K9 hK9 => ww H <| bx h rfl rfl rfl rfl fun b10 w11 n12 h => bx h rfl rfl rfl rfl fun b13 w14 n15 h => ag rfl rfl <| fun a H => nk hK9 <| sr fun K16 hK16 => ww H <| fd rfl fld_25_0 rfl <| fun a H => s_load (v := (.i N1)) H rfl rfl one_3 (n15.old (n12.cell (i := 0) rfl)) (lt_ rfl) fun a H => ww H <| fd rfl fld_25_1 rfl <| fun a H => s_load (v := (.i K2)) H rfl rfl one_3 (n15.old (n12.cell (i := 1) rfl)) (lt_ rfl) fun a H => ww H <| cl1 h body_7 rfl rfl eP fun t18 w17 h => ag rfl rfl <| fun a H => nk hK16 <| c_seq fun K19 hK19 => ?_
 replace H := H.weaken (L' := [(1, (.string k6)), (3, (.pointer (some (blk b10)))), (5, (.pointer (some (blk b13)))), (7, (.pointer t18))]) ⟨rfl, rfl, rfl, rfl, trivial⟩
 obtain ⟨a20, h21, h⟩ := h
 revert H
 revert h
 subst h21
 intro h H
 obtain ⟨N22, hc23, K24, hc25, D26, hc27, N28, hc29, K30, hc31, V32, hc33, I34, hc35, P36, hc37, h⟩ := h
 refine c_any (V := [(0, (.pointer (some a20))), (1, (.pointer (some a20))), (2, (.pointer (some (a20.add 0)))), (3, (.agg #[(.i N22), (.i K24), (.i D26)])), (4, (.agg #[(.i N28), (.i K30), V32.v, I34.v, P36.v]))]) (⟨[[], [0], [1], [2], [], [4], [3, 5], [6], [7], [7], [0, 1, 2, 3, 4, 5, 6, 7, 8], [0, 1, 2, 3, 4, 5, 6, 7, 8, 9, 10]], [some 36, some 37, some 38, some 39, some 40, some 41, some 42, some 35, some 43, some 44, some 8, some 9], [5, 6], [0, 0, 0, 0, 0, 0, 1, 2, 2, 2, 2, 2], [1, 1, 1, 1, 0, 1, 2, 2, 2, 2, 2, 2]⟩ : Rg) [(1, (.string k6)), (3, (.pointer (some (blk b10)))), (5, (.pointer (some (blk b13)))), (7, (.pointer (some a20)))] mixed (by kernel_rfl) H <| Stg.eff [0, 1, 2, 3, 4] (by kernel_rfl) rfl (.cons ?_ (.cons ?_ (.cons ?_ (.cons ?_ (.cons ?_ .nil))))) ?_
 ·exact Aw rfl rfl <| mv rfl rfl <| An rfl
 ·exact Aw rfl rfl <| nl rfl rfl <| An rfl
 ·exact Aw rfl rfl <| fd rfl fld_38_0 rfl <| An rfl
 ·exact Aw rfl rfl <| lN (l := [(.i N22), (.i K24), (.i D26)]) rfl agg_35 rfl ⟨hc23, hc25, hc27, trivial⟩ rfl <| An rfl
 ·exact Aw rfl rfl <| lN (l := [(.i N28), (.i K30), V32.v, I34.v, P36.v]) rfl agg_25 rfl ⟨hc29, hc31, hc33, hc35, hc37, trivial⟩ rfl <| An rfl
 ·refine cl1 h body_9 rfl rfl eP fun i39 w38 h => fun a H => ?_
  obtain ⟨hc40, hc41, hc42, h⟩ := h
  refine c_nil <| effQ.go [] H rfl rfl <| Stg.eff [0, 1, 2, 3] (by kernel_rfl) rfl (.cons ?_ (.cons ?_ (.cons ?_ (.cons ?_ .nil)))) ?_
  ·exact Aw rfl rfl <| mv rfl rfl <| An rfl
  ·exact Aw rfl rfl <| nl rfl rfl <| An rfl
  ·exact Aw rfl rfl <| fd rfl fld_38_0 rfl <| An rfl
  ·exact Aw rfl rfl <| lN (l := [(.i N22), (.i K24), (.i D26)]) rfl agg_35 rfl ⟨hc40, hc41, hc42, trivial⟩ rfl <| An rfl
  ·refine cl2 h body_8 rfl rfl eP fun N44 N45 w43 h => fun a H => c_nil <| effQ.go [(7, (.tuple #[(.pointer N44), (.i N45)])), (8, (.pointer N44)), (9, (.i N45)), (10, (.pointer N44)), (11, (.i N45))] H rfl rfl <| Stg.fin [7, 8, 9, 10, 11] (by kernel_rfl) (.cons ?_ (.cons ?_ (.cons ?_ (.cons ?_ (.cons ?_ .nil))))) ?_
   ·exact Aw rfl rfl <| mv rfl rfl <| An rfl
   ·exact Aw rfl rfl <| ex rfl rfl rfl <| An rfl
   ·exact Aw rfl rfl <| ex rfl rfl rfl <| An rfl
   ·exact Aw rfl rfl <| ag rfl rfl <| An rfl
   ·exact Aw rfl rfl <| ag rfl rfl <| An rfl
   ·intro a H
    replace H := H.weaken (L' := [(1, (.string k6)), (3, (.pointer (some (blk b10)))), (5, (.pointer (some (blk b13)))), (7, (.pointer (some a20))), (8, (.pointer N44)), (9, (.i N45))]) ⟨rfl, rfl, rfl, rfl, rfl, rfl, trivial⟩
    obtain ⟨N47, hc48, K49, hc50, D51, hc52, h⟩ := h
    refine hK19 _ _ <| sr fun K46 hK46 => ww H <| mv rfl rfl <| nl rfl rfl <| fd rfl fld_38_0 rfl <| lN (l := [(.i N47), (.i K49), (.i D51)]) rfl agg_35 rfl ⟨hc48, hc50, hc52, trivial⟩ rfl <| cl2 h body_10 rfl rfl eP fun S54 S55 w53 h => mv rfl rfl <| ex rfl rfl rfl <| ex rfl rfl rfl <| ag rfl rfl <| ag rfl rfl <| fun a H => nk hK46 <| c_seq fun K56 hK56 => ?_
    replace H := H.weaken (L' := [(1, (.string k6)), (3, (.pointer (some (blk b10)))), (5, (.pointer (some (blk b13)))), (7, (.pointer (some a20))), (8, (.pointer N44)), (9, (.i N45)), (10, (.i S54)), (11, (.i S55))]) ⟨rfl, rfl, rfl, rfl, rfl, rfl, rfl, rfl, trivial⟩
    obtain ⟨l57, hc58, l59, hc60, h⟩ := h
    refine c_any (V := [(0, (.pointer (some a20))), (1, (.pointer (some a20))), (2, (.pointer (some (a20.add 0)))), (3, (.pointer (some ((a20.add 0).add 0)))), (4, (.i l57)), (5, (.pointer (some a20))), (6, (.pointer (some a20))), (7, (.pointer (some (a20.add 0)))), (8, (.pointer (some ((a20.add 0).add 1)))), (9, (.i l59))]) (⟨[[], [0], [1], [2], [3], [], [5], [6], [7], [8], [4, 9], [10], [11], [11], [0, 1, 2, 3, 4, 5, 6, 7, 8, 9, 10, 11, 12], [0, 1, 2, 3, 4, 5, 6, 7, 8, 9, 10, 11, 12, 13, 14]], [some 54, some 55, some 56, some 57, some 58, some 59, some 60, some 61, some 62, some 63, some 64, some 53, some 65, some 66, some 12, some 13], [10], [0, 0, 0, 0, 0, 0, 0, 0, 0, 0, 0, 1, 1, 1, 1, 1], [0, 0, 0, 0, 0, 0, 0, 0, 0, 0, 1, 1, 1, 1, 1, 1]⟩ : Rg) [(1, (.string k6)), (3, (.pointer (some (blk b10)))), (5, (.pointer (some (blk b13)))), (7, (.pointer (some a20))), (8, (.pointer N44)), (9, (.i N45)), (10, (.i S54)), (11, (.i S55))] mixed (by kernel_rfl) H <| Stg.eff [0, 1, 2, 3, 4, 5, 6, 7, 8, 9] (by kernel_rfl) rfl (.cons ?_ (.cons ?_ (.cons ?_ (.cons ?_ (.cons ?_ (.cons ?_ (.cons ?_ (.cons ?_ (.cons ?_ (.cons ?_ .nil)))))))))) ?_
    ·exact Aw rfl rfl <| mv rfl rfl <| An rfl
    ·exact Aw rfl rfl <| nl rfl rfl <| An rfl
    ·exact Aw rfl rfl <| fd rfl fld_38_0 rfl <| An rfl
    ·exact Aw rfl rfl <| fd rfl fld_35_0 rfl <| An rfl
    ·exact Aw rfl rfl <| ld rfl one_3 hc58 rfl <| An rfl
    ·exact Aw rfl rfl <| mv rfl rfl <| An rfl
    ·exact Aw rfl rfl <| nl rfl rfl <| An rfl
    ·exact Aw rfl rfl <| fd rfl fld_38_0 rfl <| An rfl
    ·exact Aw rfl rfl <| fd rfl fld_35_1 rfl <| An rfl
    ·exact Aw rfl rfl <| ld rfl one_3 hc60 rfl <| An rfl
    ·refine cl2 h body_11 rfl rfl eP fun N62 N63 w61 h => fun a H => c_nil <| effQ.go [(11, (.tuple #[(.pointer N62), (.i N63)])), (12, (.pointer N62)), (13, (.i N63)), (14, (.pointer N62)), (15, (.i N63))] H rfl rfl <| Stg.fin [11, 12, 13, 14, 15] (by kernel_rfl) (.cons ?_ (.cons ?_ (.cons ?_ (.cons ?_ (.cons ?_ .nil))))) ?_
     ·exact Aw rfl rfl <| mv rfl rfl <| An rfl
     ·exact Aw rfl rfl <| ex rfl rfl rfl <| An rfl
     ·exact Aw rfl rfl <| ex rfl rfl rfl <| An rfl
     ·exact Aw rfl rfl <| ag rfl rfl <| An rfl
     ·exact Aw rfl rfl <| ag rfl rfl <| An rfl
     ·intro a H
      replace H := H.weaken (L' := [(1, (.string k6)), (3, (.pointer (some (blk b10)))), (5, (.pointer (some (blk b13)))), (7, (.pointer (some a20))), (8, (.pointer N44)), (9, (.i N45)), (10, (.i S54)), (11, (.i S55)), (12, (.pointer N62)), (13, (.i N63))]) ⟨rfl, rfl, rfl, rfl, rfl, rfl, rfl, rfl, rfl, rfl, trivial⟩
      refine hK56 _ _ <| c_seq fun K64 hK64 => sr fun K65 hK65 => ww H <| cl1 h body_12 rfl rfl eP fun a67 w66 h => fun a H => s_un H rfl rfl r_not (lt_ rfl) fun a H => ww H <| mv rfl rfl <| fun a H => g_join (n := 340) [(72, (.bool ((!a67) || (decide (N45 ≠ 0))))), (1, (.string k6)), (3, (.pointer (some (blk b10)))), (5, (.pointer (some (blk b13)))), (7, (.pointer (some a20))), (8, (.pointer N44)), (10, (.i S54)), (11, (.i S55)), (12, (.pointer N62)), (13, (.i N63))] (.succ (.succ (.succ (.zero _)))) ?_ ?_
      ·intro h69
       try clear h
       rcases Bool.eq_false_or_eq_true (!a67) with h68 | h68
       ·replace H := H.ch (t := 69) (b := true) rfl h68
        exact ww H <| sk rfl rfl rfl rfl <| sk rfl rfl rfl rfl <| pT rfl rfl rfl <| fun a H => h69 _ (H.weaken ⟨by rw [h68]; rfl, rfl, rfl, rfl, rfl, rfl, rfl, rfl, rfl, rfl, trivial⟩)
       ·replace H := H.ch (t := 69) (b := false) rfl h68
        exact ww H <| gmv rfl rfl rfl rfl <| gbn rfl rfl rfl rfl r_neq rfl <| pF rfl rfl rfl <| fun a H => h69 _ (H.weaken ⟨by rw [h68]; rfl, rfl, rfl, rfl, rfl, rfl, rfl, rfl, rfl, rfl, trivial⟩)
      ·clear H a
       intro a H
       refine ww H <| mv rfl rfl <| fun a H => g_join (n := 340) [(76, (.bool (((!a67) || (decide (N45 ≠ 0))) || (decide (S55 ≠ 0))))), (1, (.string k6)), (3, (.pointer (some (blk b10)))), (5, (.pointer (some (blk b13)))), (7, (.pointer (some a20))), (8, (.pointer N44)), (10, (.i S54)), (12, (.pointer N62)), (13, (.i N63))] (.succ (.succ (.succ (.zero _)))) ?_ ?_
       ·intro h71
        try clear h
        rcases Bool.eq_false_or_eq_true ((!a67) || (decide (N45 ≠ 0))) with h70 | h70
        ·replace H := H.ch (t := 73) (b := true) rfl h70
         exact ww H <| sk rfl rfl rfl rfl <| sk rfl rfl rfl rfl <| pT rfl rfl rfl <| fun a H => h71 _ (H.weaken ⟨by rw [h70]; rfl, rfl, rfl, rfl, rfl, rfl, rfl, rfl, rfl, trivial⟩)
        ·replace H := H.ch (t := 73) (b := false) rfl h70
         exact ww H <| gmv rfl rfl rfl rfl <| gbn rfl rfl rfl rfl r_neq rfl <| pF rfl rfl rfl <| fun a H => h71 _ (H.weaken ⟨by rw [h70]; rfl, rfl, rfl, rfl, rfl, rfl, rfl, rfl, rfl, trivial⟩)
       ·clear H a
        intro a H
        refine ww H <| mv rfl rfl <| fun a H => g_join (n := 340) [(80, (.bool ((((!a67) || (decide (N45 ≠ 0))) || (decide (S55 ≠ 0))) || (decide (N63 ≠ 0))))), (1, (.string k6)), (3, (.pointer (some (blk b10)))), (5, (.pointer (some (blk b13)))), (7, (.pointer (some a20))), (8, (.pointer N44)), (10, (.i S54)), (12, (.pointer N62))] (.succ (.succ (.succ (.zero _)))) ?_ ?_
        ·intro h73
         try clear h
         rcases Bool.eq_false_or_eq_true (((!a67) || (decide (N45 ≠ 0))) || (decide (S55 ≠ 0))) with h72 | h72
         ·replace H := H.ch (t := 77) (b := true) rfl h72
          exact ww H <| sk rfl rfl rfl rfl <| sk rfl rfl rfl rfl <| pT rfl rfl rfl <| fun a H => h73 _ (H.weaken ⟨by rw [h72]; rfl, rfl, rfl, rfl, rfl, rfl, rfl, rfl, trivial⟩)
         ·replace H := H.ch (t := 77) (b := false) rfl h72
          exact ww H <| gmv rfl rfl rfl rfl <| gbn rfl rfl rfl rfl r_neq rfl <| pF rfl rfl rfl <| fun a H => h73 _ (H.weaken ⟨by rw [h72]; rfl, rfl, rfl, rfl, rfl, rfl, rfl, rfl, trivial⟩)
        ·clear H a
         intro a H
         refine ww H <| mv rfl rfl <| fun a H => g_join (n := 340) [(84, (.bool (((((!a67) || (decide (N45 ≠ 0))) || (decide (S55 ≠ 0))) || (decide (N63 ≠ 0))) || N44.isNone))), (1, (.string k6)), (3, (.pointer (some (blk b10)))), (5, (.pointer (some (blk b13)))), (7, (.pointer (some a20))), (8, (.pointer N44)), (10, (.i S54)), (12, (.pointer N62))] (.succ (.succ (.succ (.zero _)))) ?_ ?_
         ·intro h75
          try clear h
          rcases Bool.eq_false_or_eq_true ((((!a67) || (decide (N45 ≠ 0))) || (decide (S55 ≠ 0))) || (decide (N63 ≠ 0))) with h74 | h74
          ·replace H := H.ch (t := 81) (b := true) rfl h74
           exact ww H <| sk rfl rfl rfl rfl <| sk rfl rfl rfl rfl <| pT rfl rfl rfl <| fun a H => h75 _ (H.weaken ⟨by rw [h74]; rfl, rfl, rfl, rfl, rfl, rfl, rfl, rfl, trivial⟩)
          ·replace H := H.ch (t := 81) (b := false) rfl h74
           exact ww H <| gmv rfl rfl rfl rfl <| gbn rfl rfl rfl rfl (r_eqP0 ptr_30) rfl <| pF rfl rfl rfl <| fun a H => h75 _ (H.weaken ⟨by rw [h74]; rfl, rfl, rfl, rfl, rfl, rfl, rfl, rfl, trivial⟩)
         ·clear H a
          intro a H
          refine nk hK65 <| cd H rfl h (fun h76 h => ?_) (fun h76 h => ?_)
          ·exact sr fun K77 hK77 => ww H <| ag rfl rfl <| fun a H => nk hK77 <| c_ret <| e_ret1 H rfl rfl h
          ·refine c_skip <| hK64 _ _ <| c_seq fun K78 hK78 => sr fun K79 hK79 => ww H <| mv rfl rfl <| bl (vs := [(.string k6)]) rfl rfl (fun cs => b_lenT str_9) <| bn rfl rfl r_lss rfl <| mv rfl rfl <| fun a H => g_join (n := 340) [(92, (.bool ((decide ((k6.size : Int) < 1)) || (decide (64 < (k6.size : Int)))))), (1, (.string k6)), (3, (.pointer (some (blk b10)))), (5, (.pointer (some (blk b13)))), (7, (.pointer (some a20))), (8, (.pointer N44)), (10, (.i S54)), (12, (.pointer N62))] (.succ (.succ (.succ (.succ (.zero _))))) ?_ ?_
           ·intro h81
            try clear h
            rcases Bool.eq_false_or_eq_true (decide ((k6.size : Int) < 1)) with h80 | h80
            ·replace H := H.ch (t := 88) (b := true) rfl h80
             exact ww H <| sk rfl rfl rfl rfl <| sk rfl rfl rfl rfl <| sk rfl rfl rfl rfl <| pT rfl rfl rfl <| fun a H => h81 _ (H.weaken ⟨by rw [h80]; rfl, rfl, rfl, rfl, rfl, rfl, rfl, rfl, trivial⟩)
            ·replace H := H.ch (t := 88) (b := false) rfl h80
             exact ww H <| gmv rfl rfl rfl rfl <| fun a H => s_blt H (wantG H rfl rfl) (H.args (vs := [(.string k6)]) rfl) (lt_ rfl) (fun cs => b_lenT str_9) fun a H => ww H <| gbn rfl rfl rfl rfl r_gtr rfl <| pF rfl rfl rfl <| fun a H => h81 _ (H.weaken ⟨by rw [h80]; rfl, rfl, rfl, rfl, rfl, rfl, rfl, rfl, trivial⟩)
           ·clear H a
            intro a H
            refine nk hK79 <| cd H rfl h (fun h82 h => ?_) (fun h82 h => ?_)
            ·exact sr fun K83 hK83 => ww H <| mv rfl rfl <| mv rfl rfl <| cl3 h body_13 rfl rfl eP fun P85 P86 P87 w84 h => mv rfl rfl <| ex rfl rfl rfl <| ex rfl rfl rfl <| ex rfl rfl rfl <| ag rfl rfl <| ag rfl rfl <| ag rfl rfl <| fun a H => nk hK83 <| sr fun K88 hK88 => ww H <| mv rfl rfl <| bn rfl rfl r_eql rfl <| ag rfl rfl <| fun a H => nk hK88 <| c_ret <| e_ret1 H rfl rfl h
            ·refine c_skip <| hK78 _ _ <| sr fun K93 hK93 => ww H <| ag rfl rfl <| fun a H => nk hK93 <| c_seq fun K94 hK94 => ?_
             obtain ⟨R96, h, h491⟩ := h
             have h472 : ∀ (a : Act) (v95 : Slc) (w97 : World), R96 v95 w97 → Has 340 [] a [(1, (.string k6)), (3, (.pointer (some (blk b10)))), (5, (.pointer (some (blk b13)))), (7, (.pointer (some a20))), (8, (.pointer N44)), (10, (.i S54)), (12, (.pointer N62)), (17, v95.v)] → K94 a w97 := by
              clear h
              intro a v95 w97 h H
              replace h := h491 v95 w97 h
              refine hK94 _ _ <| c_seq fun K98 hK98 => ?_
              obtain ⟨R99, h, h471⟩ := h
              have h450 : ∀ (a : Act) (w100 : World), R99 w100 → Has 340 [] a [(1, (.string k6)), (3, (.pointer (some (blk b10)))), (5, (.pointer (some (blk b13)))), (7, (.pointer (some a20))), (8, (.pointer N44)), (10, (.i S54)), (12, (.pointer N62)), (17, v95.v)] → K98 a w100 := by
               clear h
               intro a w100 h H
               replace h := h471 w100 h
               refine hK98 _ _ <| sr fun K101 hK101 => ww H <| mv rfl rfl <| mv rfl rfl <| cl2 h body_16 rfl rfl eP fun S103 S104 w102 h => mv rfl rfl <| ex rfl rfl rfl <| ex rfl rfl rfl <| ag rfl rfl <| ag rfl rfl <| fun a H => nk hK101 <| sr fun K105 hK105 => ww H <| mv rfl rfl <| mv rfl rfl <| mv rfl rfl <| cl3 h body_13 rfl rfl eP fun P107 P108 P109 w106 h => mv rfl rfl <| ex rfl rfl rfl <| ex rfl rfl rfl <| ex rfl rfl rfl <| ag rfl rfl <| ag rfl rfl <| ag rfl rfl <| fun a H => nk hK105 <| c_seq fun K110 hK110 => sr fun K111 hK111 => ww H <| mv rfl rfl <| bn rfl rfl r_neq rfl <| mv rfl rfl <| fun a H => g_join (n := 340) [(139, (.bool ((decide (S104 ≠ 0)) || (decide (P109 ≠ 0))))), (1, (.string k6)), (3, (.pointer (some (blk b10)))), (5, (.pointer (some (blk b13)))), (7, (.pointer (some a20))), (8, (.pointer N44)), (10, (.i S54)), (18, S103.v), (20, P108.v)] (.succ (.succ (.succ (.zero _)))) ?_ ?_
               ·intro h113
                try clear h
                rcases Bool.eq_false_or_eq_true (decide (S104 ≠ 0)) with h112 | h112
                ·replace H := H.ch (t := 136) (b := true) rfl h112
                 exact ww H <| sk rfl rfl rfl rfl <| sk rfl rfl rfl rfl <| pT rfl rfl rfl <| fun a H => h113 _ (H.weaken ⟨by rw [h112]; rfl, rfl, rfl, rfl, rfl, rfl, rfl, rfl, rfl, trivial⟩)
                ·replace H := H.ch (t := 136) (b := false) rfl h112
                 exact ww H <| gmv rfl rfl rfl rfl <| gbn rfl rfl rfl rfl r_neq rfl <| pF rfl rfl rfl <| fun a H => h113 _ (H.weaken ⟨by rw [h112]; rfl, rfl, rfl, rfl, rfl, rfl, rfl, rfl, rfl, trivial⟩)
               ·clear H a
                intro a H
                obtain ⟨x118, h119, h120, h⟩ := h
                refine ww H <| mv rfl rfl <| fun a H => g_join (n := 340) [(149, (.bool x118)), (1, (.string k6)), (3, (.pointer (some (blk b10)))), (5, (.pointer (some (blk b13)))), (7, (.pointer (some a20))), (8, (.pointer N44)), (10, (.i S54)), (18, S103.v), (20, P108.v)] (.succ (.succ (.succ (.succ (.succ (.succ (.succ (.succ (.succ (.zero _)))))))))) ?_ ?_
                ·intro h115
                 try clear h
                 rcases Bool.eq_false_or_eq_true ((decide (S104 ≠ 0)) || (decide (P109 ≠ 0))) with h114 | h114
                 ·replace H := H.ch (t := 140) (b := true) rfl h114
                  refine ww H <| sk rfl rfl rfl rfl <| sk rfl rfl rfl rfl <| sk rfl rfl rfl rfl <| sk rfl rfl rfl rfl <| sk rfl rfl rfl rfl <| sk rfl rfl rfl rfl <| sk rfl rfl rfl rfl <| sk rfl rfl rfl rfl <| pT rfl rfl rfl <| fun a H => ?_
                  replace h := h120 h114
                  subst h
                  exact h115 _ (H.weaken ⟨rfl, rfl, rfl, rfl, rfl, rfl, rfl, rfl, rfl, trivial⟩)
                 ·replace H := H.ch (t := 140) (b := false) rfl h114
                  replace h := h119 h114
                  refine ww H <| gmv rfl rfl rfl rfl <| fun a H => s_blt H (wantG H rfl rfl) (H.args (vs := [S103.v]) rfl) (lt_ rfl) (fun cs => b_lenS (z := S103) sl_22) fun a H => ?_
                  obtain ⟨l116, hc117, h⟩ := h
                  refine ww H <| gmv rfl rfl rfl rfl <| gnl rfl rfl rfl rfl <| gfd rfl rfl rfl fld_38_0 rfl <| gfd rfl rfl rfl fld_35_0 rfl <| gld rfl rfl rfl one_3 hc117 rfl <| gbn rfl rfl rfl rfl r_neq rfl <| pF rfl rfl rfl <| fun a H => ?_
                  subst h
                  exact h115 _ (H.weaken ⟨rfl, rfl, rfl, rfl, rfl, rfl, rfl, rfl, rfl, trivial⟩)
                ·clear H a
                 clear h119 h120
                 intro a H
                 refine nk hK111 <| cd H rfl h (fun h121 h => ?_) (fun h121 h => ?_)
                 ·exact sr fun K122 hK122 => ww H <| ag rfl rfl <| fun a H => nk hK122 <| c_ret <| e_ret1 H rfl rfl h
                 ·refine c_skip <| hK110 _ _ <| sr fun K123 hK123 => s_build H rfl (by rw [H.parts (vs := [(0, (.i 1)), (1, (.i 3)), (2, (.i 5))]) rfl]; exact bd_54_ii640_ii641_ii642 _ 1 3 5) (lt_ rfl) fun a H => ww H <| al h zero_54 rfl rfl rfl fun b124 w125 n126 h => sN h rfl rfl agg_54 rfl rfl fun w127 h => fun a H => nk hK123 <| c_seq fun K128 hK128 => sr fun K129 hK129 => ww H <| ag rfl rfl <| fun a H => nk hK129 <| c_block ?_
                  obtain ⟨I133, m134, h440, h441⟩ := h
                  refine c_loop (σ := Slc × Int) (fun z w => I133 z.1 z.2 w) (fun z w => m134 z.1 z.2 w) (fun z => [(1, (.string k6)), (3, (.pointer (some (blk b10)))), (5, (.pointer (some (blk b13)))), (7, (.pointer (some a20))), (8, (.pointer N44)), (10, (.i S54)), (18, S103.v), (20, z.1.v), (21, (.pointer (some (blk b124)))), (22, (.i z.2))]) (P108, 0) h440 (H.weaken ⟨rfl, rfl, rfl, rfl, rfl, rfl, rfl, rfl, rfl, rfl, trivial⟩) ?_
                  clear H h440
                  rintro ⟨l130, p131⟩ a w132 h H
                  replace h := h441 l130 p131 w132 h
                  clear h441
                  replace H : Has 340 [] a [(1, (.string k6)), (3, (.pointer (some (blk b10)))), (5, (.pointer (some (blk b13)))), (7, (.pointer (some a20))), (8, (.pointer N44)), (10, (.i S54)), (18, S103.v), (20, l130.v), (21, (.pointer (some (blk b124)))), (22, (.i p131))] := H
                  refine c_seq fun K135 hK135 => sr fun K136 hK136 => ww H <| mv rfl rfl <| bn rfl rfl r_lss rfl <| fun a H => nk hK136 <| cd H rfl h (fun h137 h => ?_) (fun h137 h => ?_)
                  ·refine c_skip <| hK135 _ _ <| c_seq fun K138 hK138 => ?_
                   obtain ⟨R140, h, h438⟩ := h
                   have h142 : ∀ (a : Act) (l139 : Slc) (w141 : World), R140 l139 w141 → Has 340 [] a [(1, (.string k6)), (3, (.pointer (some (blk b10)))), (5, (.pointer (some (blk b13)))), (7, (.pointer (some a20))), (8, (.pointer N44)), (10, (.i S54)), (18, S103.v), (20, l139.v), (21, (.pointer (some (blk b124)))), (22, (.i p131))] → K138 a w141 := by
                    clear h
                    intro a l139 w141 h H
                    replace h := h438 l139 w141 h
                    refine hK138 _ _ <| c_reg <| ww H <| mv rfl rfl <| bn rfl rfl r_add rfl <| ag rfl rfl <| fun a H => c_nil <| Exists.intro (l139, wr .i64 (p131 + 1)) ⟨h.1, h.2, H.weaken ⟨rfl, rfl, rfl, rfl, rfl, rfl, rfl, rfl, rfl, rfl, trivial⟩⟩
                   clear h438
                   obtain ⟨l145, hc146, h⟩ := h
                   refine c_block <| c_seq fun K143 hK143 => sr fun K144 hK144 => ww H <| mv rfl rfl <| bl (vs := [l130.v]) rfl rfl (fun cs => b_lenS (z := l130) sl_46) <| mv rfl rfl <| nl rfl rfl <| fd rfl fld_38_0 rfl <| fd rfl fld_35_0 rfl <| ld rfl one_3 hc146 rfl <| bn rfl rfl r_neq rfl <| fun a H => nk hK144 <| cd H rfl h (fun h147 h => ?_) (fun h147 h => ?_)
                   ·exact sr fun K148 hK148 => ww H <| ag rfl rfl <| fun a H => nk hK148 <| c_ret <| e_ret1 H rfl rfl h
                   ·refine c_skip <| hK143 _ _ <| c_seq fun K149 hK149 => sr fun K150 hK150 => ww H <| ag rfl rfl <| fun a H => nk hK150 <| c_block ?_
                    obtain ⟨I153, m154, h436, h437⟩ := h
                    refine c_loop (σ := Int) (fun z w => I153 z w) (fun z w => m154 z w) (fun z => [(1, (.string k6)), (3, (.pointer (some (blk b10)))), (5, (.pointer (some (blk b13)))), (7, (.pointer (some a20))), (8, (.pointer N44)), (10, (.i S54)), (18, S103.v), (20, l130.v), (21, (.pointer (some (blk b124)))), (22, (.i p131)), (23, (.i z))]) 0 h436 (H.weaken ⟨rfl, rfl, rfl, rfl, rfl, rfl, rfl, rfl, rfl, rfl, rfl, trivial⟩) ?_
                    clear H h436
                    rintro i151 a w152 h H
                    replace h := h437 i151 w152 h
                    clear h437
                    replace H : Has 340 [] a [(1, (.string k6)), (3, (.pointer (some (blk b10)))), (5, (.pointer (some (blk b13)))), (7, (.pointer (some a20))), (8, (.pointer N44)), (10, (.i S54)), (18, S103.v), (20, l130.v), (21, (.pointer (some (blk b124)))), (22, (.i p131)), (23, (.i i151))] := H
                    refine c_seq fun K155 hK155 => sr fun K156 hK156 => ww H <| mv rfl rfl <| mv rfl rfl <| bl (vs := [l130.v]) rfl rfl (fun cs => b_lenS (z := l130) sl_46) <| bn rfl rfl r_lss rfl <| fun a H => nk hK156 <| cd H rfl h (fun h157 h => ?_) (fun h157 h => ?_)
                    ·refine c_skip <| hK155 _ _ <| c_seq fun K158 hK158 => c_block <| c_seq fun K159 hK159 => ?_
                     obtain ⟨R161, h, h239⟩ := h
                     have h165 : ∀ (a : Act) (s160 : Bool) (w162 : World), R161 s160 w162 → Has 340 [] a [(1, (.string k6)), (3, (.pointer (some (blk b10)))), (5, (.pointer (some (blk b13)))), (7, (.pointer (some a20))), (8, (.pointer N44)), (10, (.i S54)), (18, S103.v), (20, l130.v), (21, (.pointer (some (blk b124)))), (22, (.i p131)), (23, (.i i151)), (231, (.bool s160))] → K159 a w162 := by
                      clear h
                      intro a s160 w162 h H
                      replace h := h239 s160 w162 h
                      refine hK159 _ _ <| cd H rfl h (fun h163 h => ?_) (fun h163 h => ?_)
                      ·exact sr fun K164 hK164 => ww H <| ag rfl rfl <| fun a H => nk hK164 <| c_ret <| e_ret1 H rfl rfl h
                      ·refine c_skip <| hK158 _ _ <| c_reg <| ww H <| mv rfl rfl <| bn rfl rfl r_add rfl <| ag rfl rfl <| fun a H => c_nil <| Exists.intro (wr .i64 (i151 + 1)) ⟨h.1, h.2, H.weaken ⟨rfl, rfl, rfl, rfl, rfl, rfl, rfl, rfl, rfl, rfl, rfl, trivial⟩⟩
                     clear h239
                     replace H := H.weaken (L' := [(1, (.string k6)), (3, (.pointer (some (blk b10)))), (5, (.pointer (some (blk b13)))), (7, (.pointer (some a20))), (8, (.pointer N44)), (10, (.i S54)), (18, S103.v), (20, l130.v), (21, (.pointer (some (blk b124)))), (22, (.i p131)), (23, (.i i151))]) ⟨rfl, rfl, rfl, rfl, rfl, rfl, rfl, rfl, rfl, rfl, rfl, trivial⟩
                     obtain ⟨a166, h167, h168, h169, l170, hc171, h172, h173, l174, hc175, h⟩ := h
                     rcases Bool.eq_false_or_eq_true (decide (l170 ≠ l174)) with h176 | h176
                     ·replace h := h.1 h176
                      refine c_any (V := [(0, l130.v), (1, (.i i151)), (2, (.pointer (some (a166.add (Int.toNat (i151) * 11))))), (3, (.pointer (some ((a166.add (Int.toNat (i151) * 11)).add 0)))), (4, (.i l170)), (5, (.i p131)), (6, (.pointer (some ((blk b124).add (Int.toNat (p131) * 1))))), (7, (.i l174)), (8, (.bool (decide (l170 ≠ l174)))), (9, (.bool (decide (l170 ≠ l174)))), (10, undef), (11, undef), (12, undef), (13, undef), (14, undef), (15, undef), (16, undef), (17, (.bool true)), (18, (.bool true)), (19, undef), (20, undef), (21, undef), (22, undef), (23, undef), (24, undef)]) (⟨[[], [], [0, 1], [2], [3], [], [5], [6], [4, 7], [8], [9], [9], [9, 10, 11], [9, 12], [9, 13], [9], [9, 14, 15], [9, 16], [9, 17], [18], [18], [18, 19, 20], [18, 21], [18, 22], [18], [18, 24], [18, 23, 25], [18, 26], [25, 27], [28], [28], [28, 29, 30], [28, 31], [28, 32], [28, 33], [28, 34], [28, 35], [36], [36], [36, 37, 38], [36, 39], [36, 40], [36], [36, 41, 42], [36, 43], [36, 44], [45], [45, 46], [45, 47], [48], [48], [48, 49, 50], [48, 51], [48, 52], [48, 53], [48], [48], [48, 55, 56], [48, 57], [48, 58], [48, 54, 59], [45, 48, 60], [45, 61]], [some 169, some 170, some 171, some 172, some 173, some 174, some 175, some 176, some 177, some 178, some 179, some 180, some 181, some 182, some 183, some 184, some 185, some 186, some 187, some 188, some 189, some 190, some 191, some 192, some 193, some 194, some 195, some 196, some 197, some 198, some 199, some 200, some 201, some 202, some 203, some 204, some 205, some 206, some 207, some 208, some 209, some 210, some 211, some 212, some 213, some 214, some 215, some 216, some 217, some 218, some 219, some 220, some 221, some 222, some 223, some 224, some 225, some 226, some 227, some 228, some 229, some 230, some 231], [25], [0, 0, 0, 0, 0, 0, 0, 0, 0, 0, 0, 0, 0, 0, 0, 0, 0, 0, 0, 0, 0, 0, 0, 0, 0, 0, 1, 1, 1, 1, 1, 1, 1, 1, 1, 1, 1, 1, 1, 1, 1, 1, 1, 1, 1, 1, 1, 1, 1, 1, 1, 1, 1, 1, 1, 1, 1, 1, 1, 1, 1, 1, 1], [0, 0, 0, 0, 0, 0, 0, 0, 0, 0, 0, 0, 0, 0, 0, 0, 0, 0, 0, 1, 1, 1, 1, 1, 0, 1, 1, 1, 1, 1, 1, 1, 1, 1, 1, 1, 1, 1, 1, 1, 1, 1, 1, 1, 1, 1, 1, 1, 1, 1, 1, 1, 1, 1, 1, 1, 1, 1, 1, 1, 1, 1, 1]⟩ : Rg) [(1, (.string k6)), (3, (.pointer (some (blk b10)))), (5, (.pointer (some (blk b13)))), (7, (.pointer (some a20))), (8, (.pointer N44)), (10, (.i S54)), (18, S103.v), (20, l130.v), (21, (.pointer (some (blk b124)))), (22, (.i p131)), (23, (.i i151))] mixed (by kernel_rfl) H ?_
                      refine Stg.eff [0, 1, 2, 3, 4, 5, 6, 7, 8, 9, 10, 11, 12, 13, 14, 15, 16, 17, 18, 19, 20, 21, 22, 23, 24] (by kernel_rfl) rfl (.cons ?_ (.cons ?_ (.cons ?_ (.cons ?_ (.cons ?_ (.cons ?_ (.cons ?_ (.cons ?_ (.cons ?_ (.cons ?_ (.cons ?_ (.cons ?_ (.cons ?_ (.cons ?_ (.cons ?_ (.cons ?_ (.cons ?_ (.cons ?_ (.cons ?_ (.cons ?_ (.cons ?_ (.cons ?_ (.cons ?_ (.cons ?_ (.cons ?_ .nil))))))))))))))))))))))))) ?_
                      ·exact Aw rfl rfl <| mv rfl rfl <| An rfl
                      ·exact Aw rfl rfl <| mv rfl rfl <| An rfl
                      ·exact Ans.mk rfl rfl fun a H => s_idxS (s := l130) H rfl rfl rfl slc_46 h167 h168 h169 (lt_ rfl) fun a H => Ans.fin H rfl
                      ·exact Aw rfl rfl <| fd rfl fld_56_0 rfl <| An rfl
                      ·exact Aw rfl rfl <| ld rfl one_3 hc171 rfl <| An rfl
                      ·exact Aw rfl rfl <| mv rfl rfl <| An rfl
                      ·exact Ans.mk rfl rfl fun a H => s_idxA H rfl rfl rfl arr_54 h172 h173 (lt_ rfl) fun a H => Ans.fin H rfl
                      ·exact Aw rfl rfl <| ld rfl one_3 hc175 rfl <| An rfl
                      ·exact Aw rfl rfl <| bn rfl rfl r_neq rfl <| An rfl
                      ·exact Aw rfl rfl <| mv rfl rfl <| An rfl
                      ·exact .skip rfl rfl rfl rfl rfl rfl h176 rfl
                      ·exact .skip rfl rfl rfl rfl rfl rfl h176 rfl
                      ·exact .skip rfl rfl rfl rfl rfl rfl h176 rfl
                      ·exact .skip rfl rfl rfl rfl rfl rfl h176 rfl
                      ·exact .skip rfl rfl rfl rfl rfl rfl h176 rfl
                      ·exact .skip rfl rfl rfl rfl rfl rfl h176 rfl
                      ·exact .skip rfl rfl rfl rfl rfl rfl h176 rfl
                      ·refine Ans.mk rfl rfl fun a H => ?_
                       replace H := H.ch (t := 178) (b := true) rfl h176
                       exact ww H <| pT rfl rfl rfl <| fun a H => Ans.fin H rfl
                      ·exact Aw rfl rfl <| mv rfl rfl <| An rfl
                      ·exact .skip rfl rfl rfl rfl rfl rfl rfl rfl
                      ·exact .skip rfl rfl rfl rfl rfl rfl rfl rfl
                      ·exact .skip rfl rfl rfl rfl rfl rfl rfl rfl
                      ·exact .skip rfl rfl rfl rfl rfl rfl rfl rfl
                      ·exact .skip rfl rfl rfl rfl rfl rfl rfl rfl
                      ·exact .skip rfl rfl rfl rfl rfl rfl rfl rfl
                      ·intro a H
                       replace H := H.weaken (L' := [(187, (.bool true)), (193, undef)]) ⟨rfl, rfl, trivial⟩
                       refine ww H <| sk rfl rfl rfl rfl <| fun a H => c_nil <| effQ.go [(26, undef), (27, (.bool true)), (28, (.bool true)), (29, undef), (30, undef), (31, undef), (32, undef), (33, undef), (34, undef), (35, (.bool true)), (36, (.bool true)), (37, undef), (38, undef), (39, undef), (40, undef), (41, undef), (42, undef), (43, undef), (44, (.bool true)), (45, (.bool true)), (46, undef), (47, undef), (48, undef), (49, undef), (50, undef), (51, undef), (52, undef), (53, undef), (54, undef), (55, undef), (56, undef), (57, undef), (58, undef), (59, undef), (60, undef), (61, undef), (62, (.bool true))] H rfl rfl ?_
                       refine Stg.fin [19, 20, 21, 22, 23, 26, 27, 28, 29, 30, 31, 32, 33, 34, 35, 36, 37, 38, 39, 40, 41, 42, 43, 44, 45, 46, 47, 48, 49, 50, 51, 52, 53, 54, 55, 56, 57, 58, 59, 60, 61, 62] (by kernel_rfl) (.cons ?_ (.cons ?_ (.cons ?_ (.cons ?_ (.cons ?_ (.cons ?_ (.cons ?_ (.cons ?_ (.cons ?_ (.cons ?_ (.cons ?_ (.cons ?_ (.cons ?_ (.cons ?_ (.cons ?_ (.cons ?_ (.cons ?_ (.cons ?_ (.cons ?_ (.cons ?_ (.cons ?_ (.cons ?_ (.cons ?_ (.cons ?_ (.cons ?_ (.cons ?_ (.cons ?_ (.cons ?_ (.cons ?_ (.cons ?_ (.cons ?_ (.cons ?_ (.cons ?_ (.cons ?_ (.cons ?_ (.cons ?_ (.cons ?_ (.cons ?_ (.cons ?_ (.cons ?_ (.cons ?_ (.cons ?_ .nil)))))))))))))))))))))))))))))))))))))))))) ?_
                       ·exact .skip rfl rfl rfl rfl rfl rfl rfl rfl
                       ·exact .skip rfl rfl rfl rfl rfl rfl rfl rfl
                       ·exact .skip rfl rfl rfl rfl rfl rfl rfl rfl
                       ·exact .skip rfl rfl rfl rfl rfl rfl rfl rfl
                       ·exact .skip rfl rfl rfl rfl rfl rfl rfl rfl
                       ·exact .skip rfl rfl rfl rfl rfl rfl rfl rfl
                       ·exact Aw rfl rfl <| pT rfl rfl rfl <| An rfl
                       ·exact Aw rfl rfl <| mv rfl rfl <| An rfl
                       ·exact .skip rfl rfl rfl rfl rfl rfl rfl rfl
                       ·exact .skip rfl rfl rfl rfl rfl rfl rfl rfl
                       ·exact .skip rfl rfl rfl rfl rfl rfl rfl rfl
                       ·exact .skip rfl rfl rfl rfl rfl rfl rfl rfl
                       ·exact .skip rfl rfl rfl rfl rfl rfl rfl rfl
                       ·exact .skip rfl rfl rfl rfl rfl rfl rfl rfl
                       ·exact Aw rfl rfl <| pT rfl rfl rfl <| An rfl
                       ·exact Aw rfl rfl <| mv rfl rfl <| An rfl
                       ·exact .skip rfl rfl rfl rfl rfl rfl rfl rfl
                       ·exact .skip rfl rfl rfl rfl rfl rfl rfl rfl
                       ·exact .skip rfl rfl rfl rfl rfl rfl rfl rfl
                       ·exact .skip rfl rfl rfl rfl rfl rfl rfl rfl
                       ·exact .skip rfl rfl rfl rfl rfl rfl rfl rfl
                       ·exact .skip rfl rfl rfl rfl rfl rfl rfl rfl
                       ·exact .skip rfl rfl rfl rfl rfl rfl rfl rfl
                       ·exact Aw rfl rfl <| pT rfl rfl rfl <| An rfl
                       ·exact Aw rfl rfl <| mv rfl rfl <| An rfl
                       ·exact .skip rfl rfl rfl rfl rfl rfl rfl rfl
                       ·exact .skip rfl rfl rfl rfl rfl rfl rfl rfl
                       ·exact .skip rfl rfl rfl rfl rfl rfl rfl rfl
                       ·exact .skipU rfl rfl rfl rfl rfl rfl
                       ·exact .skipU rfl rfl rfl rfl rfl rfl
                       ·exact .skipU rfl rfl rfl rfl rfl rfl
                       ·exact .skipU rfl rfl rfl rfl rfl rfl
                       ·exact .skipU rfl rfl rfl rfl rfl rfl
                       ·exact .skipU rfl rfl rfl rfl rfl rfl
                       ·exact .skipU rfl rfl rfl rfl rfl rfl
                       ·exact .skipU rfl rfl rfl rfl rfl rfl
                       ·exact .skipU rfl rfl rfl rfl rfl rfl
                       ·exact .skipU rfl rfl rfl rfl rfl rfl
                       ·exact .skipU rfl rfl rfl rfl rfl rfl
                       ·exact .skipU rfl rfl rfl rfl rfl rfl
                       ·exact .skip rfl rfl rfl rfl rfl rfl rfl rfl
                       ·exact Aw rfl rfl <| pT rfl rfl rfl <| An rfl
                       ·intro a H
                        replace H := H.weaken (L' := [(1, (.string k6)), (3, (.pointer (some (blk b10)))), (5, (.pointer (some (blk b13)))), (7, (.pointer (some a20))), (8, (.pointer N44)), (10, (.i S54)), (18, S103.v), (20, l130.v), (21, (.pointer (some (blk b124)))), (22, (.i p131)), (23, (.i i151)), (231, (.bool true))]) ⟨rfl, rfl, rfl, rfl, rfl, rfl, rfl, rfl, rfl, rfl, rfl, rfl, trivial⟩
                        exact h165 _ _ _ h (H.weaken ⟨rfl, rfl, rfl, rfl, rfl, rfl, rfl, rfl, rfl, rfl, rfl, rfl, trivial⟩)
                     ·replace h := h.2 h176
                      obtain ⟨a177, h178, h179, h180, l181, hc182, h⟩ := h
                      rcases Bool.eq_false_or_eq_true (decide (l181 ≠ i151)) with h183 | h183
                      ·replace h := h.1 h183
                       refine c_any (V := [(0, l130.v), (1, (.i i151)), (2, (.pointer (some (a166.add (Int.toNat (i151) * 11))))), (3, (.pointer (some ((a166.add (Int.toNat (i151) * 11)).add 0)))), (4, (.i l170)), (5, (.i p131)), (6, (.pointer (some ((blk b124).add (Int.toNat (p131) * 1))))), (7, (.i l174)), (8, (.bool (decide (l170 ≠ l174)))), (9, (.bool (decide (l170 ≠ l174)))), (10, l130.v), (11, (.i i151)), (12, (.pointer (some (a177.add (Int.toNat (i151) * 11))))), (13, (.pointer (some ((a177.add (Int.toNat (i151) * 11)).add 2)))), (14, (.i l181)), (15, (.i i151)), (16, (.bool (decide (l181 ≠ i151)))), (17, (.bool (decide (l181 ≠ i151)))), (18, (.bool (decide (l181 ≠ i151)))), (19, undef), (20, undef), (21, undef), (22, undef), (23, undef), (24, undef)]) (⟨[[], [], [0, 1], [2], [3], [], [5], [6], [4, 7], [8], [9], [9], [9, 10, 11], [9, 12], [9, 13], [9], [9, 14, 15], [9, 16], [9, 17], [18], [18], [18, 19, 20], [18, 21], [18, 22], [18], [18, 24], [18, 23, 25], [18, 26], [25, 27], [28], [28], [28, 29, 30], [28, 31], [28, 32], [28, 33], [28, 34], [28, 35], [36], [36], [36, 37, 38], [36, 39], [36, 40], [36], [36, 41, 42], [36, 43], [36, 44], [45], [45, 46], [45, 47], [48], [48], [48, 49, 50], [48, 51], [48, 52], [48, 53], [48], [48], [48, 55, 56], [48, 57], [48, 58], [48, 54, 59], [45, 48, 60], [45, 61]], [some 169, some 170, some 171, some 172, some 173, some 174, some 175, some 176, some 177, some 178, some 179, some 180, some 181, some 182, some 183, some 184, some 185, some 186, some 187, some 188, some 189, some 190, some 191, some 192, some 193, some 194, some 195, some 196, some 197, some 198, some 199, some 200, some 201, some 202, some 203, some 204, some 205, some 206, some 207, some 208, some 209, some 210, some 211, some 212, some 213, some 214, some 215, some 216, some 217, some 218, some 219, some 220, some 221, some 222, some 223, some 224, some 225, some 226, some 227, some 228, some 229, some 230, some 231], [25], [0, 0, 0, 0, 0, 0, 0, 0, 0, 0, 0, 0, 0, 0, 0, 0, 0, 0, 0, 0, 0, 0, 0, 0, 0, 0, 1, 1, 1, 1, 1, 1, 1, 1, 1, 1, 1, 1, 1, 1, 1, 1, 1, 1, 1, 1, 1, 1, 1, 1, 1, 1, 1, 1, 1, 1, 1, 1, 1, 1, 1, 1, 1], [0, 0, 0, 0, 0, 0, 0, 0, 0, 0, 0, 0, 0, 0, 0, 0, 0, 0, 0, 1, 1, 1, 1, 1, 0, 1, 1, 1, 1, 1, 1, 1, 1, 1, 1, 1, 1, 1, 1, 1, 1, 1, 1, 1, 1, 1, 1, 1, 1, 1, 1, 1, 1, 1, 1, 1, 1, 1, 1, 1, 1, 1, 1]⟩ : Rg) [(1, (.string k6)), (3, (.pointer (some (blk b10)))), (5, (.pointer (some (blk b13)))), (7, (.pointer (some a20))), (8, (.pointer N44)), (10, (.i S54)), (18, S103.v), (20, l130.v), (21, (.pointer (some (blk b124)))), (22, (.i p131)), (23, (.i i151))] mixed (by kernel_rfl) H ?_
                       refine Stg.eff [0, 1, 2, 3, 4, 5, 6, 7, 8, 9, 10, 11, 12, 13, 14, 15, 16, 17, 18, 19, 20, 21, 22, 23, 24] (by kernel_rfl) rfl (.cons ?_ (.cons ?_ (.cons ?_ (.cons ?_ (.cons ?_ (.cons ?_ (.cons ?_ (.cons ?_ (.cons ?_ (.cons ?_ (.cons ?_ (.cons ?_ (.cons ?_ (.cons ?_ (.cons ?_ (.cons ?_ (.cons ?_ (.cons ?_ (.cons ?_ (.cons ?_ (.cons ?_ (.cons ?_ (.cons ?_ (.cons ?_ (.cons ?_ .nil))))))))))))))))))))))))) ?_
                       ·exact Aw rfl rfl <| mv rfl rfl <| An rfl
                       ·exact Aw rfl rfl <| mv rfl rfl <| An rfl
                       ·exact Ans.mk rfl rfl fun a H => s_idxS (s := l130) H rfl rfl rfl slc_46 h167 h168 h169 (lt_ rfl) fun a H => Ans.fin H rfl
                       ·exact Aw rfl rfl <| fd rfl fld_56_0 rfl <| An rfl
                       ·exact Aw rfl rfl <| ld rfl one_3 hc171 rfl <| An rfl
                       ·exact Aw rfl rfl <| mv rfl rfl <| An rfl
                       ·exact Ans.mk rfl rfl fun a H => s_idxA H rfl rfl rfl arr_54 h172 h173 (lt_ rfl) fun a H => Ans.fin H rfl
                       ·exact Aw rfl rfl <| ld rfl one_3 hc175 rfl <| An rfl
                       ·exact Aw rfl rfl <| bn rfl rfl r_neq rfl <| An rfl
                       ·exact Aw rfl rfl <| mv rfl rfl <| An rfl
                       ·refine Ans.mk rfl rfl fun a H => ?_
                        replace H := H.ch (t := 178) (b := false) rfl h176
                        exact ww H <| gmv rfl rfl rfl rfl <| fun a H => Ans.fin H rfl
                       ·refine Ans.mk rfl rfl fun a H => ?_
                        replace H := H.ch (t := 178) (b := false) rfl h176
                        exact ww H <| gmv rfl rfl rfl rfl <| fun a H => Ans.fin H rfl
                       ·refine Ans.mk rfl rfl fun a H => ?_
                        replace H := H.ch (t := 178) (b := false) rfl h176
                        exact s_idxS (s := l130) H (wantG H rfl rfl) rfl rfl slc_46 h178 h179 h180 (lt_ rfl) fun a H => Ans.fin H rfl
                       ·refine Ans.mk rfl rfl fun a H => ?_
                        replace H := H.ch (t := 178) (b := false) rfl h176
                        exact ww H <| gfd rfl rfl rfl fld_56_2 rfl <| fun a H => Ans.fin H rfl
                       ·refine Ans.mk rfl rfl fun a H => ?_
                        replace H := H.ch (t := 178) (b := false) rfl h176
                        exact ww H <| gld rfl rfl rfl one_3 hc182 rfl <| fun a H => Ans.fin H rfl
                       ·refine Ans.mk rfl rfl fun a H => ?_
                        replace H := H.ch (t := 178) (b := false) rfl h176
                        exact ww H <| gmv rfl rfl rfl rfl <| fun a H => Ans.fin H rfl
                       ·refine Ans.mk rfl rfl fun a H => ?_
                        replace H := H.ch (t := 178) (b := false) rfl h176
                        exact ww H <| gbn rfl rfl rfl rfl r_neq rfl <| fun a H => Ans.fin H rfl
                       ·refine Ans.mk rfl rfl fun a H => ?_
                        replace H := H.ch (t := 178) (b := false) rfl h176
                        exact ww H <| pF rfl rfl rfl <| fun a H => Ans.fin H rfl
                       ·exact Aw rfl rfl <| mv rfl rfl <| An rfl
                       ·exact .skip rfl rfl rfl rfl rfl rfl h183 rfl
                       ·exact .skip rfl rfl rfl rfl rfl rfl h183 rfl
                       ·exact .skip rfl rfl rfl rfl rfl rfl h183 rfl
                       ·exact .skip rfl rfl rfl rfl rfl rfl h183 rfl
                       ·exact .skip rfl rfl rfl rfl rfl rfl h183 rfl
                       ·exact .skip rfl rfl rfl rfl rfl rfl h183 rfl
                       ·intro a H
                        replace H := H.weaken (L' := [(187, (.bool (decide (l181 ≠ i151)))), (193, undef)]) ⟨rfl, rfl, trivial⟩
                        replace H := H.ch (t := 187) (b := true) rfl h183
                        refine ww H <| sk rfl rfl rfl rfl <| fun a H => c_nil <| effQ.go [(26, undef), (27, (.bool true)), (28, (.bool true)), (29, undef), (30, undef), (31, undef), (32, undef), (33, undef), (34, undef), (35, (.bool true)), (36, (.bool true)), (37, undef), (38, undef), (39, undef), (40, undef), (41, undef), (42, undef), (43, undef), (44, (.bool true)), (45, (.bool true)), (46, undef), (47, undef), (48, undef), (49, undef), (50, undef), (51, undef), (52, undef), (53, undef), (54, undef), (55, undef), (56, undef), (57, undef), (58, undef), (59, undef), (60, undef), (61, undef), (62, (.bool true))] H rfl rfl ?_
                        refine Stg.fin [19, 20, 21, 22, 23, 26, 27, 28, 29, 30, 31, 32, 33, 34, 35, 36, 37, 38, 39, 40, 41, 42, 43, 44, 45, 46, 47, 48, 49, 50, 51, 52, 53, 54, 55, 56, 57, 58, 59, 60, 61, 62] (by kernel_rfl) (.cons ?_ (.cons ?_ (.cons ?_ (.cons ?_ (.cons ?_ (.cons ?_ (.cons ?_ (.cons ?_ (.cons ?_ (.cons ?_ (.cons ?_ (.cons ?_ (.cons ?_ (.cons ?_ (.cons ?_ (.cons ?_ (.cons ?_ (.cons ?_ (.cons ?_ (.cons ?_ (.cons ?_ (.cons ?_ (.cons ?_ (.cons ?_ (.cons ?_ (.cons ?_ (.cons ?_ (.cons ?_ (.cons ?_ (.cons ?_ (.cons ?_ (.cons ?_ (.cons ?_ (.cons ?_ (.cons ?_ (.cons ?_ (.cons ?_ (.cons ?_ (.cons ?_ (.cons ?_ (.cons ?_ (.cons ?_ .nil)))))))))))))))))))))))))))))))))))))))))) ?_
                        ·exact .skip rfl rfl rfl rfl rfl rfl h183 rfl
                        ·exact .skip rfl rfl rfl rfl rfl rfl h183 rfl
                        ·exact .skip rfl rfl rfl rfl rfl rfl h183 rfl
                        ·exact .skip rfl rfl rfl rfl rfl rfl h183 rfl
                        ·exact .skip rfl rfl rfl rfl rfl rfl h183 rfl
                        ·exact .skip rfl rfl rfl rfl rfl rfl h183 rfl
                        ·refine Ans.mk rfl rfl fun a H => ?_
                         replace H := H.ch (t := 187) (b := true) rfl h183
                         exact ww H <| pT rfl rfl rfl <| fun a H => Ans.fin H rfl
                        ·exact Aw rfl rfl <| mv rfl rfl <| An rfl
                        ·exact .skip rfl rfl rfl rfl rfl rfl rfl rfl
                        ·exact .skip rfl rfl rfl rfl rfl rfl rfl rfl
                        ·exact .skip rfl rfl rfl rfl rfl rfl rfl rfl
                        ·exact .skip rfl rfl rfl rfl rfl rfl rfl rfl
                        ·exact .skip rfl rfl rfl rfl rfl rfl rfl rfl
                        ·exact .skip rfl rfl rfl rfl rfl rfl rfl rfl
                        ·exact Aw rfl rfl <| pT rfl rfl rfl <| An rfl
                        ·exact Aw rfl rfl <| mv rfl rfl <| An rfl
                        ·exact .skip rfl rfl rfl rfl rfl rfl rfl rfl
                        ·exact .skip rfl rfl rfl rfl rfl rfl rfl rfl
                        ·exact .skip rfl rfl rfl rfl rfl rfl rfl rfl
                        ·exact .skip rfl rfl rfl rfl rfl rfl rfl rfl
                        ·exact .skip rfl rfl rfl rfl rfl rfl rfl rfl
                        ·exact .skip rfl rfl rfl rfl rfl rfl rfl rfl
                        ·exact .skip rfl rfl rfl rfl rfl rfl rfl rfl
                        ·exact Aw rfl rfl <| pT rfl rfl rfl <| An rfl
                        ·exact Aw rfl rfl <| mv rfl rfl <| An rfl
                        ·exact .skip rfl rfl rfl rfl rfl rfl rfl rfl
                        ·exact .skip rfl rfl rfl rfl rfl rfl rfl rfl
                        ·exact .skip rfl rfl rfl rfl rfl rfl rfl rfl
                        ·exact .skipU rfl rfl rfl rfl rfl rfl
                        ·exact .skipU rfl rfl rfl rfl rfl rfl
                        ·exact .skipU rfl rfl rfl rfl rfl rfl
                        ·exact .skipU rfl rfl rfl rfl rfl rfl
                        ·exact .skipU rfl rfl rfl rfl rfl rfl
                        ·exact .skipU rfl rfl rfl rfl rfl rfl
                        ·exact .skipU rfl rfl rfl rfl rfl rfl
                        ·exact .skipU rfl rfl rfl rfl rfl rfl
                        ·exact .skipU rfl rfl rfl rfl rfl rfl
                        ·exact .skipU rfl rfl rfl rfl rfl rfl
                        ·exact .skipU rfl rfl rfl rfl rfl rfl
                        ·exact .skipU rfl rfl rfl rfl rfl rfl
                        ·exact .skip rfl rfl rfl rfl rfl rfl rfl rfl
                        ·exact Aw rfl rfl <| pT rfl rfl rfl <| An rfl
                        ·intro a H
                         replace H := H.weaken (L' := [(1, (.string k6)), (3, (.pointer (some (blk b10)))), (5, (.pointer (some (blk b13)))), (7, (.pointer (some a20))), (8, (.pointer N44)), (10, (.i S54)), (18, S103.v), (20, l130.v), (21, (.pointer (some (blk b124)))), (22, (.i p131)), (23, (.i i151)), (231, (.bool true))]) ⟨rfl, rfl, rfl, rfl, rfl, rfl, rfl, rfl, rfl, rfl, rfl, rfl, trivial⟩
                         exact h165 _ _ _ h (H.weaken ⟨rfl, rfl, rfl, rfl, rfl, rfl, rfl, rfl, rfl, rfl, rfl, rfl, trivial⟩)
                      ·replace h := h.2 h183
                       obtain ⟨a184, h185, h186, h187, l188, hc189, N190, hc191, K192, hc193, V194, hc195, I196, hc197, P198, hc199, h⟩ := h
                       refine c_any (V := [(0, l130.v), (1, (.i i151)), (2, (.pointer (some (a166.add (Int.toNat (i151) * 11))))), (3, (.pointer (some ((a166.add (Int.toNat (i151) * 11)).add 0)))), (4, (.i l170)), (5, (.i p131)), (6, (.pointer (some ((blk b124).add (Int.toNat (p131) * 1))))), (7, (.i l174)), (8, (.bool (decide (l170 ≠ l174)))), (9, (.bool (decide (l170 ≠ l174)))), (10, l130.v), (11, (.i i151)), (12, (.pointer (some (a177.add (Int.toNat (i151) * 11))))), (13, (.pointer (some ((a177.add (Int.toNat (i151) * 11)).add 2)))), (14, (.i l181)), (15, (.i i151)), (16, (.bool (decide (l181 ≠ i151)))), (17, (.bool (decide (l181 ≠ i151)))), (18, (.bool (decide (l181 ≠ i151)))), (19, l130.v), (20, (.i i151)), (21, (.pointer (some (a184.add (Int.toNat (i151) * 11))))), (22, (.pointer (some ((a184.add (Int.toNat (i151) * 11)).add 1)))), (23, (.i l188)), (24, (.agg #[(.i N190), (.i K192), V194.v, I196.v, P198.v]))]) (⟨[[], [], [0, 1], [2], [3], [], [5], [6], [4, 7], [8], [9], [9], [9, 10, 11], [9, 12], [9, 13], [9], [9, 14, 15], [9, 16], [9, 17], [18], [18], [18, 19, 20], [18, 21], [18, 22], [18], [18, 24], [18, 23, 25], [18, 26], [25, 27], [28], [28], [28, 29, 30], [28, 31], [28, 32], [28, 33], [28, 34], [28, 35], [36], [36], [36, 37, 38], [36, 39], [36, 40], [36], [36, 41, 42], [36, 43], [36, 44], [45], [45, 46], [45, 47], [48], [48], [48, 49, 50], [48, 51], [48, 52], [48, 53], [48], [48], [48, 55, 56], [48, 57], [48, 58], [48, 54, 59], [45, 48, 60], [45, 61]], [some 169, some 170, some 171, some 172, some 173, some 174, some 175, some 176, some 177, some 178, some 179, some 180, some 181, some 182, some 183, some 184, some 185, some 186, some 187, some 188, some 189, some 190, some 191, some 192, some 193, some 194, some 195, some 196, some 197, some 198, some 199, some 200, some 201, some 202, some 203, some 204, some 205, some 206, some 207, some 208, some 209, some 210, some 211, some 212, some 213, some 214, some 215, some 216, some 217, some 218, some 219, some 220, some 221, some 222, some 223, some 224, some 225, some 226, some 227, some 228, some 229, some 230, some 231], [25], [0, 0, 0, 0, 0, 0, 0, 0, 0, 0, 0, 0, 0, 0, 0, 0, 0, 0, 0, 0, 0, 0, 0, 0, 0, 0, 1, 1, 1, 1, 1, 1, 1, 1, 1, 1, 1, 1, 1, 1, 1, 1, 1, 1, 1, 1, 1, 1, 1, 1, 1, 1, 1, 1, 1, 1, 1, 1, 1, 1, 1, 1, 1], [0, 0, 0, 0, 0, 0, 0, 0, 0, 0, 0, 0, 0, 0, 0, 0, 0, 0, 0, 1, 1, 1, 1, 1, 0, 1, 1, 1, 1, 1, 1, 1, 1, 1, 1, 1, 1, 1, 1, 1, 1, 1, 1, 1, 1, 1, 1, 1, 1, 1, 1, 1, 1, 1, 1, 1, 1, 1, 1, 1, 1, 1, 1]⟩ : Rg) [(1, (.string k6)), (3, (.pointer (some (blk b10)))), (5, (.pointer (some (blk b13)))), (7, (.pointer (some a20))), (8, (.pointer N44)), (10, (.i S54)), (18, S103.v), (20, l130.v), (21, (.pointer (some (blk b124)))), (22, (.i p131)), (23, (.i i151))] mixed (by kernel_rfl) H ?_
                       refine Stg.eff [0, 1, 2, 3, 4, 5, 6, 7, 8, 9, 10, 11, 12, 13, 14, 15, 16, 17, 18, 19, 20, 21, 22, 23, 24] (by kernel_rfl) rfl (.cons ?_ (.cons ?_ (.cons ?_ (.cons ?_ (.cons ?_ (.cons ?_ (.cons ?_ (.cons ?_ (.cons ?_ (.cons ?_ (.cons ?_ (.cons ?_ (.cons ?_ (.cons ?_ (.cons ?_ (.cons ?_ (.cons ?_ (.cons ?_ (.cons ?_ (.cons ?_ (.cons ?_ (.cons ?_ (.cons ?_ (.cons ?_ (.cons ?_ .nil))))))))))))))))))))))))) ?_
                       ·exact Aw rfl rfl <| mv rfl rfl <| An rfl
                       ·exact Aw rfl rfl <| mv rfl rfl <| An rfl
                       ·exact Ans.mk rfl rfl fun a H => s_idxS (s := l130) H rfl rfl rfl slc_46 h167 h168 h169 (lt_ rfl) fun a H => Ans.fin H rfl
                       ·exact Aw rfl rfl <| fd rfl fld_56_0 rfl <| An rfl
                       ·exact Aw rfl rfl <| ld rfl one_3 hc171 rfl <| An rfl
                       ·exact Aw rfl rfl <| mv rfl rfl <| An rfl
                       ·exact Ans.mk rfl rfl fun a H => s_idxA H rfl rfl rfl arr_54 h172 h173 (lt_ rfl) fun a H => Ans.fin H rfl
                       ·exact Aw rfl rfl <| ld rfl one_3 hc175 rfl <| An rfl
                       ·exact Aw rfl rfl <| bn rfl rfl r_neq rfl <| An rfl
                       ·exact Aw rfl rfl <| mv rfl rfl <| An rfl
                       ·refine Ans.mk rfl rfl fun a H => ?_
                        replace H := H.ch (t := 178) (b := false) rfl h176
                        exact ww H <| gmv rfl rfl rfl rfl <| fun a H => Ans.fin H rfl
                       ·refine Ans.mk rfl rfl fun a H => ?_
                        replace H := H.ch (t := 178) (b := false) rfl h176
                        exact ww H <| gmv rfl rfl rfl rfl <| fun a H => Ans.fin H rfl
                       ·refine Ans.mk rfl rfl fun a H => ?_
                        replace H := H.ch (t := 178) (b := false) rfl h176
                        exact s_idxS (s := l130) H (wantG H rfl rfl) rfl rfl slc_46 h178 h179 h180 (lt_ rfl) fun a H => Ans.fin H rfl
                       ·refine Ans.mk rfl rfl fun a H => ?_
                        replace H := H.ch (t := 178) (b := false) rfl h176
                        exact ww H <| gfd rfl rfl rfl fld_56_2 rfl <| fun a H => Ans.fin H rfl
                       ·refine Ans.mk rfl rfl fun a H => ?_
                        replace H := H.ch (t := 178) (b := false) rfl h176
                        exact ww H <| gld rfl rfl rfl one_3 hc182 rfl <| fun a H => Ans.fin H rfl
                       ·refine Ans.mk rfl rfl fun a H => ?_
                        replace H := H.ch (t := 178) (b := false) rfl h176
                        exact ww H <| gmv rfl rfl rfl rfl <| fun a H => Ans.fin H rfl
                       ·refine Ans.mk rfl rfl fun a H => ?_
                        replace H := H.ch (t := 178) (b := false) rfl h176
                        exact ww H <| gbn rfl rfl rfl rfl r_neq rfl <| fun a H => Ans.fin H rfl
                       ·refine Ans.mk rfl rfl fun a H => ?_
                        replace H := H.ch (t := 178) (b := false) rfl h176
                        exact ww H <| pF rfl rfl rfl <| fun a H => Ans.fin H rfl
                       ·exact Aw rfl rfl <| mv rfl rfl <| An rfl
                       ·refine Ans.mk rfl rfl fun a H => ?_
                        replace H := H.ch (t := 187) (b := false) rfl h183
                        exact ww H <| gmv rfl rfl rfl rfl <| fun a H => Ans.fin H rfl
                       ·refine Ans.mk rfl rfl fun a H => ?_
                        replace H := H.ch (t := 187) (b := false) rfl h183
                        exact ww H <| gmv rfl rfl rfl rfl <| fun a H => Ans.fin H rfl
                       ·refine Ans.mk rfl rfl fun a H => ?_
                        replace H := H.ch (t := 187) (b := false) rfl h183
                        exact s_idxS (s := l130) H (wantG H rfl rfl) rfl rfl slc_46 h185 h186 h187 (lt_ rfl) fun a H => Ans.fin H rfl
                       ·refine Ans.mk rfl rfl fun a H => ?_
                        replace H := H.ch (t := 187) (b := false) rfl h183
                        exact ww H <| gfd rfl rfl rfl fld_56_1 rfl <| fun a H => Ans.fin H rfl
                       ·refine Ans.mk rfl rfl fun a H => ?_
                        replace H := H.ch (t := 187) (b := false) rfl h183
                        exact ww H <| gld rfl rfl rfl one_3 hc189 rfl <| fun a H => Ans.fin H rfl
                       ·refine Ans.mk rfl rfl fun a H => ?_
                        replace H := H.ch (t := 187) (b := false) rfl h183
                        exact ww H <| glN (l := [(.i N190), (.i K192), V194.v, I196.v, P198.v]) rfl rfl rfl agg_25 rfl ⟨hc191, hc193, hc195, hc197, hc199, trivial⟩ rfl <| fun a H => Ans.fin H rfl
                       ·intro a H
                        replace H := H.weaken (L' := [(187, (.bool (decide (l181 ≠ i151)))), (193, (.agg #[(.i N190), (.i K192), V194.v, I196.v, P198.v]))]) ⟨rfl, rfl, trivial⟩
                        replace H := H.ch (t := 187) (b := false) rfl h183
                        refine s_call H (wantG H rfl rfl) body_9 (H.args (vs := [(.agg #[(.i N190), (.i K192), V194.v, I196.v, P198.v]), (.i 0)]) rfl) (lt_ rfl) h ?_ (fun c w' => eP c w' _)
                        clear H h a
                        rintro _ w200 a ⟨i201, rfl, h⟩ H
                        obtain ⟨hc202, h⟩ := h
                        refine c_nil ?_
                        rcases Bool.eq_false_or_eq_true (decide (l188 ≠ i201)) with h203 | h203
                        ·replace h := h.1 h203
                         refine effQ.go [(26, (.bool (decide (l188 ≠ i201)))), (27, (.bool (decide (l188 ≠ i201)))), (28, (.bool (decide (l188 ≠ i201)))), (29, undef), (30, undef), (31, undef), (32, undef), (33, undef), (34, undef), (35, (.bool true)), (36, (.bool true)), (37, undef), (38, undef), (39, undef), (40, undef), (41, undef), (42, undef), (43, undef), (44, (.bool true)), (45, (.bool true)), (46, undef), (47, undef), (48, undef), (49, undef), (50, undef), (51, undef), (52, undef), (53, undef), (54, undef), (55, undef), (56, undef), (57, undef), (58, undef), (59, undef), (60, undef), (61, undef), (62, (.bool true))] H rfl rfl ?_
                         refine Stg.fin [19, 20, 21, 22, 23, 26, 27, 28, 29, 30, 31, 32, 33, 34, 35, 36, 37, 38, 39, 40, 41, 42, 43, 44, 45, 46, 47, 48, 49, 50, 51, 52, 53, 54, 55, 56, 57, 58, 59, 60, 61, 62] (by kernel_rfl) (.cons ?_ (.cons ?_ (.cons ?_ (.cons ?_ (.cons ?_ (.cons ?_ (.cons ?_ (.cons ?_ (.cons ?_ (.cons ?_ (.cons ?_ (.cons ?_ (.cons ?_ (.cons ?_ (.cons ?_ (.cons ?_ (.cons ?_ (.cons ?_ (.cons ?_ (.cons ?_ (.cons ?_ (.cons ?_ (.cons ?_ (.cons ?_ (.cons ?_ (.cons ?_ (.cons ?_ (.cons ?_ (.cons ?_ (.cons ?_ (.cons ?_ (.cons ?_ (.cons ?_ (.cons ?_ (.cons ?_ (.cons ?_ (.cons ?_ (.cons ?_ (.cons ?_ (.cons ?_ (.cons ?_ (.cons ?_ .nil)))))))))))))))))))))))))))))))))))))))))) ?_
                         ·refine Ans.mk rfl rfl fun a H => ?_
                          replace H := H.ch (t := 187) (b := false) rfl h183
                          exact ww H <| gmv rfl rfl rfl rfl <| fun a H => Ans.fin H rfl
                         ·refine Ans.mk rfl rfl fun a H => ?_
                          replace H := H.ch (t := 187) (b := false) rfl h183
                          exact ww H <| gmv rfl rfl rfl rfl <| fun a H => Ans.fin H rfl
                         ·refine Ans.mk rfl rfl fun a H => ?_
                          replace H := H.ch (t := 187) (b := false) rfl h183
                          exact s_idxS (s := l130) H (wantG H rfl rfl) rfl rfl slc_46 h185 h186 h187 (lt_ rfl) fun a H => Ans.fin H rfl
                         ·refine Ans.mk rfl rfl fun a H => ?_
                          replace H := H.ch (t := 187) (b := false) rfl h183
                          exact ww H <| gfd rfl rfl rfl fld_56_1 rfl <| fun a H => Ans.fin H rfl
                         ·refine Ans.mk rfl rfl fun a H => ?_
                          replace H := H.ch (t := 187) (b := false) rfl h183
                          exact ww H <| gld rfl rfl rfl one_3 hc202 rfl <| fun a H => Ans.fin H rfl
                         ·refine Ans.mk rfl rfl fun a H => ?_
                          replace H := H.ch (t := 187) (b := false) rfl h183
                          exact ww H <| gbn rfl rfl rfl rfl r_neq rfl <| fun a H => Ans.fin H rfl
                         ·refine Ans.mk rfl rfl fun a H => ?_
                          replace H := H.ch (t := 187) (b := false) rfl h183
                          exact ww H <| pF rfl rfl rfl <| fun a H => Ans.fin H rfl
                         ·exact Aw rfl rfl <| mv rfl rfl <| An rfl
                         ·exact .skip rfl rfl rfl rfl rfl rfl h203 rfl
                         ·exact .skip rfl rfl rfl rfl rfl rfl h203 rfl
                         ·exact .skip rfl rfl rfl rfl rfl rfl h203 rfl
                         ·exact .skip rfl rfl rfl rfl rfl rfl h203 rfl
                         ·exact .skip rfl rfl rfl rfl rfl rfl h203 rfl
                         ·exact .skip rfl rfl rfl rfl rfl rfl h203 rfl
                         ·refine Ans.mk rfl rfl fun a H => ?_
                          replace H := H.ch (t := 197) (b := true) rfl h203
                          exact ww H <| pT rfl rfl rfl <| fun a H => Ans.fin H rfl
                         ·exact Aw rfl rfl <| mv rfl rfl <| An rfl
                         ·exact .skip rfl rfl rfl rfl rfl rfl rfl rfl
                         ·exact .skip rfl rfl rfl rfl rfl rfl rfl rfl
                         ·exact .skip rfl rfl rfl rfl rfl rfl rfl rfl
                         ·exact .skip rfl rfl rfl rfl rfl rfl rfl rfl
                         ·exact .skip rfl rfl rfl rfl rfl rfl rfl rfl
                         ·exact .skip rfl rfl rfl rfl rfl rfl rfl rfl
                         ·exact .skip rfl rfl rfl rfl rfl rfl rfl rfl
                         ·exact Aw rfl rfl <| pT rfl rfl rfl <| An rfl
                         ·exact Aw rfl rfl <| mv rfl rfl <| An rfl
                         ·exact .skip rfl rfl rfl rfl rfl rfl rfl rfl
                         ·exact .skip rfl rfl rfl rfl rfl rfl rfl rfl
                         ·exact .skip rfl rfl rfl rfl rfl rfl rfl rfl
                         ·exact .skipU rfl rfl rfl rfl rfl rfl
                         ·exact .skipU rfl rfl rfl rfl rfl rfl
                         ·exact .skipU rfl rfl rfl rfl rfl rfl
                         ·exact .skipU rfl rfl rfl rfl rfl rfl
                         ·exact .skipU rfl rfl rfl rfl rfl rfl
                         ·exact .skipU rfl rfl rfl rfl rfl rfl
                         ·exact .skipU rfl rfl rfl rfl rfl rfl
                         ·exact .skipU rfl rfl rfl rfl rfl rfl
                         ·exact .skipU rfl rfl rfl rfl rfl rfl
                         ·exact .skipU rfl rfl rfl rfl rfl rfl
                         ·exact .skipU rfl rfl rfl rfl rfl rfl
                         ·exact .skipU rfl rfl rfl rfl rfl rfl
                         ·exact .skip rfl rfl rfl rfl rfl rfl rfl rfl
                         ·exact Aw rfl rfl <| pT rfl rfl rfl <| An rfl
                         ·intro a H
                          replace H := H.weaken (L' := [(1, (.string k6)), (3, (.pointer (some (blk b10)))), (5, (.pointer (some (blk b13)))), (7, (.pointer (some a20))), (8, (.pointer N44)), (10, (.i S54)), (18, S103.v), (20, l130.v), (21, (.pointer (some (blk b124)))), (22, (.i p131)), (23, (.i i151)), (231, (.bool true))]) ⟨rfl, rfl, rfl, rfl, rfl, rfl, rfl, rfl, rfl, rfl, rfl, rfl, trivial⟩
                          exact h165 _ _ _ h (H.weaken ⟨rfl, rfl, rfl, rfl, rfl, rfl, rfl, rfl, rfl, rfl, rfl, rfl, trivial⟩)
                        ·replace h := h.2 h203
                         obtain ⟨a204, h205, h206, h207, l208, hc209, h⟩ := h
                         rcases Bool.eq_false_or_eq_true (decide (l208 ≠ 1)) with h210 | h210
                         ·replace h := h.1 h210
                          refine effQ.go [(26, (.bool (decide (l188 ≠ i201)))), (27, (.bool (decide (l188 ≠ i201)))), (28, (.bool (decide (l188 ≠ i201)))), (29, l130.v), (30, (.i i151)), (31, (.pointer (some (a204.add (Int.toNat (i151) * 11))))), (32, (.pointer (some ((a204.add (Int.toNat (i151) * 11)).add 3)))), (33, (.i l208)), (34, (.bool (decide (l208 ≠ 1)))), (35, (.bool (decide (l208 ≠ 1)))), (36, (.bool (decide (l208 ≠ 1)))), (37, undef), (38, undef), (39, undef), (40, undef), (41, undef), (42, undef), (43, undef), (44, (.bool true)), (45, (.bool true)), (46, undef), (47, undef), (48, undef), (49, undef), (50, undef), (51, undef), (52, undef), (53, undef), (54, undef), (55, undef), (56, undef), (57, undef), (58, undef), (59, undef), (60, undef), (61, undef), (62, (.bool true))] H rfl rfl ?_
                          refine Stg.fin [19, 20, 21, 22, 23, 26, 27, 28, 29, 30, 31, 32, 33, 34, 35, 36, 37, 38, 39, 40, 41, 42, 43, 44, 45, 46, 47, 48, 49, 50, 51, 52, 53, 54, 55, 56, 57, 58, 59, 60, 61, 62] (by kernel_rfl) (.cons ?_ (.cons ?_ (.cons ?_ (.cons ?_ (.cons ?_ (.cons ?_ (.cons ?_ (.cons ?_ (.cons ?_ (.cons ?_ (.cons ?_ (.cons ?_ (.cons ?_ (.cons ?_ (.cons ?_ (.cons ?_ (.cons ?_ (.cons ?_ (.cons ?_ (.cons ?_ (.cons ?_ (.cons ?_ (.cons ?_ (.cons ?_ (.cons ?_ (.cons ?_ (.cons ?_ (.cons ?_ (.cons ?_ (.cons ?_ (.cons ?_ (.cons ?_ (.cons ?_ (.cons ?_ (.cons ?_ (.cons ?_ (.cons ?_ (.cons ?_ (.cons ?_ (.cons ?_ (.cons ?_ (.cons ?_ .nil)))))))))))))))))))))))))))))))))))))))))) ?_
                          ·refine Ans.mk rfl rfl fun a H => ?_
                           replace H := H.ch (t := 187) (b := false) rfl h183
                           exact ww H <| gmv rfl rfl rfl rfl <| fun a H => Ans.fin H rfl
                          ·refine Ans.mk rfl rfl fun a H => ?_
                           replace H := H.ch (t := 187) (b := false) rfl h183
                           exact ww H <| gmv rfl rfl rfl rfl <| fun a H => Ans.fin H rfl
                          ·refine Ans.mk rfl rfl fun a H => ?_
                           replace H := H.ch (t := 187) (b := false) rfl h183
                           exact s_idxS (s := l130) H (wantG H rfl rfl) rfl rfl slc_46 h185 h186 h187 (lt_ rfl) fun a H => Ans.fin H rfl
                          ·refine Ans.mk rfl rfl fun a H => ?_
                           replace H := H.ch (t := 187) (b := false) rfl h183
                           exact ww H <| gfd rfl rfl rfl fld_56_1 rfl <| fun a H => Ans.fin H rfl
                          ·refine Ans.mk rfl rfl fun a H => ?_
                           replace H := H.ch (t := 187) (b := false) rfl h183
                           exact ww H <| gld rfl rfl rfl one_3 hc202 rfl <| fun a H => Ans.fin H rfl
                          ·refine Ans.mk rfl rfl fun a H => ?_
                           replace H := H.ch (t := 187) (b := false) rfl h183
                           exact ww H <| gbn rfl rfl rfl rfl r_neq rfl <| fun a H => Ans.fin H rfl
                          ·refine Ans.mk rfl rfl fun a H => ?_
                           replace H := H.ch (t := 187) (b := false) rfl h183
                           exact ww H <| pF rfl rfl rfl <| fun a H => Ans.fin H rfl
                          ·exact Aw rfl rfl <| mv rfl rfl <| An rfl
                          ·refine Ans.mk rfl rfl fun a H => ?_
                           replace H := H.ch (t := 197) (b := false) rfl h203
                           exact ww H <| gmv rfl rfl rfl rfl <| fun a H => Ans.fin H rfl
                          ·refine Ans.mk rfl rfl fun a H => ?_
                           replace H := H.ch (t := 197) (b := false) rfl h203
                           exact ww H <| gmv rfl rfl rfl rfl <| fun a H => Ans.fin H rfl
                          ·refine Ans.mk rfl rfl fun a H => ?_
                           replace H := H.ch (t := 197) (b := false) rfl h203
                           exact s_idxS (s := l130) H (wantG H rfl rfl) rfl rfl slc_46 h205 h206 h207 (lt_ rfl) fun a H => Ans.fin H rfl
                          ·refine Ans.mk rfl rfl fun a H => ?_
                           replace H := H.ch (t := 197) (b := false) rfl h203
                           exact ww H <| gfd rfl rfl rfl fld_56_3 rfl <| fun a H => Ans.fin H rfl
                          ·refine Ans.mk rfl rfl fun a H => ?_
                           replace H := H.ch (t := 197) (b := false) rfl h203
                           exact ww H <| gld rfl rfl rfl one_2 hc209 rfl <| fun a H => Ans.fin H rfl
                          ·refine Ans.mk rfl rfl fun a H => ?_
                           replace H := H.ch (t := 197) (b := false) rfl h203
                           exact ww H <| gbn rfl rfl rfl rfl r_neq rfl <| fun a H => Ans.fin H rfl
                          ·refine Ans.mk rfl rfl fun a H => ?_
                           replace H := H.ch (t := 197) (b := false) rfl h203
                           exact ww H <| pF rfl rfl rfl <| fun a H => Ans.fin H rfl
                          ·exact Aw rfl rfl <| mv rfl rfl <| An rfl
                          ·exact .skip rfl rfl rfl rfl rfl rfl h210 rfl
                          ·exact .skip rfl rfl rfl rfl rfl rfl h210 rfl
                          ·exact .skip rfl rfl rfl rfl rfl rfl h210 rfl
                          ·exact .skip rfl rfl rfl rfl rfl rfl h210 rfl
                          ·exact .skip rfl rfl rfl rfl rfl rfl h210 rfl
                          ·exact .skip rfl rfl rfl rfl rfl rfl h210 rfl
                          ·exact .skip rfl rfl rfl rfl rfl rfl h210 rfl
                          ·refine Ans.mk rfl rfl fun a H => ?_
                           replace H := H.ch (t := 205) (b := true) rfl h210
                           exact ww H <| pT rfl rfl rfl <| fun a H => Ans.fin H rfl
                          ·exact Aw rfl rfl <| mv rfl rfl <| An rfl
                          ·exact .skip rfl rfl rfl rfl rfl rfl rfl rfl
                          ·exact .skip rfl rfl rfl rfl rfl rfl rfl rfl
                          ·exact .skip rfl rfl rfl rfl rfl rfl rfl rfl
                          ·exact .skipU rfl rfl rfl rfl rfl rfl
                          ·exact .skipU rfl rfl rfl rfl rfl rfl
                          ·exact .skipU rfl rfl rfl rfl rfl rfl
                          ·exact .skipU rfl rfl rfl rfl rfl rfl
                          ·exact .skipU rfl rfl rfl rfl rfl rfl
                          ·exact .skipU rfl rfl rfl rfl rfl rfl
                          ·exact .skipU rfl rfl rfl rfl rfl rfl
                          ·exact .skipU rfl rfl rfl rfl rfl rfl
                          ·exact .skipU rfl rfl rfl rfl rfl rfl
                          ·exact .skipU rfl rfl rfl rfl rfl rfl
                          ·exact .skipU rfl rfl rfl rfl rfl rfl
                          ·exact .skipU rfl rfl rfl rfl rfl rfl
                          ·exact .skip rfl rfl rfl rfl rfl rfl rfl rfl
                          ·exact Aw rfl rfl <| pT rfl rfl rfl <| An rfl
                          ·intro a H
                           replace H := H.weaken (L' := [(1, (.string k6)), (3, (.pointer (some (blk b10)))), (5, (.pointer (some (blk b13)))), (7, (.pointer (some a20))), (8, (.pointer N44)), (10, (.i S54)), (18, S103.v), (20, l130.v), (21, (.pointer (some (blk b124)))), (22, (.i p131)), (23, (.i i151)), (231, (.bool true))]) ⟨rfl, rfl, rfl, rfl, rfl, rfl, rfl, rfl, rfl, rfl, rfl, rfl, trivial⟩
                           exact h165 _ _ _ h (H.weaken ⟨rfl, rfl, rfl, rfl, rfl, rfl, rfl, rfl, rfl, rfl, rfl, rfl, trivial⟩)
                         ·replace h := h.2 h210
                          obtain ⟨a211, h212, h213, h214, l215, hc216, h⟩ := h
                          rcases Bool.eq_false_or_eq_true (decide (l215.toList ≠ k6.toList)) with h217 | h217
                          ·replace h := h.1 h217
                           refine effQ.go [(26, (.bool (decide (l188 ≠ i201)))), (27, (.bool (decide (l188 ≠ i201)))), (28, (.bool (decide (l188 ≠ i201)))), (29, l130.v), (30, (.i i151)), (31, (.pointer (some (a204.add (Int.toNat (i151) * 11))))), (32, (.pointer (some ((a204.add (Int.toNat (i151) * 11)).add 3)))), (33, (.i l208)), (34, (.bool (decide (l208 ≠ 1)))), (35, (.bool (decide (l208 ≠ 1)))), (36, (.bool (decide (l208 ≠ 1)))), (37, l130.v), (38, (.i i151)), (39, (.pointer (some (a211.add (Int.toNat (i151) * 11))))), (40, (.pointer (some ((a211.add (Int.toNat (i151) * 11)).add 4)))), (41, (.string l215)), (42, (.string k6)), (43, (.bool (decide (l215.toList ≠ k6.toList)))), (44, (.bool (decide (l215.toList ≠ k6.toList)))), (45, (.bool (decide (l215.toList ≠ k6.toList)))), (46, undef), (47, undef), (48, undef), (49, undef), (50, undef), (51, undef), (52, undef), (53, undef), (54, undef), (55, undef), (56, undef), (57, undef), (58, undef), (59, undef), (60, undef), (61, undef), (62, (.bool true))] H rfl rfl ?_
                           refine Stg.fin [19, 20, 21, 22, 23, 26, 27, 28, 29, 30, 31, 32, 33, 34, 35, 36, 37, 38, 39, 40, 41, 42, 43, 44, 45, 46, 47, 48, 49, 50, 51, 52, 53, 54, 55, 56, 57, 58, 59, 60, 61, 62] (by kernel_rfl) (.cons ?_ (.cons ?_ (.cons ?_ (.cons ?_ (.cons ?_ (.cons ?_ (.cons ?_ (.cons ?_ (.cons ?_ (.cons ?_ (.cons ?_ (.cons ?_ (.cons ?_ (.cons ?_ (.cons ?_ (.cons ?_ (.cons ?_ (.cons ?_ (.cons ?_ (.cons ?_ (.cons ?_ (.cons ?_ (.cons ?_ (.cons ?_ (.cons ?_ (.cons ?_ (.cons ?_ (.cons ?_ (.cons ?_ (.cons ?_ (.cons ?_ (.cons ?_ (.cons ?_ (.cons ?_ (.cons ?_ (.cons ?_ (.cons ?_ (.cons ?_ (.cons ?_ (.cons ?_ (.cons ?_ (.cons ?_ .nil)))))))))))))))))))))))))))))))))))))))))) ?_
                           ·refine Ans.mk rfl rfl fun a H => ?_
                            replace H := H.ch (t := 187) (b := false) rfl h183
                            exact ww H <| gmv rfl rfl rfl rfl <| fun a H => Ans.fin H rfl
                           ·refine Ans.mk rfl rfl fun a H => ?_
                            replace H := H.ch (t := 187) (b := false) rfl h183
                            exact ww H <| gmv rfl rfl rfl rfl <| fun a H => Ans.fin H rfl
                           ·refine Ans.mk rfl rfl fun a H => ?_
                            replace H := H.ch (t := 187) (b := false) rfl h183
                            exact s_idxS (s := l130) H (wantG H rfl rfl) rfl rfl slc_46 h185 h186 h187 (lt_ rfl) fun a H => Ans.fin H rfl
                           ·refine Ans.mk rfl rfl fun a H => ?_
                            replace H := H.ch (t := 187) (b := false) rfl h183
                            exact ww H <| gfd rfl rfl rfl fld_56_1 rfl <| fun a H => Ans.fin H rfl
                           ·refine Ans.mk rfl rfl fun a H => ?_
                            replace H := H.ch (t := 187) (b := false) rfl h183
                            exact ww H <| gld rfl rfl rfl one_3 hc202 rfl <| fun a H => Ans.fin H rfl
                           ·refine Ans.mk rfl rfl fun a H => ?_
                            replace H := H.ch (t := 187) (b := false) rfl h183
                            exact ww H <| gbn rfl rfl rfl rfl r_neq rfl <| fun a H => Ans.fin H rfl
                           ·refine Ans.mk rfl rfl fun a H => ?_
                            replace H := H.ch (t := 187) (b := false) rfl h183
                            exact ww H <| pF rfl rfl rfl <| fun a H => Ans.fin H rfl
                           ·exact Aw rfl rfl <| mv rfl rfl <| An rfl
                           ·refine Ans.mk rfl rfl fun a H => ?_
                            replace H := H.ch (t := 197) (b := false) rfl h203
                            exact ww H <| gmv rfl rfl rfl rfl <| fun a H => Ans.fin H rfl
                           ·refine Ans.mk rfl rfl fun a H => ?_
                            replace H := H.ch (t := 197) (b := false) rfl h203
                            exact ww H <| gmv rfl rfl rfl rfl <| fun a H => Ans.fin H rfl
                           ·refine Ans.mk rfl rfl fun a H => ?_
                            replace H := H.ch (t := 197) (b := false) rfl h203
                            exact s_idxS (s := l130) H (wantG H rfl rfl) rfl rfl slc_46 h205 h206 h207 (lt_ rfl) fun a H => Ans.fin H rfl
                           ·refine Ans.mk rfl rfl fun a H => ?_
                            replace H := H.ch (t := 197) (b := false) rfl h203
                            exact ww H <| gfd rfl rfl rfl fld_56_3 rfl <| fun a H => Ans.fin H rfl
                           ·refine Ans.mk rfl rfl fun a H => ?_
                            replace H := H.ch (t := 197) (b := false) rfl h203
                            exact ww H <| gld rfl rfl rfl one_2 hc209 rfl <| fun a H => Ans.fin H rfl
                           ·refine Ans.mk rfl rfl fun a H => ?_
                            replace H := H.ch (t := 197) (b := false) rfl h203
                            exact ww H <| gbn rfl rfl rfl rfl r_neq rfl <| fun a H => Ans.fin H rfl
                           ·refine Ans.mk rfl rfl fun a H => ?_
                            replace H := H.ch (t := 197) (b := false) rfl h203
                            exact ww H <| pF rfl rfl rfl <| fun a H => Ans.fin H rfl
                           ·exact Aw rfl rfl <| mv rfl rfl <| An rfl
                           ·refine Ans.mk rfl rfl fun a H => ?_
                            replace H := H.ch (t := 205) (b := false) rfl h210
                            exact ww H <| gmv rfl rfl rfl rfl <| fun a H => Ans.fin H rfl
                           ·refine Ans.mk rfl rfl fun a H => ?_
                            replace H := H.ch (t := 205) (b := false) rfl h210
                            exact ww H <| gmv rfl rfl rfl rfl <| fun a H => Ans.fin H rfl
                           ·refine Ans.mk rfl rfl fun a H => ?_
                            replace H := H.ch (t := 205) (b := false) rfl h210
                            exact s_idxS (s := l130) H (wantG H rfl rfl) rfl rfl slc_46 h212 h213 h214 (lt_ rfl) fun a H => Ans.fin H rfl
                           ·refine Ans.mk rfl rfl fun a H => ?_
                            replace H := H.ch (t := 205) (b := false) rfl h210
                            exact ww H <| gfd rfl rfl rfl fld_56_4 rfl <| fun a H => Ans.fin H rfl
                           ·refine Ans.mk rfl rfl fun a H => ?_
                            replace H := H.ch (t := 205) (b := false) rfl h210
                            exact ww H <| gld rfl rfl rfl one_9 hc216 rfl <| fun a H => Ans.fin H rfl
                           ·refine Ans.mk rfl rfl fun a H => ?_
                            replace H := H.ch (t := 205) (b := false) rfl h210
                            exact ww H <| gmv rfl rfl rfl rfl <| fun a H => Ans.fin H rfl
                           ·refine Ans.mk rfl rfl fun a H => ?_
                            replace H := H.ch (t := 205) (b := false) rfl h210
                            exact ww H <| gbn rfl rfl rfl rfl r_neqS rfl <| fun a H => Ans.fin H rfl
                           ·refine Ans.mk rfl rfl fun a H => ?_
                            replace H := H.ch (t := 205) (b := false) rfl h210
                            exact ww H <| pF rfl rfl rfl <| fun a H => Ans.fin H rfl
                           ·exact Aw rfl rfl <| mv rfl rfl <| An rfl
                           ·exact .skip rfl rfl rfl rfl rfl rfl h217 rfl
                           ·exact .skip rfl rfl rfl rfl rfl rfl h217 rfl
                           ·exact .skip rfl rfl rfl rfl rfl rfl h217 rfl
                           ·exact .skipU rfl rfl rfl rfl rfl rfl
                           ·exact .skipU rfl rfl rfl rfl rfl rfl
                           ·exact .skipU rfl rfl rfl rfl rfl rfl
                           ·exact .skipU rfl rfl rfl rfl rfl rfl
                           ·exact .skipU rfl rfl rfl rfl rfl rfl
                           ·exact .skipU rfl rfl rfl rfl rfl rfl
                           ·exact .skipU rfl rfl rfl rfl rfl rfl
                           ·exact .skipU rfl rfl rfl rfl rfl rfl
                           ·exact .skipU rfl rfl rfl rfl rfl rfl
                           ·exact .skipU rfl rfl rfl rfl rfl rfl
                           ·exact .skipU rfl rfl rfl rfl rfl rfl
                           ·exact .skipU rfl rfl rfl rfl rfl rfl
                           ·exact .skip rfl rfl rfl rfl rfl rfl h217 rfl
                           ·refine Ans.mk rfl rfl fun a H => ?_
                            replace H := H.ch (t := 214) (b := true) rfl h217
                            exact ww H <| pT rfl rfl rfl <| fun a H => Ans.fin H rfl
                           ·intro a H
                            replace H := H.weaken (L' := [(1, (.string k6)), (3, (.pointer (some (blk b10)))), (5, (.pointer (some (blk b13)))), (7, (.pointer (some a20))), (8, (.pointer N44)), (10, (.i S54)), (18, S103.v), (20, l130.v), (21, (.pointer (some (blk b124)))), (22, (.i p131)), (23, (.i i151)), (231, (.bool true))]) ⟨rfl, rfl, rfl, rfl, rfl, rfl, rfl, rfl, rfl, rfl, rfl, rfl, trivial⟩
                            exact h165 _ _ _ h (H.weaken ⟨rfl, rfl, rfl, rfl, rfl, rfl, rfl, rfl, rfl, rfl, rfl, rfl, trivial⟩)
                          ·replace h := h.2 h217
                           rcases Bool.eq_false_or_eq_true (decide (p131 = 1)) with h218 | h218
                           ·replace h := h.1 h218
                            obtain ⟨a219, h220, h221, h222, l223, hc224, s225, h226, a227, h228, h229, h230, l231, hc232, s233, h234, h⟩ := h
                            refine effQ.go [(26, (.bool (decide (l188 ≠ i201)))), (27, (.bool (decide (l188 ≠ i201)))), (28, (.bool (decide (l188 ≠ i201)))), (29, l130.v), (30, (.i i151)), (31, (.pointer (some (a204.add (Int.toNat (i151) * 11))))), (32, (.pointer (some ((a204.add (Int.toNat (i151) * 11)).add 3)))), (33, (.i l208)), (34, (.bool (decide (l208 ≠ 1)))), (35, (.bool (decide (l208 ≠ 1)))), (36, (.bool (decide (l208 ≠ 1)))), (37, l130.v), (38, (.i i151)), (39, (.pointer (some (a211.add (Int.toNat (i151) * 11))))), (40, (.pointer (some ((a211.add (Int.toNat (i151) * 11)).add 4)))), (41, (.string l215)), (42, (.string k6)), (43, (.bool (decide (l215.toList ≠ k6.toList)))), (44, (.bool (decide (l215.toList ≠ k6.toList)))), (45, (.bool (decide (l215.toList ≠ k6.toList)))), (46, (.i p131)), (47, (.bool (decide (p131 = 1)))), (48, (.bool (decide (p131 = 1)))), (49, l130.v), (50, (.i i151)), (51, (.pointer (some (a219.add (Int.toNat (i151) * 11))))), (52, (.pointer (some ((a219.add (Int.toNat (i151) * 11)).add 10)))), (53, l223.v), (54, (.string s225)), (55, S103.v), (56, (.i i151)), (57, (.pointer (some (a227.add (Int.toNat (i151) * 1))))), (58, l231.v), (59, (.string s233)), (60, (.bool (decide (s225.toList ≠ s233.toList)))), (61, (.bool (decide (s225.toList ≠ s233.toList)))), (62, (.bool (decide (s225.toList ≠ s233.toList))))] H rfl rfl ?_
                            refine Stg.fin [19, 20, 21, 22, 23, 26, 27, 28, 29, 30, 31, 32, 33, 34, 35, 36, 37, 38, 39, 40, 41, 42, 43, 44, 45, 46, 47, 48, 49, 50, 51, 52, 53, 54, 55, 56, 57, 58, 59, 60, 61, 62] (by kernel_rfl) (.cons ?_ (.cons ?_ (.cons ?_ (.cons ?_ (.cons ?_ (.cons ?_ (.cons ?_ (.cons ?_ (.cons ?_ (.cons ?_ (.cons ?_ (.cons ?_ (.cons ?_ (.cons ?_ (.cons ?_ (.cons ?_ (.cons ?_ (.cons ?_ (.cons ?_ (.cons ?_ (.cons ?_ (.cons ?_ (.cons ?_ (.cons ?_ (.cons ?_ (.cons ?_ (.cons ?_ (.cons ?_ (.cons ?_ (.cons ?_ (.cons ?_ (.cons ?_ (.cons ?_ (.cons ?_ (.cons ?_ (.cons ?_ (.cons ?_ (.cons ?_ (.cons ?_ (.cons ?_ (.cons ?_ (.cons ?_ .nil)))))))))))))))))))))))))))))))))))))))))) ?_
                            ·refine Ans.mk rfl rfl fun a H => ?_
                             replace H := H.ch (t := 187) (b := false) rfl h183
                             exact ww H <| gmv rfl rfl rfl rfl <| fun a H => Ans.fin H rfl
                            ·refine Ans.mk rfl rfl fun a H => ?_
                             replace H := H.ch (t := 187) (b := false) rfl h183
                             exact ww H <| gmv rfl rfl rfl rfl <| fun a H => Ans.fin H rfl
                            ·refine Ans.mk rfl rfl fun a H => ?_
                             replace H := H.ch (t := 187) (b := false) rfl h183
                             exact s_idxS (s := l130) H (wantG H rfl rfl) rfl rfl slc_46 h185 h186 h187 (lt_ rfl) fun a H => Ans.fin H rfl
                            ·refine Ans.mk rfl rfl fun a H => ?_
                             replace H := H.ch (t := 187) (b := false) rfl h183
                             exact ww H <| gfd rfl rfl rfl fld_56_1 rfl <| fun a H => Ans.fin H rfl
                            ·refine Ans.mk rfl rfl fun a H => ?_
                             replace H := H.ch (t := 187) (b := false) rfl h183
                             exact ww H <| gld rfl rfl rfl one_3 hc202 rfl <| fun a H => Ans.fin H rfl
                            ·refine Ans.mk rfl rfl fun a H => ?_
                             replace H := H.ch (t := 187) (b := false) rfl h183
                             exact ww H <| gbn rfl rfl rfl rfl r_neq rfl <| fun a H => Ans.fin H rfl
                            ·refine Ans.mk rfl rfl fun a H => ?_
                             replace H := H.ch (t := 187) (b := false) rfl h183
                             exact ww H <| pF rfl rfl rfl <| fun a H => Ans.fin H rfl
                            ·exact Aw rfl rfl <| mv rfl rfl <| An rfl
                            ·refine Ans.mk rfl rfl fun a H => ?_
                             replace H := H.ch (t := 197) (b := false) rfl h203
                             exact ww H <| gmv rfl rfl rfl rfl <| fun a H => Ans.fin H rfl
                            ·refine Ans.mk rfl rfl fun a H => ?_
                             replace H := H.ch (t := 197) (b := false) rfl h203
                             exact ww H <| gmv rfl rfl rfl rfl <| fun a H => Ans.fin H rfl
                            ·refine Ans.mk rfl rfl fun a H => ?_
                             replace H := H.ch (t := 197) (b := false) rfl h203
                             exact s_idxS (s := l130) H (wantG H rfl rfl) rfl rfl slc_46 h205 h206 h207 (lt_ rfl) fun a H => Ans.fin H rfl
                            ·refine Ans.mk rfl rfl fun a H => ?_
                             replace H := H.ch (t := 197) (b := false) rfl h203
                             exact ww H <| gfd rfl rfl rfl fld_56_3 rfl <| fun a H => Ans.fin H rfl
                            ·refine Ans.mk rfl rfl fun a H => ?_
                             replace H := H.ch (t := 197) (b := false) rfl h203
                             exact ww H <| gld rfl rfl rfl one_2 hc209 rfl <| fun a H => Ans.fin H rfl
                            ·refine Ans.mk rfl rfl fun a H => ?_
                             replace H := H.ch (t := 197) (b := false) rfl h203
                             exact ww H <| gbn rfl rfl rfl rfl r_neq rfl <| fun a H => Ans.fin H rfl
                            ·refine Ans.mk rfl rfl fun a H => ?_
                             replace H := H.ch (t := 197) (b := false) rfl h203
                             exact ww H <| pF rfl rfl rfl <| fun a H => Ans.fin H rfl
                            ·exact Aw rfl rfl <| mv rfl rfl <| An rfl
                            ·refine Ans.mk rfl rfl fun a H => ?_
                             replace H := H.ch (t := 205) (b := false) rfl h210
                             exact ww H <| gmv rfl rfl rfl rfl <| fun a H => Ans.fin H rfl
                            ·refine Ans.mk rfl rfl fun a H => ?_
                             replace H := H.ch (t := 205) (b := false) rfl h210
                             exact ww H <| gmv rfl rfl rfl rfl <| fun a H => Ans.fin H rfl
                            ·refine Ans.mk rfl rfl fun a H => ?_
                             replace H := H.ch (t := 205) (b := false) rfl h210
                             exact s_idxS (s := l130) H (wantG H rfl rfl) rfl rfl slc_46 h212 h213 h214 (lt_ rfl) fun a H => Ans.fin H rfl
                            ·refine Ans.mk rfl rfl fun a H => ?_
                             replace H := H.ch (t := 205) (b := false) rfl h210
                             exact ww H <| gfd rfl rfl rfl fld_56_4 rfl <| fun a H => Ans.fin H rfl
                            ·refine Ans.mk rfl rfl fun a H => ?_
                             replace H := H.ch (t := 205) (b := false) rfl h210
                             exact ww H <| gld rfl rfl rfl one_9 hc216 rfl <| fun a H => Ans.fin H rfl
                            ·refine Ans.mk rfl rfl fun a H => ?_
                             replace H := H.ch (t := 205) (b := false) rfl h210
                             exact ww H <| gmv rfl rfl rfl rfl <| fun a H => Ans.fin H rfl
                            ·refine Ans.mk rfl rfl fun a H => ?_
                             replace H := H.ch (t := 205) (b := false) rfl h210
                             exact ww H <| gbn rfl rfl rfl rfl r_neqS rfl <| fun a H => Ans.fin H rfl
                            ·refine Ans.mk rfl rfl fun a H => ?_
                             replace H := H.ch (t := 205) (b := false) rfl h210
                             exact ww H <| pF rfl rfl rfl <| fun a H => Ans.fin H rfl
                            ·exact Aw rfl rfl <| mv rfl rfl <| An rfl
                            ·refine Ans.mk rfl rfl fun a H => ?_
                             replace H := H.ch (t := 214) (b := false) rfl h217
                             exact ww H <| gmv rfl rfl rfl rfl <| fun a H => Ans.fin H rfl
                            ·refine Ans.mk rfl rfl fun a H => ?_
                             replace H := H.ch (t := 214) (b := false) rfl h217
                             exact ww H <| gbn rfl rfl rfl rfl r_eql rfl <| fun a H => Ans.fin H rfl
                            ·refine Ans.mk rfl rfl fun a H => ?_
                             replace H := H.ch (t := 214) (b := false) rfl h217
                             exact ww H <| gmv rfl rfl rfl rfl <| fun a H => Ans.fin H rfl
                            ·refine Ans.mk rfl rfl fun a H => ?_
                             replace H := H.ch (t := 217) (b := true) rfl h218
                             exact ww H <| gmv rfl rfl rfl rfl <| fun a H => Ans.fin H rfl
                            ·refine Ans.mk rfl rfl fun a H => ?_
                             replace H := H.ch (t := 217) (b := true) rfl h218
                             exact ww H <| gmv rfl rfl rfl rfl <| fun a H => Ans.fin H rfl
                            ·refine Ans.mk rfl rfl fun a H => ?_
                             replace H := H.ch (t := 217) (b := true) rfl h218
                             exact s_idxS (s := l130) H (wantG H rfl rfl) rfl rfl slc_46 h220 h221 h222 (lt_ rfl) fun a H => Ans.fin H rfl
                            ·refine Ans.mk rfl rfl fun a H => ?_
                             replace H := H.ch (t := 217) (b := true) rfl h218
                             exact ww H <| gfd rfl rfl rfl fld_56_8 rfl <| fun a H => Ans.fin H rfl
                            ·refine Ans.mk rfl rfl fun a H => ?_
                             replace H := H.ch (t := 217) (b := true) rfl h218
                             exact ww H <| gld rfl rfl rfl one_49 hc224 rfl <| fun a H => Ans.fin H rfl
                            ·refine Ans.mk rfl rfl fun a H => ?_
                             replace H := H.ch (t := 217) (b := true) rfl h218
                             refine s_cv H (wantG H rfl rfl) rfl h226 (lt_ rfl) ?_
                             clear H a h226
                             intro a H
                             exact Ans.fin H rfl
                            ·refine Ans.mk rfl rfl fun a H => ?_
                             replace H := H.ch (t := 217) (b := true) rfl h218
                             exact ww H <| gmv rfl rfl rfl rfl <| fun a H => Ans.fin H rfl
                            ·refine Ans.mk rfl rfl fun a H => ?_
                             replace H := H.ch (t := 217) (b := true) rfl h218
                             exact ww H <| gmv rfl rfl rfl rfl <| fun a H => Ans.fin H rfl
                            ·refine Ans.mk rfl rfl fun a H => ?_
                             replace H := H.ch (t := 217) (b := true) rfl h218
                             exact s_idxS (s := S103) H (wantG H rfl rfl) rfl rfl slc_22 h228 h229 h230 (lt_ rfl) fun a H => Ans.fin H rfl
                            ·refine Ans.mk rfl rfl fun a H => ?_
                             replace H := H.ch (t := 217) (b := true) rfl h218
                             exact ww H <| gld rfl rfl rfl one_49 hc232 rfl <| fun a H => Ans.fin H rfl
                            ·refine Ans.mk rfl rfl fun a H => ?_
                             replace H := H.ch (t := 217) (b := true) rfl h218
                             refine s_cv H (wantG H rfl rfl) rfl h234 (lt_ rfl) ?_
                             clear H a h234
                             intro a H
                             exact Ans.fin H rfl
                            ·refine Ans.mk rfl rfl fun a H => ?_
                             replace H := H.ch (t := 217) (b := true) rfl h218
                             exact ww H <| gbn rfl rfl rfl rfl r_neqS rfl <| fun a H => Ans.fin H rfl
                            ·refine Ans.mk rfl rfl fun a H => ?_
                             replace H := H.ch (t := 214) (b := false) rfl h217
                             replace H := H.ch (t := 217) (b := true) rfl h218
                             exact s_pickT H (wantG H rfl rfl) rfl rfl (lt_ rfl) fun a H => Ans.fin H rfl
                            ·refine Ans.mk rfl rfl fun a H => ?_
                             replace H := H.ch (t := 214) (b := false) rfl h217
                             exact ww H <| pF rfl rfl rfl <| fun a H => Ans.fin H rfl
                            ·intro a H
                             replace H := H.weaken (L' := [(1, (.string k6)), (3, (.pointer (some (blk b10)))), (5, (.pointer (some (blk b13)))), (7, (.pointer (some a20))), (8, (.pointer N44)), (10, (.i S54)), (18, S103.v), (20, l130.v), (21, (.pointer (some (blk b124)))), (22, (.i p131)), (23, (.i i151)), (231, (.bool (decide (s225.toList ≠ s233.toList))))]) ⟨rfl, rfl, rfl, rfl, rfl, rfl, rfl, rfl, rfl, rfl, rfl, rfl, trivial⟩
                             exact h165 _ _ _ h (H.weaken ⟨rfl, rfl, rfl, rfl, rfl, rfl, rfl, rfl, rfl, rfl, rfl, rfl, trivial⟩)
                           ·replace h := h.2 h218
                            refine effQ.go [(26, (.bool (decide (l188 ≠ i201)))), (27, (.bool (decide (l188 ≠ i201)))), (28, (.bool (decide (l188 ≠ i201)))), (29, l130.v), (30, (.i i151)), (31, (.pointer (some (a204.add (Int.toNat (i151) * 11))))), (32, (.pointer (some ((a204.add (Int.toNat (i151) * 11)).add 3)))), (33, (.i l208)), (34, (.bool (decide (l208 ≠ 1)))), (35, (.bool (decide (l208 ≠ 1)))), (36, (.bool (decide (l208 ≠ 1)))), (37, l130.v), (38, (.i i151)), (39, (.pointer (some (a211.add (Int.toNat (i151) * 11))))), (40, (.pointer (some ((a211.add (Int.toNat (i151) * 11)).add 4)))), (41, (.string l215)), (42, (.string k6)), (43, (.bool (decide (l215.toList ≠ k6.toList)))), (44, (.bool (decide (l215.toList ≠ k6.toList)))), (45, (.bool (decide (l215.toList ≠ k6.toList)))), (46, (.i p131)), (47, (.bool (decide (p131 = 1)))), (48, (.bool (decide (p131 = 1)))), (49, undef), (50, undef), (51, undef), (52, undef), (53, undef), (54, undef), (55, undef), (56, undef), (57, undef), (58, undef), (59, undef), (60, undef), (61, (.bool false)), (62, (.bool false))] H rfl rfl ?_
                            refine Stg.fin [19, 20, 21, 22, 23, 26, 27, 28, 29, 30, 31, 32, 33, 34, 35, 36, 37, 38, 39, 40, 41, 42, 43, 44, 45, 46, 47, 48, 49, 50, 51, 52, 53, 54, 55, 56, 57, 58, 59, 60, 61, 62] (by kernel_rfl) (.cons ?_ (.cons ?_ (.cons ?_ (.cons ?_ (.cons ?_ (.cons ?_ (.cons ?_ (.cons ?_ (.cons ?_ (.cons ?_ (.cons ?_ (.cons ?_ (.cons ?_ (.cons ?_ (.cons ?_ (.cons ?_ (.cons ?_ (.cons ?_ (.cons ?_ (.cons ?_ (.cons ?_ (.cons ?_ (.cons ?_ (.cons ?_ (.cons ?_ (.cons ?_ (.cons ?_ (.cons ?_ (.cons ?_ (.cons ?_ (.cons ?_ (.cons ?_ (.cons ?_ (.cons ?_ (.cons ?_ (.cons ?_ (.cons ?_ (.cons ?_ (.cons ?_ (.cons ?_ (.cons ?_ (.cons ?_ .nil)))))))))))))))))))))))))))))))))))))))))) ?_
                            ·refine Ans.mk rfl rfl fun a H => ?_
                             replace H := H.ch (t := 187) (b := false) rfl h183
                             exact ww H <| gmv rfl rfl rfl rfl <| fun a H => Ans.fin H rfl
                            ·refine Ans.mk rfl rfl fun a H => ?_
                             replace H := H.ch (t := 187) (b := false) rfl h183
                             exact ww H <| gmv rfl rfl rfl rfl <| fun a H => Ans.fin H rfl
                            ·refine Ans.mk rfl rfl fun a H => ?_
                             replace H := H.ch (t := 187) (b := false) rfl h183
                             exact s_idxS (s := l130) H (wantG H rfl rfl) rfl rfl slc_46 h185 h186 h187 (lt_ rfl) fun a H => Ans.fin H rfl
                            ·refine Ans.mk rfl rfl fun a H => ?_
                             replace H := H.ch (t := 187) (b := false) rfl h183
                             exact ww H <| gfd rfl rfl rfl fld_56_1 rfl <| fun a H => Ans.fin H rfl
                            ·refine Ans.mk rfl rfl fun a H => ?_
                             replace H := H.ch (t := 187) (b := false) rfl h183
                             exact ww H <| gld rfl rfl rfl one_3 hc202 rfl <| fun a H => Ans.fin H rfl
                            ·refine Ans.mk rfl rfl fun a H => ?_
                             replace H := H.ch (t := 187) (b := false) rfl h183
                             exact ww H <| gbn rfl rfl rfl rfl r_neq rfl <| fun a H => Ans.fin H rfl
                            ·refine Ans.mk rfl rfl fun a H => ?_
                             replace H := H.ch (t := 187) (b := false) rfl h183
                             exact ww H <| pF rfl rfl rfl <| fun a H => Ans.fin H rfl
                            ·exact Aw rfl rfl <| mv rfl rfl <| An rfl
                            ·refine Ans.mk rfl rfl fun a H => ?_
                             replace H := H.ch (t := 197) (b := false) rfl h203
                             exact ww H <| gmv rfl rfl rfl rfl <| fun a H => Ans.fin H rfl
                            ·refine Ans.mk rfl rfl fun a H => ?_
                             replace H := H.ch (t := 197) (b := false) rfl h203
                             exact ww H <| gmv rfl rfl rfl rfl <| fun a H => Ans.fin H rfl
                            ·refine Ans.mk rfl rfl fun a H => ?_
                             replace H := H.ch (t := 197) (b := false) rfl h203
                             exact s_idxS (s := l130) H (wantG H rfl rfl) rfl rfl slc_46 h205 h206 h207 (lt_ rfl) fun a H => Ans.fin H rfl
                            ·refine Ans.mk rfl rfl fun a H => ?_
                             replace H := H.ch (t := 197) (b := false) rfl h203
                             exact ww H <| gfd rfl rfl rfl fld_56_3 rfl <| fun a H => Ans.fin H rfl
                            ·refine Ans.mk rfl rfl fun a H => ?_
                             replace H := H.ch (t := 197) (b := false) rfl h203
                             exact ww H <| gld rfl rfl rfl one_2 hc209 rfl <| fun a H => Ans.fin H rfl
                            ·refine Ans.mk rfl rfl fun a H => ?_
                             replace H := H.ch (t := 197) (b := false) rfl h203
                             exact ww H <| gbn rfl rfl rfl rfl r_neq rfl <| fun a H => Ans.fin H rfl
                            ·refine Ans.mk rfl rfl fun a H => ?_
                             replace H := H.ch (t := 197) (b := false) rfl h203
                             exact ww H <| pF rfl rfl rfl <| fun a H => Ans.fin H rfl
                            ·exact Aw rfl rfl <| mv rfl rfl <| An rfl
                            ·refine Ans.mk rfl rfl fun a H => ?_
                             replace H := H.ch (t := 205) (b := false) rfl h210
                             exact ww H <| gmv rfl rfl rfl rfl <| fun a H => Ans.fin H rfl
                            ·refine Ans.mk rfl rfl fun a H => ?_
                             replace H := H.ch (t := 205) (b := false) rfl h210
                             exact ww H <| gmv rfl rfl rfl rfl <| fun a H => Ans.fin H rfl
                            ·refine Ans.mk rfl rfl fun a H => ?_
                             replace H := H.ch (t := 205) (b := false) rfl h210
                             exact s_idxS (s := l130) H (wantG H rfl rfl) rfl rfl slc_46 h212 h213 h214 (lt_ rfl) fun a H => Ans.fin H rfl
                            ·refine Ans.mk rfl rfl fun a H => ?_
                             replace H := H.ch (t := 205) (b := false) rfl h210
                             exact ww H <| gfd rfl rfl rfl fld_56_4 rfl <| fun a H => Ans.fin H rfl
                            ·refine Ans.mk rfl rfl fun a H => ?_
                             replace H := H.ch (t := 205) (b := false) rfl h210
                             exact ww H <| gld rfl rfl rfl one_9 hc216 rfl <| fun a H => Ans.fin H rfl
                            ·refine Ans.mk rfl rfl fun a H => ?_
                             replace H := H.ch (t := 205) (b := false) rfl h210
                             exact ww H <| gmv rfl rfl rfl rfl <| fun a H => Ans.fin H rfl
                            ·refine Ans.mk rfl rfl fun a H => ?_
                             replace H := H.ch (t := 205) (b := false) rfl h210
                             exact ww H <| gbn rfl rfl rfl rfl r_neqS rfl <| fun a H => Ans.fin H rfl
                            ·refine Ans.mk rfl rfl fun a H => ?_
                             replace H := H.ch (t := 205) (b := false) rfl h210
                             exact ww H <| pF rfl rfl rfl <| fun a H => Ans.fin H rfl
                            ·exact Aw rfl rfl <| mv rfl rfl <| An rfl
                            ·refine Ans.mk rfl rfl fun a H => ?_
                             replace H := H.ch (t := 214) (b := false) rfl h217
                             exact ww H <| gmv rfl rfl rfl rfl <| fun a H => Ans.fin H rfl
                            ·refine Ans.mk rfl rfl fun a H => ?_
                             replace H := H.ch (t := 214) (b := false) rfl h217
                             exact ww H <| gbn rfl rfl rfl rfl r_eql rfl <| fun a H => Ans.fin H rfl
                            ·refine Ans.mk rfl rfl fun a H => ?_
                             replace H := H.ch (t := 214) (b := false) rfl h217
                             exact ww H <| gmv rfl rfl rfl rfl <| fun a H => Ans.fin H rfl
                            ·exact .skip rfl rfl rfl rfl rfl rfl h218 rfl
                            ·exact .skip rfl rfl rfl rfl rfl rfl h218 rfl
                            ·exact .skip rfl rfl rfl rfl rfl rfl h218 rfl
                            ·exact .skip rfl rfl rfl rfl rfl rfl h218 rfl
                            ·exact .skip rfl rfl rfl rfl rfl rfl h218 rfl
                            ·exact .skip rfl rfl rfl rfl rfl rfl h218 rfl
                            ·exact .skip rfl rfl rfl rfl rfl rfl h218 rfl
                            ·exact .skip rfl rfl rfl rfl rfl rfl h218 rfl
                            ·exact .skip rfl rfl rfl rfl rfl rfl h218 rfl
                            ·exact .skip rfl rfl rfl rfl rfl rfl h218 rfl
                            ·exact .skip rfl rfl rfl rfl rfl rfl h218 rfl
                            ·exact .skip rfl rfl rfl rfl rfl rfl h218 rfl
                            ·refine Ans.mk rfl rfl fun a H => ?_
                             replace H := H.ch (t := 214) (b := false) rfl h217
                             replace H := H.ch (t := 217) (b := false) rfl h218
                             exact s_pickF H (wantG H rfl rfl) rfl rfl (lt_ rfl) fun a H => Ans.fin H rfl
                            ·refine Ans.mk rfl rfl fun a H => ?_
                             replace H := H.ch (t := 214) (b := false) rfl h217
                             exact ww H <| pF rfl rfl rfl <| fun a H => Ans.fin H rfl
                            ·intro a H
                             replace H := H.weaken (L' := [(1, (.string k6)), (3, (.pointer (some (blk b10)))), (5, (.pointer (some (blk b13)))), (7, (.pointer (some a20))), (8, (.pointer N44)), (10, (.i S54)), (18, S103.v), (20, l130.v), (21, (.pointer (some (blk b124)))), (22, (.i p131)), (23, (.i i151)), (231, (.bool false))]) ⟨rfl, rfl, rfl, rfl, rfl, rfl, rfl, rfl, rfl, rfl, rfl, rfl, trivial⟩
                             exact h165 _ _ _ h (H.weaken ⟨rfl, rfl, rfl, rfl, rfl, rfl, rfl, rfl, rfl, rfl, rfl, rfl, trivial⟩)
                    ·refine c_exit ?_
                     first | (simp only [Exit.then, Exit.inBlock, ↓reduceIte]; fail_if_success simp only [Nat.reduceEqDiff]) | simp only [Exit.then, Exit.inBlock, ↓reduceIte, Nat.reduceEqDiff]
                     refine hK149 _ _ <| c_seq fun K240 hK240 => ?_
                     replace H := H.weaken (L' := [(1, (.string k6)), (3, (.pointer (some (blk b10)))), (5, (.pointer (some (blk b13)))), (7, (.pointer (some a20))), (8, (.pointer N44)), (10, (.i S54)), (18, S103.v), (20, l130.v), (21, (.pointer (some (blk b124)))), (22, (.i p131))]) ⟨rfl, rfl, rfl, rfl, rfl, rfl, rfl, rfl, rfl, rfl, trivial⟩
                     obtain ⟨l241, hc242, l243, hc244, h⟩ := h
                     refine c_any (V := [(0, (.pointer (some a20))), (1, (.pointer (some a20))), (2, (.pointer (some (a20.add 0)))), (3, (.pointer (some ((a20.add 0).add 0)))), (4, (.i l241)), (5, (.pointer (some ((blk b10).add 4)))), (6, l243.v), (7, (.i p131))]) (⟨[[], [0], [1], [2], [3], [], [5], [], [4, 6, 7], [0, 1, 2, 3, 4, 5, 6, 7, 8]], [some 232, some 233, some 234, some 235, some 236, some 237, some 238, some 239, some 240, some 24], [8], [0, 0, 0, 0, 0, 0, 0, 0, 0, 1], [0, 0, 0, 0, 0, 0, 0, 0, 1, 1]⟩ : Rg) [(1, (.string k6)), (3, (.pointer (some (blk b10)))), (5, (.pointer (some (blk b13)))), (7, (.pointer (some a20))), (8, (.pointer N44)), (10, (.i S54)), (18, S103.v), (20, l130.v), (21, (.pointer (some (blk b124)))), (22, (.i p131))] mixed (by kernel_rfl) H <| Stg.eff [0, 1, 2, 3, 4, 5, 6, 7] (by kernel_rfl) rfl (.cons ?_ (.cons ?_ (.cons ?_ (.cons ?_ (.cons ?_ (.cons ?_ (.cons ?_ (.cons ?_ .nil)))))))) ?_
                     ·exact Aw rfl rfl <| mv rfl rfl <| An rfl
                     ·exact Aw rfl rfl <| nl rfl rfl <| An rfl
                     ·exact Aw rfl rfl <| fd rfl fld_38_0 rfl <| An rfl
                     ·exact Aw rfl rfl <| fd rfl fld_35_0 rfl <| An rfl
                     ·exact Aw rfl rfl <| ld rfl one_3 hc242 rfl <| An rfl
                     ·exact Aw rfl rfl <| fd rfl fld_25_4 rfl <| An rfl
                     ·exact Aw rfl rfl <| ld rfl one_23 hc244 rfl <| An rfl
                     ·exact Aw rfl rfl <| mv rfl rfl <| An rfl
                     ·refine cl1 h body_17 rfl rfl eP fun m246 w245 h => fun a H => c_nil <| effQ.go [(9, m246.v)] H rfl rfl <| Stg.fin [9] (by kernel_rfl) (.cons ?_ .nil) ?_
                      ·exact Aw rfl rfl <| ag rfl rfl <| An rfl
                      ·intro a H
                       replace H := H.weaken (L' := [(1, (.string k6)), (3, (.pointer (some (blk b10)))), (5, (.pointer (some (blk b13)))), (7, (.pointer (some a20))), (8, (.pointer N44)), (10, (.i S54)), (18, S103.v), (20, l130.v), (21, (.pointer (some (blk b124)))), (22, (.i p131)), (24, m246.v)]) ⟨rfl, rfl, rfl, rfl, rfl, rfl, rfl, rfl, rfl, rfl, rfl, trivial⟩
                       refine hK240 _ _ <| sr fun K247 hK247 => ww H <| ag rfl rfl <| fun a H => nk hK247 <| c_block ?_
                       obtain ⟨I251, m252, h430, h431⟩ := h
                       refine c_loop (σ := Slc × Int) (fun z w => I251 z.1 z.2 w) (fun z w => m252 z.1 z.2 w) (fun z => [(1, (.string k6)), (3, (.pointer (some (blk b10)))), (5, (.pointer (some (blk b13)))), (7, (.pointer (some a20))), (8, (.pointer N44)), (10, (.i S54)), (18, S103.v), (20, z.1.v), (21, (.pointer (some (blk b124)))), (22, (.i p131)), (24, m246.v), (25, (.i z.2))]) (l130, 0) h430 (H.weaken ⟨rfl, rfl, rfl, rfl, rfl, rfl, rfl, rfl, rfl, rfl, rfl, rfl, trivial⟩) ?_
                       clear H h430
                       rintro ⟨l248, i249⟩ a w250 h H
                       replace h := h431 l248 i249 w250 h
                       clear h431
                       replace H : Has 340 [] a [(1, (.string k6)), (3, (.pointer (some (blk b10)))), (5, (.pointer (some (blk b13)))), (7, (.pointer (some a20))), (8, (.pointer N44)), (10, (.i S54)), (18, S103.v), (20, l248.v), (21, (.pointer (some (blk b124)))), (22, (.i p131)), (24, m246.v), (25, (.i i249))] := H
                       refine c_seq fun K253 hK253 => sr fun K254 hK254 => ww H <| mv rfl rfl <| mv rfl rfl <| bn rfl rfl r_lss rfl <| fun a H => nk hK254 <| cd H rfl h (fun h255 h => ?_) (fun h255 h => ?_)
                       ·refine c_skip <| hK253 _ _ <| c_seq fun K256 hK256 => c_block <| c_seq fun K257 hK257 => c_seq fun K258 hK258 => ?_
                        replace H := H.weaken (L' := [(1, (.string k6)), (3, (.pointer (some (blk b10)))), (5, (.pointer (some (blk b13)))), (7, (.pointer (some a20))), (8, (.pointer N44)), (10, (.i S54)), (18, S103.v), (20, l248.v), (21, (.pointer (some (blk b124)))), (22, (.i p131)), (24, m246.v), (25, (.i i249))]) ⟨rfl, rfl, rfl, rfl, rfl, rfl, rfl, rfl, rfl, rfl, rfl, rfl, trivial⟩
                        obtain ⟨l259, hc260, h⟩ := h
                        refine c_any (V := [(0, (.pointer N44)), (3, (.pointer (some a20))), (4, (.pointer (some a20))), (5, (.pointer (some (a20.add 0)))), (6, (.pointer (some ((a20.add 0).add 0)))), (7, (.i l259)), (8, (.i i249)), (9, (.i (wr .i64 (l259 - i249))))]) (⟨[[], [0], [1], [], [3], [4], [5], [6], [], [7, 8], [2, 9]], [some 246, some 247, some 248, some 249, some 250, some 251, some 252, some 253, some 254, some 255, some 256], [1], [0, 0, 1, 0, 0, 0, 0, 0, 0, 0, 1], [0, 1, 1, 1, 1, 1, 1, 1, 1, 1, 1]⟩ : Rg) [(1, (.string k6)), (3, (.pointer (some (blk b10)))), (5, (.pointer (some (blk b13)))), (7, (.pointer (some a20))), (8, (.pointer N44)), (10, (.i S54)), (18, S103.v), (20, l248.v), (21, (.pointer (some (blk b124)))), (22, (.i p131)), (24, m246.v), (25, (.i i249))] mixed (by kernel_rfl) H <| Stg.eff [0, 3, 4, 5, 6, 7, 8, 9] (by kernel_rfl) rfl (.cons ?_ (.cons ?_ (.cons ?_ (.cons ?_ (.cons ?_ (.cons ?_ (.cons ?_ (.cons ?_ .nil)))))))) ?_
                        ·exact Aw rfl rfl <| mv rfl rfl <| An rfl
                        ·exact Aw rfl rfl <| mv rfl rfl <| An rfl
                        ·exact Aw rfl rfl <| nl rfl rfl <| An rfl
                        ·exact Aw rfl rfl <| fd rfl fld_38_0 rfl <| An rfl
                        ·exact Aw rfl rfl <| fd rfl fld_35_0 rfl <| An rfl
                        ·exact Aw rfl rfl <| ld rfl one_3 hc260 rfl <| An rfl
                        ·exact Aw rfl rfl <| mv rfl rfl <| An rfl
                        ·exact Aw rfl rfl <| bn rfl rfl r_sub rfl <| An rfl
                        ·refine cl1 h body_18 rfl rfl eP fun T262 w261 h => fun a H => ?_
                         obtain ⟨hc263, h⟩ := h
                         refine c_nil <| effQ.go [(2, (.i (T262.l : Int))), (10, (.bool (decide ((T262.l : Int) ≠ (wr .i64 (l259 - i249))))))] H rfl rfl <| Stg.fin [2, 3, 4, 5, 6, 7, 8, 9, 10] (by kernel_rfl) (.cons ?_ (.cons ?_ (.cons ?_ (.cons ?_ (.cons ?_ (.cons ?_ (.cons ?_ (.cons ?_ (.cons ?_ .nil))))))))) ?_
                         ·exact Aw rfl rfl <| bl (vs := [T262.v]) rfl rfl (fun cs => b_lenS (z := T262) sl_46) <| An rfl
                         ·exact Aw rfl rfl <| mv rfl rfl <| An rfl
                         ·exact Aw rfl rfl <| nl rfl rfl <| An rfl
                         ·exact Aw rfl rfl <| fd rfl fld_38_0 rfl <| An rfl
                         ·exact Aw rfl rfl <| fd rfl fld_35_0 rfl <| An rfl
                         ·exact Aw rfl rfl <| ld rfl one_3 hc263 rfl <| An rfl
                         ·exact Aw rfl rfl <| mv rfl rfl <| An rfl
                         ·exact Aw rfl rfl <| bn rfl rfl r_sub rfl <| An rfl
                         ·exact Aw rfl rfl <| bn rfl rfl r_neq rfl <| An rfl
                         ·intro a H
                          replace H := H.weaken (L' := [(1, (.string k6)), (3, (.pointer (some (blk b10)))), (5, (.pointer (some (blk b13)))), (7, (.pointer (some a20))), (8, (.pointer N44)), (10, (.i S54)), (18, S103.v), (20, l248.v), (21, (.pointer (some (blk b124)))), (22, (.i p131)), (24, m246.v), (25, (.i i249)), (256, (.bool (decide ((T262.l : Int) ≠ (wr .i64 (l259 - i249))))))]) ⟨rfl, rfl, rfl, rfl, rfl, rfl, rfl, rfl, rfl, rfl, rfl, rfl, rfl, trivial⟩
                          refine hK258 _ _ <| cd H rfl h (fun h264 h => ?_) (fun h264 h => ?_)
                          ·exact sr fun K265 hK265 => ww H <| ag rfl rfl <| fun a H => nk hK265 <| c_ret <| e_ret1 H rfl rfl h
                          ·obtain ⟨a267, h268, h269, h270, h⟩ := h
                           refine c_skip <| hK257 _ _ <| sr fun K266 hK266 => ww H <| mv rfl rfl <| mv rfl rfl <| mv rfl rfl <| fun a H => s_idxS (s := m246) H rfl rfl rfl slc_23 h268 h269 h270 (lt_ rfl) fun a H => ?_
                           obtain ⟨l271, hc272, a273, h274, h275, h276, h⟩ := h
                           refine ww H <| ld rfl one_3 hc272 rfl <| fun a H => s_idxS (s := l248) H rfl rfl rfl slc_46 h274 h275 h276 (lt_ rfl) fun a H => ?_
                           obtain ⟨K277, hc278, C279, hc280, S281, hc282, O283, hc284, K285, hc286, C287, hc288, C289, hc290, C291, hc292, C293, hc294, H295, hc296, D297, hc298, h⟩ := h
                           refine ww H <| lN (l := [(.i K277), (.i C279), (.i S281), (.i O283), (.string K285), (.i C287), (.i C289), (.i C291), (.i C293), (.bool H295), D297.v]) rfl agg_56 rfl ⟨hc278, hc280, hc282, hc284, hc286, hc288, hc290, hc292, hc294, hc296, hc298, trivial⟩ rfl <| al h zero_56 rfl rfl rfl fun b299 w300 n301 h => sN h rfl rfl agg_56 rfl rfl fun w302 h => fun a H => nk hK266 <| c_seq fun K303 hK303 => ?_
                           replace H := H.weaken (L' := [(1, (.string k6)), (3, (.pointer (some (blk b10)))), (5, (.pointer (some (blk b13)))), (7, (.pointer (some a20))), (8, (.pointer N44)), (10, (.i S54)), (18, S103.v), (20, l248.v), (21, (.pointer (some (blk b124)))), (22, (.i p131)), (24, m246.v), (25, (.i i249)), (26, (.pointer (some (blk b299))))]) ⟨rfl, rfl, rfl, rfl, rfl, rfl, rfl, rfl, rfl, rfl, rfl, rfl, rfl, trivial⟩
                           obtain ⟨l306, l309, l312, l315, l318, C321, C323, C326, C328, h⟩ := h
                           obtain ⟨R304, h424, h308, h311, h314, h317, h320, h325, h330, h418, h419, h420, h421, h422⟩ := h
                           refine c_anyF (V := [(0, (.pointer N44)), (1, (.pointer (some ((blk b299).add 0)))), (2, (.i l306)), (3, (.i (wr .i64 (l306 + 1)))), (4, (.pointer (some ((blk b299).add 1)))), (5, (.i l309)), (6, (.pointer (some ((blk b299).add 2)))), (7, (.i l312)), (8, (.pointer (some ((blk b299).add 3)))), (9, (.i l315)), (10, (.pointer (some ((blk b299).add 4)))), (11, (.string l318)), (12, (.pointer (some ((blk b299).add 5)))), (13, (.agg #[(.i C321), (.i C323)])), (14, (.i p131)), (15, (.bool (decide (p131 = 0)))), (16, (.agg #[(.i C326), (.i C328)]))]) 4 (⟨⟨[[], [], [1], [2], [], [4], [], [6], [], [8], [], [10], [], [12], [], [14], [], [15, 16], [3, 5, 7, 9, 11, 13, 17], [0, 17, 18], [19], [20], [20], [20], [], [0, 1, 2, 3, 4, 5, 6, 7, 8, 9, 10, 11, 12, 13, 14, 15, 16, 17, 18, 19, 20, 21, 24], [0, 1, 2, 3, 4, 5, 6, 7, 8, 9, 10, 11, 12, 13, 14, 15, 16, 17, 18, 19, 20, 21, 22, 24, 25], [0, 1, 2, 3, 4, 5, 6, 7, 8, 9, 10, 11, 12, 13, 14, 15, 16, 17, 18, 19, 20, 21, 22, 23, 24, 25, 26]], [some 265, some 266, some 267, some 268, some 269, some 270, some 271, some 272, some 273, some 274, some 275, some 276, some 277, some 278, some 279, some 280, some 281, some 282, some 283, some 284, some 264, some 285, some 286, some 287, some 28, some 27, none, some 29], [17, 19, 24, 26], [], []⟩, [[], [], [], [], [], [], [], [], [], [], [], [], [], [], [], [], [], [], [17], [17], [17, 19], [17, 19], [17, 19], [17, 19], [], [17, 19, 24], [17, 19, 24], [17, 19, 24, 26]], [[19, 26], [19, 26], [19, 26], [19, 26], [19, 26], [19, 26], [19, 26], [19, 26], [19, 26], [19, 26], [19, 26], [19, 26], [19, 26], [19, 26], [17, 19, 26], [17, 19, 26], [17, 19, 26], [19, 26], [19, 26], [26], [26], [26], [26], [], [26], [26], [], []]⟩ : Rh) [(1, (.string k6)), (3, (.pointer (some (blk b10)))), (5, (.pointer (some (blk b13)))), (7, (.pointer (some a20))), (8, (.pointer N44)), (10, (.i S54)), (18, S103.v), (20, l248.v), (21, (.pointer (some (blk b124)))), (22, (.i p131)), (24, m246.v), (25, (.i i249)), (26, (.pointer (some (blk b299))))] mixed (by kernel_rfl) H fun F425 h423 => ?_
                           clear H a
                           have st_17_19_24_26 : ∀ (C332 : Int) (C333 : Int) (H339 : Slc) (O340 : Int) (P341 : Bool) (S342 : Int) (C343 : Int) (C344 : Int) (V345 : Slc) (H346 : Bool) (b351 : Nat) (w305 : World), R304 (some (C332, C333)) (some (H339, O340, P341, S342, C343, C344, V345, H346)) (some b351) (some ()) w305 → F425 0 [17, 19, 24, 26] [(0, (.pointer N44)), (1, (.pointer (some ((blk b299).add 0)))), (2, (.i l306)), (3, (.i (wr .i64 (l306 + 1)))), (4, (.pointer (some ((blk b299).add 1)))), (5, (.i l309)), (6, (.pointer (some ((blk b299).add 2)))), (7, (.i l312)), (8, (.pointer (some ((blk b299).add 3)))), (9, (.i l315)), (10, (.pointer (some ((blk b299).add 4)))), (11, (.string l318)), (12, (.pointer (some ((blk b299).add 5)))), (13, (.agg #[(.i C321), (.i C323)])), (14, (.i p131)), (15, (.bool (decide (p131 = 0)))), (16, (.agg #[(.i C326), (.i C328)])), (17, (.agg #[(.i C332), (.i C333)])), (18, (.agg #[(.i (wr .i64 (l306 + 1))), (.i l309), (.i l312), (.i l315), (.string l318), (.i C321), (.i C323), (.i C332), (.i C333), (.bool false), Slc.nil.v])), (19, (.tuple #[H339.v, (.agg #[(.i O340), (.bool P341), (.i S342), (.i C343), (.i C344), V345.v]), (.bool H346)])), (20, (.tuple #[H339.v, (.agg #[(.i O340), (.bool P341), (.i S342), (.i C343), (.i C344), V345.v]), (.bool H346)])), (21, H339.v), (22, (.agg #[(.i O340), (.bool P341), (.i S342), (.i C343), (.i C344), V345.v])), (23, (.bool H346)), (24, (.pointer (some (blk b351)))), (25, H339.v), (26, undef), (27, (.bool H346))] w305 := by
                            intro C332 C333 H339 O340 P341 S342 C343 C344 V345 H346 b351 w305 hr
                            rw [h423]
                            refine StT.last [23, 27] (by kernel_rfl) (by kernel_rfl) (.cons ?_ (.cons ?_ .nil)) ?_
                            ·refine Ans.mk rfl rfl fun a H => ?_
                             replace H := H.weaken (L' := [(264, (.tuple #[H339.v, (.agg #[(.i O340), (.bool P341), (.i S342), (.i C343), (.i C344), V345.v]), (.bool H346)]))]) ⟨rfl, trivial⟩
                             refine ww H <| ex rfl rfl rfl <| fun a H => c_nil ⟨rfl, rfl, H.weaken (L' := [(287, (.bool H346))]) ⟨rfl, trivial⟩⟩
                            ·refine Ans.mk rfl rfl fun a H => ?_
                             replace H := H.weaken (L' := [(287, (.bool H346))]) ⟨rfl, trivial⟩
                             refine ww H <| ag rfl rfl <| fun a H => c_nil ⟨rfl, rfl, H.weaken (L' := [(29, (.bool H346))]) ⟨rfl, trivial⟩⟩
                            ·intro a H
                             have h := h422 C332 C333 H339 O340 P341 S342 C343 C344 V345 H346 b351 w305 hr
                             replace H := H.weaken (L' := [(1, (.string k6)), (3, (.pointer (some (blk b10)))), (5, (.pointer (some (blk b13)))), (7, (.pointer (some a20))), (8, (.pointer N44)), (10, (.i S54)), (18, S103.v), (20, l248.v), (21, (.pointer (some (blk b124)))), (22, (.i p131)), (24, m246.v), (25, (.i i249)), (26, (.pointer (some (blk b299)))), (27, H339.v), (28, (.pointer (some (blk b351)))), (29, (.bool H346))]) ⟨rfl, rfl, rfl, rfl, rfl, rfl, rfl, rfl, rfl, rfl, rfl, rfl, rfl, rfl, rfl, rfl, trivial⟩
                             refine hK303 _ _ <| c_seq fun K359 hK359 => sr fun K360 hK360 => ww H <| mv rfl rfl <| mv rfl rfl <| bn rfl rfl r_eql rfl <| mv rfl rfl <| fun a H => g_join (n := 340) [(296, (.bool ((decide (p131 = 2)) && (decide (i249 = (wr .i64 (S54 - 1))))))), (1, (.string k6)), (3, (.pointer (some (blk b10)))), (5, (.pointer (some (blk b13)))), (7, (.pointer (some a20))), (8, (.pointer N44)), (10, (.i S54)), (18, S103.v), (20, l248.v), (21, (.pointer (some (blk b124)))), (22, (.i p131)), (24, m246.v), (25, (.i i249)), (26, (.pointer (some (blk b299)))), (27, H339.v), (28, (.pointer (some (blk b351)))), (29, (.bool H346)), (288, (.bool H346))] (.succ (.succ (.succ (.succ (.succ (.zero _)))))) ?_ ?_
                             ·intro h362
                              try clear h
                              rcases Bool.eq_false_or_eq_true (decide (p131 = 2)) with h361 | h361
                              ·replace H := H.ch (t := 291) (b := true) rfl h361
                               exact ww H <| gmv rfl rfl rfl rfl <| gmv rfl rfl rfl rfl <| gbn rfl rfl rfl rfl r_sub rfl <| gbn rfl rfl rfl rfl r_eql rfl <| pT rfl rfl rfl <| fun a H => h362 _ (H.weaken ⟨by rw [h361]; rfl, rfl, rfl, rfl, rfl, rfl, rfl, rfl, rfl, rfl, rfl, rfl, rfl, rfl, rfl, rfl, rfl, rfl, trivial⟩)
                              ·replace H := H.ch (t := 291) (b := false) rfl h361
                               exact ww H <| sk rfl rfl rfl rfl <| sk rfl rfl rfl rfl <| sk rfl rfl rfl rfl <| sk rfl rfl rfl rfl <| pF rfl rfl rfl <| fun a H => h362 _ (H.weaken ⟨by rw [h361]; rfl, rfl, rfl, rfl, rfl, rfl, rfl, rfl, rfl, rfl, rfl, rfl, rfl, rfl, rfl, rfl, rfl, rfl, trivial⟩)
                             ·clear H a
                              intro a H
                              refine ww H <| bn rfl rfl (r_neB bool_4) rfl <| mv rfl rfl <| fun a H => g_join (n := 340) [(311, (.bool ((decide (H346 ≠ ((decide (p131 = 2)) && (decide (i249 = (wr .i64 (S54 - 1))))))) || (decide ((decide (0 < (H339.l : Int))) ≠ ((decide (p131 < 2)) && (decide (i249 = (wr .i64 (S54 - 1)))))))))), (1, (.string k6)), (3, (.pointer (some (blk b10)))), (5, (.pointer (some (blk b13)))), (7, (.pointer (some a20))), (8, (.pointer N44)), (10, (.i S54)), (18, S103.v), (20, l248.v), (21, (.pointer (some (blk b124)))), (22, (.i p131)), (24, m246.v), (25, (.i i249)), (26, (.pointer (some (blk b299)))), (27, H339.v), (28, (.pointer (some (blk b351)))), (29, (.bool H346))] (.succ (.succ (.succ (.succ (.succ (.succ (.succ (.succ (.succ (.succ (.succ (.succ (.succ (.zero _)))))))))))))) ?_ ?_
                              ·intro h364
                               try clear h
                               rcases Bool.eq_false_or_eq_true (decide (H346 ≠ ((decide (p131 = 2)) && (decide (i249 = (wr .i64 (S54 - 1))))))) with h363 | h363
                               ·replace H := H.ch (t := 298) (b := true) rfl h363
                                refine ww H <| sk rfl rfl rfl rfl <| sk rfl rfl rfl rfl <| sk rfl rfl rfl rfl <| sk rfl rfl rfl rfl <| sk rfl rfl rfl rfl <| sk rfl rfl rfl rfl <| fun a H => ?_
                                iterate 4 refine s_skip H (wantU H rfl rfl) rfl (lt_ rfl) fun a H => ?_
                                exact ww H <| sk rfl rfl rfl rfl <| sk rfl rfl rfl rfl <| pT rfl rfl rfl <| fun a H => h364 _ (H.weaken ⟨by rw [h363]; rfl, rfl, rfl, rfl, rfl, rfl, rfl, rfl, rfl, rfl, rfl, rfl, rfl, rfl, rfl, rfl, rfl, trivial⟩)
                               ·replace H := H.ch (t := 298) (b := false) rfl h363
                                refine ww H <| gmv rfl rfl rfl rfl <| fun a H => s_blt H (wantG H rfl rfl) (H.args (vs := [H339.v]) rfl) (lt_ rfl) (fun cs => b_lenS (z := H339) sl_46) fun a H => ww H <| gbn rfl rfl rfl rfl r_gtr rfl <| gmv rfl rfl rfl rfl <| gbn rfl rfl rfl rfl r_lss rfl <| gmv rfl rfl rfl rfl <| fun a H => g_join (n := 340) [(309, (.bool ((decide (p131 < 2)) && (decide (i249 = (wr .i64 (S54 - 1))))))), (1, (.string k6)), (3, (.pointer (some (blk b10)))), (5, (.pointer (some (blk b13)))), (7, (.pointer (some a20))), (8, (.pointer N44)), (10, (.i S54)), (18, S103.v), (20, l248.v), (21, (.pointer (some (blk b124)))), (22, (.i p131)), (24, m246.v), (25, (.i i249)), (26, (.pointer (some (blk b299)))), (27, H339.v), (28, (.pointer (some (blk b351)))), (29, (.bool H346)), (298, (.bool false)), (301, (.bool (decide (0 < (H339.l : Int)))))] (.succ (.succ (.succ (.succ (.succ (.zero _)))))) ?_ ?_
                                ·intro h366
                                 try clear h
                                 rcases Bool.eq_false_or_eq_true (decide (p131 < 2)) with h365 | h365
                                 ·replace H := H.ch (t := 304) (b := true) rfl h365
                                  exact ww H <| gmv rfl rfl rfl rfl <| gmv rfl rfl rfl rfl <| gbn rfl rfl rfl rfl r_sub rfl <| gbn rfl rfl rfl rfl r_eql rfl <| fun a H => s_pickT H (wantG H rfl rfl) rfl rfl (lt_ rfl) fun a H => h366 _ (H.weaken ⟨by rw [h365]; rfl, rfl, rfl, rfl, rfl, rfl, rfl, rfl, rfl, rfl, rfl, rfl, rfl, rfl, rfl, rfl, rfl, rfl, rfl, trivial⟩)
                                 ·replace H := H.ch (t := 304) (b := false) rfl h365
                                  exact ww H <| sk rfl rfl rfl rfl <| sk rfl rfl rfl rfl <| sk rfl rfl rfl rfl <| sk rfl rfl rfl rfl <| fun a H => s_pickF H (wantG H rfl rfl) rfl rfl (lt_ rfl) fun a H => h366 _ (H.weaken ⟨by rw [h365]; rfl, rfl, rfl, rfl, rfl, rfl, rfl, rfl, rfl, rfl, rfl, rfl, rfl, rfl, rfl, rfl, rfl, rfl, rfl, trivial⟩)
                                ·clear H a
                                 intro a H
                                 exact ww H <| gbn rfl rfl rfl rfl (r_neB bool_4) rfl <| pF rfl rfl rfl <| fun a H => h364 _ (H.weaken ⟨by rw [h363]; rfl, rfl, rfl, rfl, rfl, rfl, rfl, rfl, rfl, rfl, rfl, rfl, rfl, rfl, rfl, rfl, rfl, trivial⟩)
                              ·clear H a
                               intro a H
                               refine nk hK360 <| cd H rfl h (fun h367 h => ?_) (fun h367 h => ?_)
                               ·exact sr fun K368 hK368 => ww H <| ag rfl rfl <| fun a H => nk hK368 <| c_ret <| e_ret1 H rfl rfl h
                               ·refine c_skip <| hK359 _ _ <| c_seq fun K369 hK369 => sr fun K370 hK370 => ww H <| mv rfl rfl <| fun a H => nk hK370 <| cd H rfl h (fun h371 h => ?_) (fun h371 h => ?_)
                                ·obtain ⟨l373, hc374, x379, h380, h381, h⟩ := h
                                 refine sr fun K372 hK372 => ww H <| fd rfl fld_60_2 rfl <| ld rfl one_31 hc374 rfl <| bn rfl rfl r_eql rfl <| mv rfl rfl <| fun a H => g_join (n := 340) [(320, (.bool x379)), (5, (.pointer (some (blk b13)))), (26, (.pointer (some (blk b299)))), (28, (.pointer (some (blk b351))))] (.succ (.succ (.succ (.succ (.zero _))))) ?_ ?_
                                 ·intro h376
                                  try clear h
                                  rcases Bool.eq_false_or_eq_true (decide (l373 = 0)) with h375 | h375
                                  ·replace H := H.ch (t := 316) (b := true) rfl h375
                                   replace h := h380 h375
                                   obtain ⟨l377, hc378, h⟩ := h
                                   refine ww H <| gfd rfl rfl rfl fld_60_0 rfl <| gld rfl rfl rfl one_2 hc378 rfl <| gbn rfl rfl rfl rfl r_eql rfl <| pT rfl rfl rfl <| fun a H => ?_
                                   subst h
                                   exact h376 _ (H.weaken ⟨rfl, rfl, rfl, rfl, trivial⟩)
                                  ·replace H := H.ch (t := 316) (b := false) rfl h375
                                   refine ww H <| sk rfl rfl rfl rfl <| sk rfl rfl rfl rfl <| sk rfl rfl rfl rfl <| pF rfl rfl rfl <| fun a H => ?_
                                   replace h := h381 h375
                                   subst h
                                   exact h376 _ (H.weaken ⟨rfl, rfl, rfl, rfl, trivial⟩)
                                 ·clear H a
                                  clear h380 h381
                                  intro a H
                                  refine ww H <| mv rfl rfl <| fun a H => ?_
                                  obtain ⟨R384, h, h414⟩ := h
                                  refine g_joinW (n := 340) R384 (fun x385 => [(327, (.bool x385)), (26, (.pointer (some (blk b299)))), (28, (.pointer (some (blk b351))))]) (.succ (.succ (.succ (.succ (.succ (.succ (.zero _))))))) ?_ ?_
                                  ·intro h383
                                   clear h414
                                   rcases Bool.eq_false_or_eq_true x379 with h382 | h382
                                   ·replace H := H.ch (t := 321) (b := true) rfl h382
                                    replace h := h.1 h382
                                    obtain ⟨C387, hc388, C389, hc390, C391, hc392, C393, hc394, h⟩ := h
                                    refine ww H <| gfd rfl rfl rfl fld_60_3 rfl <| glN (l := [(.i C387), (.i C389)]) rfl rfl rfl agg_27 rfl ⟨hc388, hc390, trivial⟩ rfl <| glN (l := [(.i C391), (.i C393)]) rfl rfl rfl agg_27 rfl ⟨hc392, hc394, trivial⟩ rfl <| fun a H => s_call H (wantG H rfl rfl) body_21 (H.args (vs := [(.agg #[(.i C387), (.i C389)]), (.agg #[(.i C391), (.i C393)])]) rfl) (lt_ rfl) h ?_ (fun c w' => eP c w' _)
                                    clear H h a
                                    rintro _ w395 a ⟨C396, rfl, h⟩ H
                                    exact ww H <| gbn rfl rfl rfl rfl r_eql rfl <| pT rfl rfl rfl <| fun a H => h383 _ _ _ h (H.weaken ⟨rfl, rfl, rfl, trivial⟩)
                                   ·replace H := H.ch (t := 321) (b := false) rfl h382
                                    replace h := h.2 h382
                                    exact ww H <| sk rfl rfl rfl rfl <| sk rfl rfl rfl rfl <| sk rfl rfl rfl rfl <| sk rfl rfl rfl rfl <| sk rfl rfl rfl rfl <| pF rfl rfl rfl <| fun a H => h383 _ _ _ h (H.weaken ⟨rfl, rfl, rfl, trivial⟩)
                                  ·clear H a h
                                   intro a x385 w386 h H
                                   replace h := h414 x385 w386 h
                                   clear h414
                                   obtain ⟨x411, h412, h413, h⟩ := h
                                   refine ww H <| mv rfl rfl <| fun a H => g_join (n := 340) [(334, (.bool x411))] (.succ (.succ (.succ (.succ (.succ (.succ (.zero _))))))) ?_ ?_
                                   ·intro h402
                                    try clear h
                                    rcases Bool.eq_false_or_eq_true x385 with h401 | h401
                                    ·replace H := H.ch (t := 328) (b := true) rfl h401
                                     replace h := h412 h401
                                     obtain ⟨C403, hc404, C405, hc406, C407, hc408, C409, hc410, h⟩ := h
                                     refine ww H <| gfd rfl rfl rfl fld_60_3 rfl <| glN (l := [(.i C403), (.i C405)]) rfl rfl rfl agg_27 rfl ⟨hc404, hc406, trivial⟩ rfl <| gfd rfl rfl rfl fld_56_5 rfl <| glN (l := [(.i C407), (.i C409)]) rfl rfl rfl agg_27 rfl ⟨hc408, hc410, trivial⟩ rfl <| gbn rfl rfl rfl rfl (r_eqst eqg_27 (eqst_27 0) rfl) rfl <| pT rfl rfl rfl <| fun a H => ?_
                                     subst h
                                     exact h402 _ (H.weaken ⟨rfl, trivial⟩)
                                    ·replace H := H.ch (t := 328) (b := false) rfl h401
                                     refine ww H <| sk rfl rfl rfl rfl <| sk rfl rfl rfl rfl <| sk rfl rfl rfl rfl <| sk rfl rfl rfl rfl <| sk rfl rfl rfl rfl <| pF rfl rfl rfl <| fun a H => ?_
                                     replace h := h413 h401
                                     subst h
                                     exact h402 _ (H.weaken ⟨rfl, trivial⟩)
                                   ·clear H a
                                    clear h412 h413
                                    intro a H
                                    exact ww H <| ag rfl rfl <| fun a H => nk hK372 <| c_ret <| e_ret1 H rfl rfl h
                                ·refine c_skip <| hK369 _ _ <| sr fun K415 hK415 => ww H <| mv rfl rfl <| mv rfl rfl <| bn rfl rfl r_sub rfl <| bn rfl rfl r_eql rfl <| fun a H => nk hK415 <| cd H rfl h (fun h416 h => ?_) (fun h416 h => ?_)
                                 ·refine sr fun K417 hK417 => ww H <| mv rfl rfl <| ag rfl rfl <| fun a H => nk hK417 <| c_exit ?_
                                  first | (simp only [Exit.then, Exit.inBlock, ↓reduceIte]; fail_if_success simp only [Nat.reduceEqDiff]) | simp only [Exit.then, Exit.inBlock, ↓reduceIte, Nat.reduceEqDiff]
                                  exact h142 _ _ _ h (H.weaken ⟨rfl, rfl, rfl, rfl, rfl, rfl, rfl, rfl, rfl, rfl, trivial⟩)
                                 ·refine c_skip <| hK256 _ _ <| c_reg <| ww H <| mv rfl rfl <| bn rfl rfl r_add rfl <| ag rfl rfl <| fun a H => c_nil <| Exists.intro (l248, wr .i64 (i249 + 1)) ⟨h.1, h.2, H.weaken ⟨rfl, rfl, rfl, rfl, rfl, rfl, rfl, rfl, rfl, rfl, rfl, rfl, trivial⟩⟩
                           have st_17_19_24 : ∀ (C332 : Int) (C333 : Int) (H339 : Slc) (O340 : Int) (P341 : Bool) (S342 : Int) (C343 : Int) (C344 : Int) (V345 : Slc) (H346 : Bool) (b351 : Nat) (w305 : World), R304 (some (C332, C333)) (some (H339, O340, P341, S342, C343, C344, V345, H346)) (some b351) none w305 → F425 1 [17, 19, 24] [(0, (.pointer N44)), (1, (.pointer (some ((blk b299).add 0)))), (2, (.i l306)), (3, (.i (wr .i64 (l306 + 1)))), (4, (.pointer (some ((blk b299).add 1)))), (5, (.i l309)), (6, (.pointer (some ((blk b299).add 2)))), (7, (.i l312)), (8, (.pointer (some ((blk b299).add 3)))), (9, (.i l315)), (10, (.pointer (some ((blk b299).add 4)))), (11, (.string l318)), (12, (.pointer (some ((blk b299).add 5)))), (13, (.agg #[(.i C321), (.i C323)])), (14, (.i p131)), (15, (.bool (decide (p131 = 0)))), (16, (.agg #[(.i C326), (.i C328)])), (17, (.agg #[(.i C332), (.i C333)])), (18, (.agg #[(.i (wr .i64 (l306 + 1))), (.i l309), (.i l312), (.i l315), (.string l318), (.i C321), (.i C323), (.i C332), (.i C333), (.bool false), Slc.nil.v])), (19, (.tuple #[H339.v, (.agg #[(.i O340), (.bool P341), (.i S342), (.i C343), (.i C344), V345.v]), (.bool H346)])), (20, (.tuple #[H339.v, (.agg #[(.i O340), (.bool P341), (.i S342), (.i C343), (.i C344), V345.v]), (.bool H346)])), (21, H339.v), (22, (.agg #[(.i O340), (.bool P341), (.i S342), (.i C343), (.i C344), V345.v])), (23, (.bool H346)), (24, (.pointer (some (blk b351)))), (25, H339.v)] w305 := by
                            intro C332 C333 H339 O340 P341 S342 C343 C344 V345 H346 b351 w305 hr
                            rw [h423]
                            refine StT.more [20, 21, 22, 23, 25] [26] (by kernel_rfl) (by kernel_rfl) (by kernel_rfl) (.cons ?_ (.cons ?_ (.cons ?_ (.cons ?_ (.cons ?_ .nil))))) (.cons ?_ .nil)
                            ·refine Ans.mk rfl rfl fun a H => ?_
                             replace H := H.weaken (L' := [(284, (.tuple #[H339.v, (.agg #[(.i O340), (.bool P341), (.i S342), (.i C343), (.i C344), V345.v]), (.bool H346)]))]) ⟨rfl, trivial⟩
                             refine ww H <| mv rfl rfl <| fun a H => c_nil ⟨rfl, rfl, H.weaken (L' := [(264, (.tuple #[H339.v, (.agg #[(.i O340), (.bool P341), (.i S342), (.i C343), (.i C344), V345.v]), (.bool H346)]))]) ⟨rfl, trivial⟩⟩
                            ·refine Ans.mk rfl rfl fun a H => ?_
                             replace H := H.weaken (L' := [(264, (.tuple #[H339.v, (.agg #[(.i O340), (.bool P341), (.i S342), (.i C343), (.i C344), V345.v]), (.bool H346)]))]) ⟨rfl, trivial⟩
                             refine ww H <| ex rfl rfl rfl <| fun a H => c_nil ⟨rfl, rfl, H.weaken (L' := [(285, H339.v)]) ⟨rfl, trivial⟩⟩
                            ·refine Ans.mk rfl rfl fun a H => ?_
                             replace H := H.weaken (L' := [(264, (.tuple #[H339.v, (.agg #[(.i O340), (.bool P341), (.i S342), (.i C343), (.i C344), V345.v]), (.bool H346)]))]) ⟨rfl, trivial⟩
                             refine ww H <| ex rfl rfl rfl <| fun a H => c_nil ⟨rfl, rfl, H.weaken (L' := [(286, (.agg #[(.i O340), (.bool P341), (.i S342), (.i C343), (.i C344), V345.v]))]) ⟨rfl, trivial⟩⟩
                            ·refine Ans.mk rfl rfl fun a H => ?_
                             replace H := H.weaken (L' := [(264, (.tuple #[H339.v, (.agg #[(.i O340), (.bool P341), (.i S342), (.i C343), (.i C344), V345.v]), (.bool H346)]))]) ⟨rfl, trivial⟩
                             refine ww H <| ex rfl rfl rfl <| fun a H => c_nil ⟨rfl, rfl, H.weaken (L' := [(287, (.bool H346))]) ⟨rfl, trivial⟩⟩
                            ·refine Ans.mk rfl rfl fun a H => ?_
                             replace H := H.weaken (L' := [(285, H339.v)]) ⟨rfl, trivial⟩
                             refine ww H <| ag rfl rfl <| fun a H => c_nil ⟨rfl, rfl, H.weaken (L' := [(27, H339.v)]) ⟨rfl, trivial⟩⟩
                            ·refine ⟨_, rfl, fun a H => ?_⟩
                             replace H := H.weaken (L' := [(28, (.pointer (some (blk b351)))), (286, (.agg #[(.i O340), (.bool P341), (.i S342), (.i C343), (.i C344), V345.v]))]) ⟨rfl, rfl, trivial⟩
                             have h := h421 C332 C333 H339 O340 P341 S342 C343 C344 V345 H346 b351 w305 hr
                             refine ww H <| sN h rfl rfl agg_60 rfl rfl fun w354 h => fun a H => c_nil ?_
                             refine effQ.ok (v := undef) (H.weaken (L' := []) trivial) ⟨[(0, (.pointer N44)), (1, (.pointer (some ((blk b299).add 0)))), (2, (.i l306)), (3, (.i (wr .i64 (l306 + 1)))), (4, (.pointer (some ((blk b299).add 1)))), (5, (.i l309)), (6, (.pointer (some ((blk b299).add 2)))), (7, (.i l312)), (8, (.pointer (some ((blk b299).add 3)))), (9, (.i l315)), (10, (.pointer (some ((blk b299).add 4)))), (11, (.string l318)), (12, (.pointer (some ((blk b299).add 5)))), (13, (.agg #[(.i C321), (.i C323)])), (14, (.i p131)), (15, (.bool (decide (p131 = 0)))), (16, (.agg #[(.i C326), (.i C328)])), (17, (.agg #[(.i C332), (.i C333)])), (18, (.agg #[(.i (wr .i64 (l306 + 1))), (.i l309), (.i l312), (.i l315), (.string l318), (.i C321), (.i C323), (.i C332), (.i C333), (.bool false), Slc.nil.v])), (19, (.tuple #[H339.v, (.agg #[(.i O340), (.bool P341), (.i S342), (.i C343), (.i C344), V345.v]), (.bool H346)])), (20, (.tuple #[H339.v, (.agg #[(.i O340), (.bool P341), (.i S342), (.i C343), (.i C344), V345.v]), (.bool H346)])), (21, H339.v), (22, (.agg #[(.i O340), (.bool P341), (.i S342), (.i C343), (.i C344), V345.v])), (23, (.bool H346)), (24, (.pointer (some (blk b351)))), (25, H339.v), (26, undef), (27, (.bool H346))], ⟨rfl, rfl, rfl, rfl, rfl, rfl, rfl, rfl, rfl, rfl, rfl, rfl, rfl, rfl, rfl, rfl, rfl, rfl, rfl, rfl, rfl, rfl, rfl, rfl, rfl, rfl, rfl, trivial⟩, ?_⟩
                             have hx := st_17_19_24_26 C332 C333 H339 O340 P341 S342 C343 C344 V345 H346 b351 w354 h
                             rw [h423] at hx
                             exact hx
                           have st_17_19 : ∀ (C332 : Int) (C333 : Int) (H339 : Slc) (O340 : Int) (P341 : Bool) (S342 : Int) (C343 : Int) (C344 : Int) (V345 : Slc) (H346 : Bool) (w305 : World), R304 (some (C332, C333)) (some (H339, O340, P341, S342, C343, C344, V345, H346)) none none w305 → F425 2 [17, 19] [(0, (.pointer N44)), (1, (.pointer (some ((blk b299).add 0)))), (2, (.i l306)), (3, (.i (wr .i64 (l306 + 1)))), (4, (.pointer (some ((blk b299).add 1)))), (5, (.i l309)), (6, (.pointer (some ((blk b299).add 2)))), (7, (.i l312)), (8, (.pointer (some ((blk b299).add 3)))), (9, (.i l315)), (10, (.pointer (some ((blk b299).add 4)))), (11, (.string l318)), (12, (.pointer (some ((blk b299).add 5)))), (13, (.agg #[(.i C321), (.i C323)])), (14, (.i p131)), (15, (.bool (decide (p131 = 0)))), (16, (.agg #[(.i C326), (.i C328)])), (17, (.agg #[(.i C332), (.i C333)])), (18, (.agg #[(.i (wr .i64 (l306 + 1))), (.i l309), (.i l312), (.i l315), (.string l318), (.i C321), (.i C323), (.i C332), (.i C333), (.bool false), Slc.nil.v])), (19, (.tuple #[H339.v, (.agg #[(.i O340), (.bool P341), (.i S342), (.i C343), (.i C344), V345.v]), (.bool H346)])), (20, (.tuple #[H339.v, (.agg #[(.i O340), (.bool P341), (.i S342), (.i C343), (.i C344), V345.v]), (.bool H346)])), (21, H339.v), (22, (.agg #[(.i O340), (.bool P341), (.i S342), (.i C343), (.i C344), V345.v])), (23, (.bool H346))] w305 := by
                            intro C332 C333 H339 O340 P341 S342 C343 C344 V345 H346 w305 hr
                            rw [h423]
                            refine StT.more [20, 21, 22, 23] [24] (by kernel_rfl) (by kernel_rfl) (by kernel_rfl) (.cons ?_ (.cons ?_ (.cons ?_ (.cons ?_ .nil)))) (.cons ?_ .nil)
                            ·refine Ans.mk rfl rfl fun a H => ?_
                             replace H := H.weaken (L' := [(284, (.tuple #[H339.v, (.agg #[(.i O340), (.bool P341), (.i S342), (.i C343), (.i C344), V345.v]), (.bool H346)]))]) ⟨rfl, trivial⟩
                             refine ww H <| mv rfl rfl <| fun a H => c_nil ⟨rfl, rfl, H.weaken (L' := [(264, (.tuple #[H339.v, (.agg #[(.i O340), (.bool P341), (.i S342), (.i C343), (.i C344), V345.v]), (.bool H346)]))]) ⟨rfl, trivial⟩⟩
                            ·refine Ans.mk rfl rfl fun a H => ?_
                             replace H := H.weaken (L' := [(264, (.tuple #[H339.v, (.agg #[(.i O340), (.bool P341), (.i S342), (.i C343), (.i C344), V345.v]), (.bool H346)]))]) ⟨rfl, trivial⟩
                             refine ww H <| ex rfl rfl rfl <| fun a H => c_nil ⟨rfl, rfl, H.weaken (L' := [(285, H339.v)]) ⟨rfl, trivial⟩⟩
                            ·refine Ans.mk rfl rfl fun a H => ?_
                             replace H := H.weaken (L' := [(264, (.tuple #[H339.v, (.agg #[(.i O340), (.bool P341), (.i S342), (.i C343), (.i C344), V345.v]), (.bool H346)]))]) ⟨rfl, trivial⟩
                             refine ww H <| ex rfl rfl rfl <| fun a H => c_nil ⟨rfl, rfl, H.weaken (L' := [(286, (.agg #[(.i O340), (.bool P341), (.i S342), (.i C343), (.i C344), V345.v]))]) ⟨rfl, trivial⟩⟩
                            ·refine Ans.mk rfl rfl fun a H => ?_
                             replace H := H.weaken (L' := [(264, (.tuple #[H339.v, (.agg #[(.i O340), (.bool P341), (.i S342), (.i C343), (.i C344), V345.v]), (.bool H346)]))]) ⟨rfl, trivial⟩
                             refine ww H <| ex rfl rfl rfl <| fun a H => c_nil ⟨rfl, rfl, H.weaken (L' := [(287, (.bool H346))]) ⟨rfl, trivial⟩⟩
                            ·refine ⟨_, rfl, fun a H => ?_⟩
                             replace H := H.weaken (L' := []) trivial
                             have h := h420 (some (C332, C333)) (some (H339, O340, P341, S342, C343, C344, V345, H346)) w305 hr
                             refine ww H <| al h zero_60 rfl rfl rfl fun b351 w352 n353 h => fun a H => c_nil ?_
                             refine effQ.ok (v := (.pointer (some (blk b351)))) (H.weaken (L' := [(28, (.pointer (some (blk b351))))]) ⟨rfl, trivial⟩) ⟨[(0, (.pointer N44)), (1, (.pointer (some ((blk b299).add 0)))), (2, (.i l306)), (3, (.i (wr .i64 (l306 + 1)))), (4, (.pointer (some ((blk b299).add 1)))), (5, (.i l309)), (6, (.pointer (some ((blk b299).add 2)))), (7, (.i l312)), (8, (.pointer (some ((blk b299).add 3)))), (9, (.i l315)), (10, (.pointer (some ((blk b299).add 4)))), (11, (.string l318)), (12, (.pointer (some ((blk b299).add 5)))), (13, (.agg #[(.i C321), (.i C323)])), (14, (.i p131)), (15, (.bool (decide (p131 = 0)))), (16, (.agg #[(.i C326), (.i C328)])), (17, (.agg #[(.i C332), (.i C333)])), (18, (.agg #[(.i (wr .i64 (l306 + 1))), (.i l309), (.i l312), (.i l315), (.string l318), (.i C321), (.i C323), (.i C332), (.i C333), (.bool false), Slc.nil.v])), (19, (.tuple #[H339.v, (.agg #[(.i O340), (.bool P341), (.i S342), (.i C343), (.i C344), V345.v]), (.bool H346)])), (20, (.tuple #[H339.v, (.agg #[(.i O340), (.bool P341), (.i S342), (.i C343), (.i C344), V345.v]), (.bool H346)])), (21, H339.v), (22, (.agg #[(.i O340), (.bool P341), (.i S342), (.i C343), (.i C344), V345.v])), (23, (.bool H346)), (24, (.pointer (some (blk b351)))), (25, H339.v)], ⟨rfl, rfl, rfl, rfl, rfl, rfl, rfl, rfl, rfl, rfl, rfl, rfl, rfl, rfl, rfl, rfl, rfl, rfl, rfl, rfl, rfl, rfl, rfl, rfl, rfl, trivial⟩, ?_⟩
                             have hx := st_17_19_24 C332 C333 H339 O340 P341 S342 C343 C344 V345 H346 b351 w352 h
                             rw [h423] at hx
                             exact hx
                           have st_17_24 : ∀ (C332 : Int) (C333 : Int) (b351 : Nat) (w305 : World), R304 (some (C332, C333)) none (some b351) none w305 → F425 2 [17, 24] [(0, (.pointer N44)), (1, (.pointer (some ((blk b299).add 0)))), (2, (.i l306)), (3, (.i (wr .i64 (l306 + 1)))), (4, (.pointer (some ((blk b299).add 1)))), (5, (.i l309)), (6, (.pointer (some ((blk b299).add 2)))), (7, (.i l312)), (8, (.pointer (some ((blk b299).add 3)))), (9, (.i l315)), (10, (.pointer (some ((blk b299).add 4)))), (11, (.string l318)), (12, (.pointer (some ((blk b299).add 5)))), (13, (.agg #[(.i C321), (.i C323)])), (14, (.i p131)), (15, (.bool (decide (p131 = 0)))), (16, (.agg #[(.i C326), (.i C328)])), (17, (.agg #[(.i C332), (.i C333)])), (18, (.agg #[(.i (wr .i64 (l306 + 1))), (.i l309), (.i l312), (.i l315), (.string l318), (.i C321), (.i C323), (.i C332), (.i C333), (.bool false), Slc.nil.v])), (24, (.pointer (some (blk b351))))] w305 := by
                            intro C332 C333 b351 w305 hr
                            rw [h423]
                            refine StT.more [0, 1, 2, 3, 4, 5, 6, 7, 8, 9, 10, 11, 12, 13, 18] [19] (by kernel_rfl) (by kernel_rfl) (by kernel_rfl) (.cons ?_ (.cons ?_ (.cons ?_ (.cons ?_ (.cons ?_ (.cons ?_ (.cons ?_ (.cons ?_ (.cons ?_ (.cons ?_ (.cons ?_ (.cons ?_ (.cons ?_ (.cons ?_ (.cons ?_ .nil))))))))))))))) (.cons ?_ .nil)
                            ·refine Ans.mk rfl rfl fun a H => ?_
                             replace H := H.weaken (L' := [(8, (.pointer N44))]) ⟨rfl, trivial⟩
                             refine ww H <| mv rfl rfl <| fun a H => c_nil ⟨rfl, rfl, H.weaken (L' := [(265, (.pointer N44))]) ⟨rfl, trivial⟩⟩
                            ·refine Ans.mk rfl rfl fun a H => ?_
                             replace H := H.weaken (L' := [(26, (.pointer (some (blk b299))))]) ⟨rfl, trivial⟩
                             refine ww H <| fd rfl fld_56_0 rfl <| fun a H => c_nil ⟨rfl, rfl, H.weaken (L' := [(266, (.pointer (some ((blk b299).add 0))))]) ⟨rfl, trivial⟩⟩
                            ·refine Ans.mk rfl rfl fun a H => ?_
                             replace H := H.weaken (L' := [(266, (.pointer (some ((blk b299).add 0))))]) ⟨rfl, trivial⟩
                             obtain hc307 := h308 (some (C332, C333)) (some b351) w305 hr
                             refine ww H <| ld rfl one_3 hc307 rfl <| fun a H => c_nil ⟨rfl, rfl, H.weaken (L' := [(267, (.i l306))]) ⟨rfl, trivial⟩⟩
                            ·refine Ans.mk rfl rfl fun a H => ?_
                             replace H := H.weaken (L' := [(267, (.i l306))]) ⟨rfl, trivial⟩
                             refine ww H <| bn rfl rfl r_add rfl <| fun a H => c_nil ⟨rfl, rfl, H.weaken (L' := [(268, (.i (wr .i64 (l306 + 1))))]) ⟨rfl, trivial⟩⟩
                            ·refine Ans.mk rfl rfl fun a H => ?_
                             replace H := H.weaken (L' := [(26, (.pointer (some (blk b299))))]) ⟨rfl, trivial⟩
                             refine ww H <| fd rfl fld_56_1 rfl <| fun a H => c_nil ⟨rfl, rfl, H.weaken (L' := [(269, (.pointer (some ((blk b299).add 1))))]) ⟨rfl, trivial⟩⟩
                            ·refine Ans.mk rfl rfl fun a H => ?_
                             replace H := H.weaken (L' := [(269, (.pointer (some ((blk b299).add 1))))]) ⟨rfl, trivial⟩
                             obtain hc310 := h311 (some (C332, C333)) (some b351) w305 hr
                             refine ww H <| ld rfl one_3 hc310 rfl <| fun a H => c_nil ⟨rfl, rfl, H.weaken (L' := [(270, (.i l309))]) ⟨rfl, trivial⟩⟩
                            ·refine Ans.mk rfl rfl fun a H => ?_
                             replace H := H.weaken (L' := [(26, (.pointer (some (blk b299))))]) ⟨rfl, trivial⟩
                             refine ww H <| fd rfl fld_56_2 rfl <| fun a H => c_nil ⟨rfl, rfl, H.weaken (L' := [(271, (.pointer (some ((blk b299).add 2))))]) ⟨rfl, trivial⟩⟩
                            ·refine Ans.mk rfl rfl fun a H => ?_
                             replace H := H.weaken (L' := [(271, (.pointer (some ((blk b299).add 2))))]) ⟨rfl, trivial⟩
                             obtain hc313 := h314 (some (C332, C333)) (some b351) w305 hr
                             refine ww H <| ld rfl one_3 hc313 rfl <| fun a H => c_nil ⟨rfl, rfl, H.weaken (L' := [(272, (.i l312))]) ⟨rfl, trivial⟩⟩
                            ·refine Ans.mk rfl rfl fun a H => ?_
                             replace H := H.weaken (L' := [(26, (.pointer (some (blk b299))))]) ⟨rfl, trivial⟩
                             refine ww H <| fd rfl fld_56_3 rfl <| fun a H => c_nil ⟨rfl, rfl, H.weaken (L' := [(273, (.pointer (some ((blk b299).add 3))))]) ⟨rfl, trivial⟩⟩
                            ·refine Ans.mk rfl rfl fun a H => ?_
                             replace H := H.weaken (L' := [(273, (.pointer (some ((blk b299).add 3))))]) ⟨rfl, trivial⟩
                             obtain hc316 := h317 (some (C332, C333)) (some b351) w305 hr
                             refine ww H <| ld rfl one_2 hc316 rfl <| fun a H => c_nil ⟨rfl, rfl, H.weaken (L' := [(274, (.i l315))]) ⟨rfl, trivial⟩⟩
                            ·refine Ans.mk rfl rfl fun a H => ?_
                             replace H := H.weaken (L' := [(26, (.pointer (some (blk b299))))]) ⟨rfl, trivial⟩
                             refine ww H <| fd rfl fld_56_4 rfl <| fun a H => c_nil ⟨rfl, rfl, H.weaken (L' := [(275, (.pointer (some ((blk b299).add 4))))]) ⟨rfl, trivial⟩⟩
                            ·refine Ans.mk rfl rfl fun a H => ?_
                             replace H := H.weaken (L' := [(275, (.pointer (some ((blk b299).add 4))))]) ⟨rfl, trivial⟩
                             obtain hc319 := h320 (some (C332, C333)) (some b351) w305 hr
                             refine ww H <| ld rfl one_9 hc319 rfl <| fun a H => c_nil ⟨rfl, rfl, H.weaken (L' := [(276, (.string l318))]) ⟨rfl, trivial⟩⟩
                            ·refine Ans.mk rfl rfl fun a H => ?_
                             replace H := H.weaken (L' := [(26, (.pointer (some (blk b299))))]) ⟨rfl, trivial⟩
                             refine ww H <| fd rfl fld_56_5 rfl <| fun a H => c_nil ⟨rfl, rfl, H.weaken (L' := [(277, (.pointer (some ((blk b299).add 5))))]) ⟨rfl, trivial⟩⟩
                            ·refine Ans.mk rfl rfl fun a H => ?_
                             replace H := H.weaken (L' := [(277, (.pointer (some ((blk b299).add 5))))]) ⟨rfl, trivial⟩
                             obtain ⟨hc322, hc324⟩ := h325 (some (C332, C333)) (some b351) w305 hr
                             refine ww H <| lN (l := [(.i C321), (.i C323)]) rfl agg_27 rfl ⟨hc322, hc324, trivial⟩ rfl <| fun a H => c_nil ⟨rfl, rfl, H.weaken (L' := [(278, (.agg #[(.i C321), (.i C323)]))]) ⟨rfl, trivial⟩⟩
                            ·refine Ans.mk rfl rfl fun a H => ?_
                             replace H := H.weaken (L' := [(268, (.i (wr .i64 (l306 + 1)))), (270, (.i l309)), (272, (.i l312)), (274, (.i l315)), (276, (.string l318)), (278, (.agg #[(.i C321), (.i C323)])), (282, (.agg #[(.i C332), (.i C333)]))]) ⟨rfl, rfl, rfl, rfl, rfl, rfl, rfl, trivial⟩
                             refine s_build H rfl (by rw [H.parts (vs := [(0, (.i (wr .i64 (l306 + 1)))), (1, (.i l309)), (2, (.i l312)), (3, (.i l315)), (4, (.string l318)), (5, (.agg #[(.i C321), (.i C323)])), (6, (.agg #[(.i C332), (.i C333)]))]) rfl]; exact bd_56_ii640_ii641_ii642_ii643_s4_ii64ii645_ii64ii646 _ (wr .i64 (l306 + 1)) l309 l312 l315 l318 C321 C323 C332 C333) (lt_ rfl) fun a H => c_nil ⟨rfl, rfl, H.weaken (L' := [(283, (.agg #[(.i (wr .i64 (l306 + 1))), (.i l309), (.i l312), (.i l315), (.string l318), (.i C321), (.i C323), (.i C332), (.i C333), (.bool false), Slc.nil.v]))]) ⟨rfl, trivial⟩⟩
                            ·refine ⟨_, rfl, fun a H => ?_⟩
                             replace H := H.weaken (L' := [(265, (.pointer N44)), (283, (.agg #[(.i (wr .i64 (l306 + 1))), (.i l309), (.i l312), (.i l315), (.string l318), (.i C321), (.i C323), (.i C332), (.i C333), (.bool false), Slc.nil.v]))]) ⟨rfl, rfl, trivial⟩
                             have h := h419 C332 C333 (some b351) w305 hr
                             refine s_call H rfl body_19 (H.args (vs := [(.pointer N44), (.agg #[(.i (wr .i64 (l306 + 1))), (.i l309), (.i l312), (.i l315), (.string l318), (.i C321), (.i C323), (.i C332), (.i C333), (.bool false), Slc.nil.v])]) rfl) (lt_ rfl) h ?_ (fun c w' => eP c w' _)
                             clear H h a
                             rintro _ w338 a ⟨H339, O340, P341, S342, C343, C344, V345, H346, rfl, h⟩ H
                             refine c_nil ?_
                             refine effQ.ok (v := (.tuple #[H339.v, (.agg #[(.i O340), (.bool P341), (.i S342), (.i C343), (.i C344), V345.v]), (.bool H346)])) (H.weaken (L' := [(284, (.tuple #[H339.v, (.agg #[(.i O340), (.bool P341), (.i S342), (.i C343), (.i C344), V345.v]), (.bool H346)]))]) ⟨rfl, trivial⟩) ⟨[(0, (.pointer N44)), (1, (.pointer (some ((blk b299).add 0)))), (2, (.i l306)), (3, (.i (wr .i64 (l306 + 1)))), (4, (.pointer (some ((blk b299).add 1)))), (5, (.i l309)), (6, (.pointer (some ((blk b299).add 2)))), (7, (.i l312)), (8, (.pointer (some ((blk b299).add 3)))), (9, (.i l315)), (10, (.pointer (some ((blk b299).add 4)))), (11, (.string l318)), (12, (.pointer (some ((blk b299).add 5)))), (13, (.agg #[(.i C321), (.i C323)])), (14, (.i p131)), (15, (.bool (decide (p131 = 0)))), (16, (.agg #[(.i C326), (.i C328)])), (17, (.agg #[(.i C332), (.i C333)])), (18, (.agg #[(.i (wr .i64 (l306 + 1))), (.i l309), (.i l312), (.i l315), (.string l318), (.i C321), (.i C323), (.i C332), (.i C333), (.bool false), Slc.nil.v])), (19, (.tuple #[H339.v, (.agg #[(.i O340), (.bool P341), (.i S342), (.i C343), (.i C344), V345.v]), (.bool H346)])), (20, (.tuple #[H339.v, (.agg #[(.i O340), (.bool P341), (.i S342), (.i C343), (.i C344), V345.v]), (.bool H346)])), (21, H339.v), (22, (.agg #[(.i O340), (.bool P341), (.i S342), (.i C343), (.i C344), V345.v])), (23, (.bool H346)), (24, (.pointer (some (blk b351)))), (25, H339.v)], ⟨rfl, rfl, rfl, rfl, rfl, rfl, rfl, rfl, rfl, rfl, rfl, rfl, rfl, rfl, rfl, rfl, rfl, rfl, rfl, rfl, rfl, trivial⟩, ?_⟩
                             have hx := st_17_19_24 C332 C333 H339 O340 P341 S342 C343 C344 V345 H346 b351 w338 h
                             rw [h423] at hx
                             exact hx
                           have st_17 : ∀ (C332 : Int) (C333 : Int) (w305 : World), R304 (some (C332, C333)) none none none w305 → F425 3 [17] [(0, (.pointer N44)), (1, (.pointer (some ((blk b299).add 0)))), (2, (.i l306)), (3, (.i (wr .i64 (l306 + 1)))), (4, (.pointer (some ((blk b299).add 1)))), (5, (.i l309)), (6, (.pointer (some ((blk b299).add 2)))), (7, (.i l312)), (8, (.pointer (some ((blk b299).add 3)))), (9, (.i l315)), (10, (.pointer (some ((blk b299).add 4)))), (11, (.string l318)), (12, (.pointer (some ((blk b299).add 5)))), (13, (.agg #[(.i C321), (.i C323)])), (14, (.i p131)), (15, (.bool (decide (p131 = 0)))), (16, (.agg #[(.i C326), (.i C328)])), (17, (.agg #[(.i C332), (.i C333)])), (18, (.agg #[(.i (wr .i64 (l306 + 1))), (.i l309), (.i l312), (.i l315), (.string l318), (.i C321), (.i C323), (.i C332), (.i C333), (.bool false), Slc.nil.v]))] w305 := by
                            intro C332 C333 w305 hr
                            rw [h423]
                            refine StT.more [0, 1, 2, 3, 4, 5, 6, 7, 8, 9, 10, 11, 12, 13, 18] [19, 24] (by kernel_rfl) (by kernel_rfl) (by kernel_rfl) (.cons ?_ (.cons ?_ (.cons ?_ (.cons ?_ (.cons ?_ (.cons ?_ (.cons ?_ (.cons ?_ (.cons ?_ (.cons ?_ (.cons ?_ (.cons ?_ (.cons ?_ (.cons ?_ (.cons ?_ .nil))))))))))))))) (.cons ?_ (.cons ?_ .nil))
                            ·refine Ans.mk rfl rfl fun a H => ?_
                             replace H := H.weaken (L' := [(8, (.pointer N44))]) ⟨rfl, trivial⟩
                             refine ww H <| mv rfl rfl <| fun a H => c_nil ⟨rfl, rfl, H.weaken (L' := [(265, (.pointer N44))]) ⟨rfl, trivial⟩⟩
                            ·refine Ans.mk rfl rfl fun a H => ?_
                             replace H := H.weaken (L' := [(26, (.pointer (some (blk b299))))]) ⟨rfl, trivial⟩
                             refine ww H <| fd rfl fld_56_0 rfl <| fun a H => c_nil ⟨rfl, rfl, H.weaken (L' := [(266, (.pointer (some ((blk b299).add 0))))]) ⟨rfl, trivial⟩⟩
                            ·refine Ans.mk rfl rfl fun a H => ?_
                             replace H := H.weaken (L' := [(266, (.pointer (some ((blk b299).add 0))))]) ⟨rfl, trivial⟩
                             obtain hc307 := h308 (some (C332, C333)) none w305 hr
                             refine ww H <| ld rfl one_3 hc307 rfl <| fun a H => c_nil ⟨rfl, rfl, H.weaken (L' := [(267, (.i l306))]) ⟨rfl, trivial⟩⟩
                            ·refine Ans.mk rfl rfl fun a H => ?_
                             replace H := H.weaken (L' := [(267, (.i l306))]) ⟨rfl, trivial⟩
                             refine ww H <| bn rfl rfl r_add rfl <| fun a H => c_nil ⟨rfl, rfl, H.weaken (L' := [(268, (.i (wr .i64 (l306 + 1))))]) ⟨rfl, trivial⟩⟩
                            ·refine Ans.mk rfl rfl fun a H => ?_
                             replace H := H.weaken (L' := [(26, (.pointer (some (blk b299))))]) ⟨rfl, trivial⟩
                             refine ww H <| fd rfl fld_56_1 rfl <| fun a H => c_nil ⟨rfl, rfl, H.weaken (L' := [(269, (.pointer (some ((blk b299).add 1))))]) ⟨rfl, trivial⟩⟩
                            ·refine Ans.mk rfl rfl fun a H => ?_
                             replace H := H.weaken (L' := [(269, (.pointer (some ((blk b299).add 1))))]) ⟨rfl, trivial⟩
                             obtain hc310 := h311 (some (C332, C333)) none w305 hr
                             refine ww H <| ld rfl one_3 hc310 rfl <| fun a H => c_nil ⟨rfl, rfl, H.weaken (L' := [(270, (.i l309))]) ⟨rfl, trivial⟩⟩
                            ·refine Ans.mk rfl rfl fun a H => ?_
                             replace H := H.weaken (L' := [(26, (.pointer (some (blk b299))))]) ⟨rfl, trivial⟩
                             refine ww H <| fd rfl fld_56_2 rfl <| fun a H => c_nil ⟨rfl, rfl, H.weaken (L' := [(271, (.pointer (some ((blk b299).add 2))))]) ⟨rfl, trivial⟩⟩
                            ·refine Ans.mk rfl rfl fun a H => ?_
                             replace H := H.weaken (L' := [(271, (.pointer (some ((blk b299).add 2))))]) ⟨rfl, trivial⟩
                             obtain hc313 := h314 (some (C332, C333)) none w305 hr
                             refine ww H <| ld rfl one_3 hc313 rfl <| fun a H => c_nil ⟨rfl, rfl, H.weaken (L' := [(272, (.i l312))]) ⟨rfl, trivial⟩⟩
                            ·refine Ans.mk rfl rfl fun a H => ?_
                             replace H := H.weaken (L' := [(26, (.pointer (some (blk b299))))]) ⟨rfl, trivial⟩
                             refine ww H <| fd rfl fld_56_3 rfl <| fun a H => c_nil ⟨rfl, rfl, H.weaken (L' := [(273, (.pointer (some ((blk b299).add 3))))]) ⟨rfl, trivial⟩⟩
                            ·refine Ans.mk rfl rfl fun a H => ?_
                             replace H := H.weaken (L' := [(273, (.pointer (some ((blk b299).add 3))))]) ⟨rfl, trivial⟩
                             obtain hc316 := h317 (some (C332, C333)) none w305 hr
                             refine ww H <| ld rfl one_2 hc316 rfl <| fun a H => c_nil ⟨rfl, rfl, H.weaken (L' := [(274, (.i l315))]) ⟨rfl, trivial⟩⟩
                            ·refine Ans.mk rfl rfl fun a H => ?_
                             replace H := H.weaken (L' := [(26, (.pointer (some (blk b299))))]) ⟨rfl, trivial⟩
                             refine ww H <| fd rfl fld_56_4 rfl <| fun a H => c_nil ⟨rfl, rfl, H.weaken (L' := [(275, (.pointer (some ((blk b299).add 4))))]) ⟨rfl, trivial⟩⟩
                            ·refine Ans.mk rfl rfl fun a H => ?_
                             replace H := H.weaken (L' := [(275, (.pointer (some ((blk b299).add 4))))]) ⟨rfl, trivial⟩
                             obtain hc319 := h320 (some (C332, C333)) none w305 hr
                             refine ww H <| ld rfl one_9 hc319 rfl <| fun a H => c_nil ⟨rfl, rfl, H.weaken (L' := [(276, (.string l318))]) ⟨rfl, trivial⟩⟩
                            ·refine Ans.mk rfl rfl fun a H => ?_
                             replace H := H.weaken (L' := [(26, (.pointer (some (blk b299))))]) ⟨rfl, trivial⟩
                             refine ww H <| fd rfl fld_56_5 rfl <| fun a H => c_nil ⟨rfl, rfl, H.weaken (L' := [(277, (.pointer (some ((blk b299).add 5))))]) ⟨rfl, trivial⟩⟩
                            ·refine Ans.mk rfl rfl fun a H => ?_
                             replace H := H.weaken (L' := [(277, (.pointer (some ((blk b299).add 5))))]) ⟨rfl, trivial⟩
                             obtain ⟨hc322, hc324⟩ := h325 (some (C332, C333)) none w305 hr
                             refine ww H <| lN (l := [(.i C321), (.i C323)]) rfl agg_27 rfl ⟨hc322, hc324, trivial⟩ rfl <| fun a H => c_nil ⟨rfl, rfl, H.weaken (L' := [(278, (.agg #[(.i C321), (.i C323)]))]) ⟨rfl, trivial⟩⟩
                            ·refine Ans.mk rfl rfl fun a H => ?_
                             replace H := H.weaken (L' := [(268, (.i (wr .i64 (l306 + 1)))), (270, (.i l309)), (272, (.i l312)), (274, (.i l315)), (276, (.string l318)), (278, (.agg #[(.i C321), (.i C323)])), (282, (.agg #[(.i C332), (.i C333)]))]) ⟨rfl, rfl, rfl, rfl, rfl, rfl, rfl, trivial⟩
                             refine s_build H rfl (by rw [H.parts (vs := [(0, (.i (wr .i64 (l306 + 1)))), (1, (.i l309)), (2, (.i l312)), (3, (.i l315)), (4, (.string l318)), (5, (.agg #[(.i C321), (.i C323)])), (6, (.agg #[(.i C332), (.i C333)]))]) rfl]; exact bd_56_ii640_ii641_ii642_ii643_s4_ii64ii645_ii64ii646 _ (wr .i64 (l306 + 1)) l309 l312 l315 l318 C321 C323 C332 C333) (lt_ rfl) fun a H => c_nil ⟨rfl, rfl, H.weaken (L' := [(283, (.agg #[(.i (wr .i64 (l306 + 1))), (.i l309), (.i l312), (.i l315), (.string l318), (.i C321), (.i C323), (.i C332), (.i C333), (.bool false), Slc.nil.v]))]) ⟨rfl, trivial⟩⟩
                            ·refine ⟨_, rfl, fun a H => ?_⟩
                             replace H := H.weaken (L' := [(265, (.pointer N44)), (283, (.agg #[(.i (wr .i64 (l306 + 1))), (.i l309), (.i l312), (.i l315), (.string l318), (.i C321), (.i C323), (.i C332), (.i C333), (.bool false), Slc.nil.v]))]) ⟨rfl, rfl, trivial⟩
                             have h := h419 C332 C333 none w305 hr
                             refine s_call H rfl body_19 (H.args (vs := [(.pointer N44), (.agg #[(.i (wr .i64 (l306 + 1))), (.i l309), (.i l312), (.i l315), (.string l318), (.i C321), (.i C323), (.i C332), (.i C333), (.bool false), Slc.nil.v])]) rfl) (lt_ rfl) h ?_ (fun c w' => eP c w' _)
                             clear H h a
                             rintro _ w338 a ⟨H339, O340, P341, S342, C343, C344, V345, H346, rfl, h⟩ H
                             refine c_nil ?_
                             refine effQ.ok (v := (.tuple #[H339.v, (.agg #[(.i O340), (.bool P341), (.i S342), (.i C343), (.i C344), V345.v]), (.bool H346)])) (H.weaken (L' := [(284, (.tuple #[H339.v, (.agg #[(.i O340), (.bool P341), (.i S342), (.i C343), (.i C344), V345.v]), (.bool H346)]))]) ⟨rfl, trivial⟩) ⟨[(0, (.pointer N44)), (1, (.pointer (some ((blk b299).add 0)))), (2, (.i l306)), (3, (.i (wr .i64 (l306 + 1)))), (4, (.pointer (some ((blk b299).add 1)))), (5, (.i l309)), (6, (.pointer (some ((blk b299).add 2)))), (7, (.i l312)), (8, (.pointer (some ((blk b299).add 3)))), (9, (.i l315)), (10, (.pointer (some ((blk b299).add 4)))), (11, (.string l318)), (12, (.pointer (some ((blk b299).add 5)))), (13, (.agg #[(.i C321), (.i C323)])), (14, (.i p131)), (15, (.bool (decide (p131 = 0)))), (16, (.agg #[(.i C326), (.i C328)])), (17, (.agg #[(.i C332), (.i C333)])), (18, (.agg #[(.i (wr .i64 (l306 + 1))), (.i l309), (.i l312), (.i l315), (.string l318), (.i C321), (.i C323), (.i C332), (.i C333), (.bool false), Slc.nil.v])), (19, (.tuple #[H339.v, (.agg #[(.i O340), (.bool P341), (.i S342), (.i C343), (.i C344), V345.v]), (.bool H346)])), (20, (.tuple #[H339.v, (.agg #[(.i O340), (.bool P341), (.i S342), (.i C343), (.i C344), V345.v]), (.bool H346)])), (21, H339.v), (22, (.agg #[(.i O340), (.bool P341), (.i S342), (.i C343), (.i C344), V345.v])), (23, (.bool H346))], ⟨rfl, rfl, rfl, rfl, rfl, rfl, rfl, rfl, rfl, rfl, rfl, rfl, rfl, rfl, rfl, rfl, rfl, rfl, rfl, rfl, trivial⟩, ?_⟩
                             have hx := st_17_19 C332 C333 H339 O340 P341 S342 C343 C344 V345 H346 w338 h
                             rw [h423] at hx
                             exact hx
                            ·refine ⟨_, rfl, fun a H => ?_⟩
                             replace H := H.weaken (L' := []) trivial
                             have h := h420 (some (C332, C333)) none w305 hr
                             refine ww H <| al h zero_60 rfl rfl rfl fun b351 w352 n353 h => fun a H => c_nil <| effQ.ok (v := (.pointer (some (blk b351)))) (H.weaken (L' := [(28, (.pointer (some (blk b351))))]) ⟨rfl, trivial⟩) ⟨[(0, (.pointer N44)), (1, (.pointer (some ((blk b299).add 0)))), (2, (.i l306)), (3, (.i (wr .i64 (l306 + 1)))), (4, (.pointer (some ((blk b299).add 1)))), (5, (.i l309)), (6, (.pointer (some ((blk b299).add 2)))), (7, (.i l312)), (8, (.pointer (some ((blk b299).add 3)))), (9, (.i l315)), (10, (.pointer (some ((blk b299).add 4)))), (11, (.string l318)), (12, (.pointer (some ((blk b299).add 5)))), (13, (.agg #[(.i C321), (.i C323)])), (14, (.i p131)), (15, (.bool (decide (p131 = 0)))), (16, (.agg #[(.i C326), (.i C328)])), (17, (.agg #[(.i C332), (.i C333)])), (18, (.agg #[(.i (wr .i64 (l306 + 1))), (.i l309), (.i l312), (.i l315), (.string l318), (.i C321), (.i C323), (.i C332), (.i C333), (.bool false), Slc.nil.v])), (24, (.pointer (some (blk b351))))], ⟨rfl, rfl, rfl, rfl, rfl, rfl, rfl, rfl, rfl, rfl, rfl, rfl, rfl, rfl, rfl, rfl, rfl, rfl, rfl, rfl, trivial⟩, ?_⟩
                             have hx := st_17_24 C332 C333 b351 w352 h
                             rw [h423] at hx
                             exact hx
                           have st_24 : ∀ (b351 : Nat) (w305 : World), R304 none none (some b351) none w305 → F425 3 [24] [(0, (.pointer N44)), (1, (.pointer (some ((blk b299).add 0)))), (2, (.i l306)), (3, (.i (wr .i64 (l306 + 1)))), (4, (.pointer (some ((blk b299).add 1)))), (5, (.i l309)), (6, (.pointer (some ((blk b299).add 2)))), (7, (.i l312)), (8, (.pointer (some ((blk b299).add 3)))), (9, (.i l315)), (10, (.pointer (some ((blk b299).add 4)))), (11, (.string l318)), (12, (.pointer (some ((blk b299).add 5)))), (13, (.agg #[(.i C321), (.i C323)])), (14, (.i p131)), (15, (.bool (decide (p131 = 0)))), (16, (.agg #[(.i C326), (.i C328)])), (24, (.pointer (some (blk b351))))] w305 := by
                            intro b351 w305 hr
                            rw [h423]
                            refine StT.more [0, 1, 2, 3, 4, 5, 6, 7, 8, 9, 10, 11, 12, 13, 14, 15, 16] [17] (by kernel_rfl) (by kernel_rfl) (by kernel_rfl) (.cons ?_ (.cons ?_ (.cons ?_ (.cons ?_ (.cons ?_ (.cons ?_ (.cons ?_ (.cons ?_ (.cons ?_ (.cons ?_ (.cons ?_ (.cons ?_ (.cons ?_ (.cons ?_ (.cons ?_ (.cons ?_ (.cons ?_ .nil))))))))))))))))) (.cons ?_ .nil)
                            ·refine Ans.mk rfl rfl fun a H => ?_
                             replace H := H.weaken (L' := [(8, (.pointer N44))]) ⟨rfl, trivial⟩
                             refine ww H <| mv rfl rfl <| fun a H => c_nil ⟨rfl, rfl, H.weaken (L' := [(265, (.pointer N44))]) ⟨rfl, trivial⟩⟩
                            ·refine Ans.mk rfl rfl fun a H => ?_
                             replace H := H.weaken (L' := [(26, (.pointer (some (blk b299))))]) ⟨rfl, trivial⟩
                             refine ww H <| fd rfl fld_56_0 rfl <| fun a H => c_nil ⟨rfl, rfl, H.weaken (L' := [(266, (.pointer (some ((blk b299).add 0))))]) ⟨rfl, trivial⟩⟩
                            ·refine Ans.mk rfl rfl fun a H => ?_
                             replace H := H.weaken (L' := [(266, (.pointer (some ((blk b299).add 0))))]) ⟨rfl, trivial⟩
                             obtain hc307 := h308 none (some b351) w305 hr
                             refine ww H <| ld rfl one_3 hc307 rfl <| fun a H => c_nil ⟨rfl, rfl, H.weaken (L' := [(267, (.i l306))]) ⟨rfl, trivial⟩⟩
                            ·refine Ans.mk rfl rfl fun a H => ?_
                             replace H := H.weaken (L' := [(267, (.i l306))]) ⟨rfl, trivial⟩
                             refine ww H <| bn rfl rfl r_add rfl <| fun a H => c_nil ⟨rfl, rfl, H.weaken (L' := [(268, (.i (wr .i64 (l306 + 1))))]) ⟨rfl, trivial⟩⟩
                            ·refine Ans.mk rfl rfl fun a H => ?_
                             replace H := H.weaken (L' := [(26, (.pointer (some (blk b299))))]) ⟨rfl, trivial⟩
                             refine ww H <| fd rfl fld_56_1 rfl <| fun a H => c_nil ⟨rfl, rfl, H.weaken (L' := [(269, (.pointer (some ((blk b299).add 1))))]) ⟨rfl, trivial⟩⟩
                            ·refine Ans.mk rfl rfl fun a H => ?_
                             replace H := H.weaken (L' := [(269, (.pointer (some ((blk b299).add 1))))]) ⟨rfl, trivial⟩
                             obtain hc310 := h311 none (some b351) w305 hr
                             refine ww H <| ld rfl one_3 hc310 rfl <| fun a H => c_nil ⟨rfl, rfl, H.weaken (L' := [(270, (.i l309))]) ⟨rfl, trivial⟩⟩
                            ·refine Ans.mk rfl rfl fun a H => ?_
                             replace H := H.weaken (L' := [(26, (.pointer (some (blk b299))))]) ⟨rfl, trivial⟩
                             refine ww H <| fd rfl fld_56_2 rfl <| fun a H => c_nil ⟨rfl, rfl, H.weaken (L' := [(271, (.pointer (some ((blk b299).add 2))))]) ⟨rfl, trivial⟩⟩
                            ·refine Ans.mk rfl rfl fun a H => ?_
                             replace H := H.weaken (L' := [(271, (.pointer (some ((blk b299).add 2))))]) ⟨rfl, trivial⟩
                             obtain hc313 := h314 none (some b351) w305 hr
                             refine ww H <| ld rfl one_3 hc313 rfl <| fun a H => c_nil ⟨rfl, rfl, H.weaken (L' := [(272, (.i l312))]) ⟨rfl, trivial⟩⟩
                            ·refine Ans.mk rfl rfl fun a H => ?_
                             replace H := H.weaken (L' := [(26, (.pointer (some (blk b299))))]) ⟨rfl, trivial⟩
                             refine ww H <| fd rfl fld_56_3 rfl <| fun a H => c_nil ⟨rfl, rfl, H.weaken (L' := [(273, (.pointer (some ((blk b299).add 3))))]) ⟨rfl, trivial⟩⟩
                            ·refine Ans.mk rfl rfl fun a H => ?_
                             replace H := H.weaken (L' := [(273, (.pointer (some ((blk b299).add 3))))]) ⟨rfl, trivial⟩
                             obtain hc316 := h317 none (some b351) w305 hr
                             refine ww H <| ld rfl one_2 hc316 rfl <| fun a H => c_nil ⟨rfl, rfl, H.weaken (L' := [(274, (.i l315))]) ⟨rfl, trivial⟩⟩
                            ·refine Ans.mk rfl rfl fun a H => ?_
                             replace H := H.weaken (L' := [(26, (.pointer (some (blk b299))))]) ⟨rfl, trivial⟩
                             refine ww H <| fd rfl fld_56_4 rfl <| fun a H => c_nil ⟨rfl, rfl, H.weaken (L' := [(275, (.pointer (some ((blk b299).add 4))))]) ⟨rfl, trivial⟩⟩
                            ·refine Ans.mk rfl rfl fun a H => ?_
                             replace H := H.weaken (L' := [(275, (.pointer (some ((blk b299).add 4))))]) ⟨rfl, trivial⟩
                             obtain hc319 := h320 none (some b351) w305 hr
                             refine ww H <| ld rfl one_9 hc319 rfl <| fun a H => c_nil ⟨rfl, rfl, H.weaken (L' := [(276, (.string l318))]) ⟨rfl, trivial⟩⟩
                            ·refine Ans.mk rfl rfl fun a H => ?_
                             replace H := H.weaken (L' := [(26, (.pointer (some (blk b299))))]) ⟨rfl, trivial⟩
                             refine ww H <| fd rfl fld_56_5 rfl <| fun a H => c_nil ⟨rfl, rfl, H.weaken (L' := [(277, (.pointer (some ((blk b299).add 5))))]) ⟨rfl, trivial⟩⟩
                            ·refine Ans.mk rfl rfl fun a H => ?_
                             replace H := H.weaken (L' := [(277, (.pointer (some ((blk b299).add 5))))]) ⟨rfl, trivial⟩
                             obtain ⟨hc322, hc324⟩ := h325 none (some b351) w305 hr
                             refine ww H <| lN (l := [(.i C321), (.i C323)]) rfl agg_27 rfl ⟨hc322, hc324, trivial⟩ rfl <| fun a H => c_nil ⟨rfl, rfl, H.weaken (L' := [(278, (.agg #[(.i C321), (.i C323)]))]) ⟨rfl, trivial⟩⟩
                            ·refine Ans.mk rfl rfl fun a H => ?_
                             replace H := H.weaken (L' := [(22, (.i p131))]) ⟨rfl, trivial⟩
                             refine ww H <| mv rfl rfl <| fun a H => c_nil ⟨rfl, rfl, H.weaken (L' := [(279, (.i p131))]) ⟨rfl, trivial⟩⟩
                            ·refine Ans.mk rfl rfl fun a H => ?_
                             replace H := H.weaken (L' := [(279, (.i p131))]) ⟨rfl, trivial⟩
                             refine ww H <| bn rfl rfl r_eql rfl <| fun a H => c_nil ⟨rfl, rfl, H.weaken (L' := [(280, (.bool (decide (p131 = 0))))]) ⟨rfl, trivial⟩⟩
                            ·refine Ans.mk rfl rfl fun a H => ?_
                             replace H := H.weaken (L' := [(5, (.pointer (some (blk b13))))]) ⟨rfl, trivial⟩
                             obtain ⟨hc327, hc329⟩ := h330 (some b351) w305 hr
                             refine ww H <| lN (l := [(.i C326), (.i C328)]) rfl agg_27 rfl ⟨hc327, hc329, trivial⟩ rfl <| fun a H => c_nil ⟨rfl, rfl, H.weaken (L' := [(281, (.agg #[(.i C326), (.i C328)]))]) ⟨rfl, trivial⟩⟩
                            ·refine ⟨_, rfl, fun a H => ?_⟩
                             replace H := H.weaken (L' := [(280, (.bool (decide (p131 = 0)))), (281, (.agg #[(.i C326), (.i C328)]))]) ⟨rfl, rfl, trivial⟩
                             have h := h418 (some b351) w305 hr
                             refine ww H <| cl2 h body_20 rfl rfl eP fun C332 C333 w331 h => fun a H => c_nil <| effQ.ok (v := (.agg #[(.i C332), (.i C333)])) (H.weaken (L' := [(282, (.agg #[(.i C332), (.i C333)]))]) ⟨rfl, trivial⟩) ⟨[(0, (.pointer N44)), (1, (.pointer (some ((blk b299).add 0)))), (2, (.i l306)), (3, (.i (wr .i64 (l306 + 1)))), (4, (.pointer (some ((blk b299).add 1)))), (5, (.i l309)), (6, (.pointer (some ((blk b299).add 2)))), (7, (.i l312)), (8, (.pointer (some ((blk b299).add 3)))), (9, (.i l315)), (10, (.pointer (some ((blk b299).add 4)))), (11, (.string l318)), (12, (.pointer (some ((blk b299).add 5)))), (13, (.agg #[(.i C321), (.i C323)])), (14, (.i p131)), (15, (.bool (decide (p131 = 0)))), (16, (.agg #[(.i C326), (.i C328)])), (17, (.agg #[(.i C332), (.i C333)])), (18, (.agg #[(.i (wr .i64 (l306 + 1))), (.i l309), (.i l312), (.i l315), (.string l318), (.i C321), (.i C323), (.i C332), (.i C333), (.bool false), Slc.nil.v])), (24, (.pointer (some (blk b351))))], ⟨rfl, rfl, rfl, rfl, rfl, rfl, rfl, rfl, rfl, rfl, rfl, rfl, rfl, rfl, rfl, rfl, rfl, rfl, rfl, trivial⟩, ?_⟩
                             have hx := st_17_24 C332 C333 b351 w331 h
                             rw [h423] at hx
                             exact hx
                           have st_ : ∀ (w305 : World), R304 none none none none w305 → F425 4 [] [(0, (.pointer N44)), (1, (.pointer (some ((blk b299).add 0)))), (2, (.i l306)), (3, (.i (wr .i64 (l306 + 1)))), (4, (.pointer (some ((blk b299).add 1)))), (5, (.i l309)), (6, (.pointer (some ((blk b299).add 2)))), (7, (.i l312)), (8, (.pointer (some ((blk b299).add 3)))), (9, (.i l315)), (10, (.pointer (some ((blk b299).add 4)))), (11, (.string l318)), (12, (.pointer (some ((blk b299).add 5)))), (13, (.agg #[(.i C321), (.i C323)])), (14, (.i p131)), (15, (.bool (decide (p131 = 0)))), (16, (.agg #[(.i C326), (.i C328)]))] w305 := by
                            intro w305 hr
                            rw [h423]
                            refine StT.more [0, 1, 2, 3, 4, 5, 6, 7, 8, 9, 10, 11, 12, 13, 14, 15, 16] [17, 24] (by kernel_rfl) (by kernel_rfl) (by kernel_rfl) (.cons ?_ (.cons ?_ (.cons ?_ (.cons ?_ (.cons ?_ (.cons ?_ (.cons ?_ (.cons ?_ (.cons ?_ (.cons ?_ (.cons ?_ (.cons ?_ (.cons ?_ (.cons ?_ (.cons ?_ (.cons ?_ (.cons ?_ .nil))))))))))))))))) (.cons ?_ (.cons ?_ .nil))
                            ·refine Ans.mk rfl rfl fun a H => ?_
                             replace H := H.weaken (L' := [(8, (.pointer N44))]) ⟨rfl, trivial⟩
                             refine ww H <| mv rfl rfl <| fun a H => c_nil ⟨rfl, rfl, H.weaken (L' := [(265, (.pointer N44))]) ⟨rfl, trivial⟩⟩
                            ·refine Ans.mk rfl rfl fun a H => ?_
                             replace H := H.weaken (L' := [(26, (.pointer (some (blk b299))))]) ⟨rfl, trivial⟩
                             refine ww H <| fd rfl fld_56_0 rfl <| fun a H => c_nil ⟨rfl, rfl, H.weaken (L' := [(266, (.pointer (some ((blk b299).add 0))))]) ⟨rfl, trivial⟩⟩
                            ·refine Ans.mk rfl rfl fun a H => ?_
                             replace H := H.weaken (L' := [(266, (.pointer (some ((blk b299).add 0))))]) ⟨rfl, trivial⟩
                             obtain hc307 := h308 none none w305 hr
                             refine ww H <| ld rfl one_3 hc307 rfl <| fun a H => c_nil ⟨rfl, rfl, H.weaken (L' := [(267, (.i l306))]) ⟨rfl, trivial⟩⟩
                            ·refine Ans.mk rfl rfl fun a H => ?_
                             replace H := H.weaken (L' := [(267, (.i l306))]) ⟨rfl, trivial⟩
                             refine ww H <| bn rfl rfl r_add rfl <| fun a H => c_nil ⟨rfl, rfl, H.weaken (L' := [(268, (.i (wr .i64 (l306 + 1))))]) ⟨rfl, trivial⟩⟩
                            ·refine Ans.mk rfl rfl fun a H => ?_
                             replace H := H.weaken (L' := [(26, (.pointer (some (blk b299))))]) ⟨rfl, trivial⟩
                             refine ww H <| fd rfl fld_56_1 rfl <| fun a H => c_nil ⟨rfl, rfl, H.weaken (L' := [(269, (.pointer (some ((blk b299).add 1))))]) ⟨rfl, trivial⟩⟩
                            ·refine Ans.mk rfl rfl fun a H => ?_
                             replace H := H.weaken (L' := [(269, (.pointer (some ((blk b299).add 1))))]) ⟨rfl, trivial⟩
                             obtain hc310 := h311 none none w305 hr
                             refine ww H <| ld rfl one_3 hc310 rfl <| fun a H => c_nil ⟨rfl, rfl, H.weaken (L' := [(270, (.i l309))]) ⟨rfl, trivial⟩⟩
                            ·refine Ans.mk rfl rfl fun a H => ?_
                             replace H := H.weaken (L' := [(26, (.pointer (some (blk b299))))]) ⟨rfl, trivial⟩
                             refine ww H <| fd rfl fld_56_2 rfl <| fun a H => c_nil ⟨rfl, rfl, H.weaken (L' := [(271, (.pointer (some ((blk b299).add 2))))]) ⟨rfl, trivial⟩⟩
                            ·refine Ans.mk rfl rfl fun a H => ?_
                             replace H := H.weaken (L' := [(271, (.pointer (some ((blk b299).add 2))))]) ⟨rfl, trivial⟩
                             obtain hc313 := h314 none none w305 hr
                             refine ww H <| ld rfl one_3 hc313 rfl <| fun a H => c_nil ⟨rfl, rfl, H.weaken (L' := [(272, (.i l312))]) ⟨rfl, trivial⟩⟩
                            ·refine Ans.mk rfl rfl fun a H => ?_
                             replace H := H.weaken (L' := [(26, (.pointer (some (blk b299))))]) ⟨rfl, trivial⟩
                             refine ww H <| fd rfl fld_56_3 rfl <| fun a H => c_nil ⟨rfl, rfl, H.weaken (L' := [(273, (.pointer (some ((blk b299).add 3))))]) ⟨rfl, trivial⟩⟩
                            ·refine Ans.mk rfl rfl fun a H => ?_
                             replace H := H.weaken (L' := [(273, (.pointer (some ((blk b299).add 3))))]) ⟨rfl, trivial⟩
                             obtain hc316 := h317 none none w305 hr
                             refine ww H <| ld rfl one_2 hc316 rfl <| fun a H => c_nil ⟨rfl, rfl, H.weaken (L' := [(274, (.i l315))]) ⟨rfl, trivial⟩⟩
                            ·refine Ans.mk rfl rfl fun a H => ?_
                             replace H := H.weaken (L' := [(26, (.pointer (some (blk b299))))]) ⟨rfl, trivial⟩
                             refine ww H <| fd rfl fld_56_4 rfl <| fun a H => c_nil ⟨rfl, rfl, H.weaken (L' := [(275, (.pointer (some ((blk b299).add 4))))]) ⟨rfl, trivial⟩⟩
                            ·refine Ans.mk rfl rfl fun a H => ?_
                             replace H := H.weaken (L' := [(275, (.pointer (some ((blk b299).add 4))))]) ⟨rfl, trivial⟩
                             obtain hc319 := h320 none none w305 hr
                             refine ww H <| ld rfl one_9 hc319 rfl <| fun a H => c_nil ⟨rfl, rfl, H.weaken (L' := [(276, (.string l318))]) ⟨rfl, trivial⟩⟩
                            ·refine Ans.mk rfl rfl fun a H => ?_
                             replace H := H.weaken (L' := [(26, (.pointer (some (blk b299))))]) ⟨rfl, trivial⟩
                             refine ww H <| fd rfl fld_56_5 rfl <| fun a H => c_nil ⟨rfl, rfl, H.weaken (L' := [(277, (.pointer (some ((blk b299).add 5))))]) ⟨rfl, trivial⟩⟩
                            ·refine Ans.mk rfl rfl fun a H => ?_
                             replace H := H.weaken (L' := [(277, (.pointer (some ((blk b299).add 5))))]) ⟨rfl, trivial⟩
                             obtain ⟨hc322, hc324⟩ := h325 none none w305 hr
                             refine ww H <| lN (l := [(.i C321), (.i C323)]) rfl agg_27 rfl ⟨hc322, hc324, trivial⟩ rfl <| fun a H => c_nil ⟨rfl, rfl, H.weaken (L' := [(278, (.agg #[(.i C321), (.i C323)]))]) ⟨rfl, trivial⟩⟩
                            ·refine Ans.mk rfl rfl fun a H => ?_
                             replace H := H.weaken (L' := [(22, (.i p131))]) ⟨rfl, trivial⟩
                             refine ww H <| mv rfl rfl <| fun a H => c_nil ⟨rfl, rfl, H.weaken (L' := [(279, (.i p131))]) ⟨rfl, trivial⟩⟩
                            ·refine Ans.mk rfl rfl fun a H => ?_
                             replace H := H.weaken (L' := [(279, (.i p131))]) ⟨rfl, trivial⟩
                             refine ww H <| bn rfl rfl r_eql rfl <| fun a H => c_nil ⟨rfl, rfl, H.weaken (L' := [(280, (.bool (decide (p131 = 0))))]) ⟨rfl, trivial⟩⟩
                            ·refine Ans.mk rfl rfl fun a H => ?_
                             replace H := H.weaken (L' := [(5, (.pointer (some (blk b13))))]) ⟨rfl, trivial⟩
                             obtain ⟨hc327, hc329⟩ := h330 none w305 hr
                             refine ww H <| lN (l := [(.i C326), (.i C328)]) rfl agg_27 rfl ⟨hc327, hc329, trivial⟩ rfl <| fun a H => c_nil ⟨rfl, rfl, H.weaken (L' := [(281, (.agg #[(.i C326), (.i C328)]))]) ⟨rfl, trivial⟩⟩
                            ·refine ⟨_, rfl, fun a H => ?_⟩
                             replace H := H.weaken (L' := [(280, (.bool (decide (p131 = 0)))), (281, (.agg #[(.i C326), (.i C328)]))]) ⟨rfl, rfl, trivial⟩
                             have h := h418 none w305 hr
                             refine ww H <| cl2 h body_20 rfl rfl eP fun C332 C333 w331 h => fun a H => c_nil <| effQ.ok (v := (.agg #[(.i C332), (.i C333)])) (H.weaken (L' := [(282, (.agg #[(.i C332), (.i C333)]))]) ⟨rfl, trivial⟩) ⟨[(0, (.pointer N44)), (1, (.pointer (some ((blk b299).add 0)))), (2, (.i l306)), (3, (.i (wr .i64 (l306 + 1)))), (4, (.pointer (some ((blk b299).add 1)))), (5, (.i l309)), (6, (.pointer (some ((blk b299).add 2)))), (7, (.i l312)), (8, (.pointer (some ((blk b299).add 3)))), (9, (.i l315)), (10, (.pointer (some ((blk b299).add 4)))), (11, (.string l318)), (12, (.pointer (some ((blk b299).add 5)))), (13, (.agg #[(.i C321), (.i C323)])), (14, (.i p131)), (15, (.bool (decide (p131 = 0)))), (16, (.agg #[(.i C326), (.i C328)])), (17, (.agg #[(.i C332), (.i C333)])), (18, (.agg #[(.i (wr .i64 (l306 + 1))), (.i l309), (.i l312), (.i l315), (.string l318), (.i C321), (.i C323), (.i C332), (.i C333), (.bool false), Slc.nil.v]))], ⟨rfl, rfl, rfl, rfl, rfl, rfl, rfl, rfl, rfl, rfl, rfl, rfl, rfl, rfl, rfl, rfl, rfl, rfl, trivial⟩, ?_⟩
                             have hx := st_17 C332 C333 w331 h
                             rw [h423] at hx
                             exact hx
                            ·refine ⟨_, rfl, fun a H => ?_⟩
                             replace H := H.weaken (L' := []) trivial
                             have h := h420 none none w305 hr
                             refine ww H <| al h zero_60 rfl rfl rfl fun b351 w352 n353 h => fun a H => c_nil <| effQ.ok (v := (.pointer (some (blk b351)))) (H.weaken (L' := [(28, (.pointer (some (blk b351))))]) ⟨rfl, trivial⟩) ⟨[(0, (.pointer N44)), (1, (.pointer (some ((blk b299).add 0)))), (2, (.i l306)), (3, (.i (wr .i64 (l306 + 1)))), (4, (.pointer (some ((blk b299).add 1)))), (5, (.i l309)), (6, (.pointer (some ((blk b299).add 2)))), (7, (.i l312)), (8, (.pointer (some ((blk b299).add 3)))), (9, (.i l315)), (10, (.pointer (some ((blk b299).add 4)))), (11, (.string l318)), (12, (.pointer (some ((blk b299).add 5)))), (13, (.agg #[(.i C321), (.i C323)])), (14, (.i p131)), (15, (.bool (decide (p131 = 0)))), (16, (.agg #[(.i C326), (.i C328)])), (24, (.pointer (some (blk b351))))], ⟨rfl, rfl, rfl, rfl, rfl, rfl, rfl, rfl, rfl, rfl, rfl, rfl, rfl, rfl, rfl, rfl, rfl, rfl, trivial⟩, ?_⟩
                             have hx := st_24 b351 w352 h
                             rw [h423] at hx
                             exact hx
                           exact st_ _ h424
                       ·refine c_exit ?_
                        first | (simp only [Exit.then, Exit.inBlock, ↓reduceIte]; fail_if_success simp only [Nat.reduceEqDiff]) | simp only [Exit.then, Exit.inBlock, ↓reduceIte, Nat.reduceEqDiff]
                        exact h142 _ _ _ h (H.weaken ⟨rfl, rfl, rfl, rfl, rfl, rfl, rfl, rfl, rfl, rfl, trivial⟩)
                  ·refine c_exit ?_
                   first | (simp only [Exit.then, Exit.inBlock, ↓reduceIte]; fail_if_success simp only [Nat.reduceEqDiff]) | simp only [Exit.then, Exit.inBlock, ↓reduceIte, Nat.reduceEqDiff]
                   exact hK128 _ _ <| sr fun K439 hK439 => ww H <| ag rfl rfl <| fun a H => nk hK439 <| c_ret <| e_ret1 H rfl rfl h
              clear h471
              obtain ⟨C452, hc453, C454, hc455, h⟩ := h
              refine sr fun K451 hK451 => ww H <| lN (l := [(.i C452), (.i C454)]) rfl agg_27 rfl ⟨hc453, hc455, trivial⟩ rfl <| cl1 h body_15 rfl rfl eP fun V457 w456 h => fun a H => s_un H rfl rfl r_not (lt_ rfl) fun a H => ?_
              obtain ⟨x462, h463, h464, h⟩ := h
              refine ww H <| mv rfl rfl <| fun a H => g_join (n := 340) [(118, (.bool x462)), (1, (.string k6)), (3, (.pointer (some (blk b10)))), (5, (.pointer (some (blk b13)))), (7, (.pointer (some a20))), (8, (.pointer N44)), (10, (.i S54)), (12, (.pointer N62)), (17, v95.v)] (.succ (.succ (.succ (.succ (.zero _))))) ?_ ?_
              ·intro h459
               try clear h
               rcases Bool.eq_false_or_eq_true (!V457) with h458 | h458
               ·replace H := H.ch (t := 114) (b := true) rfl h458
                refine ww H <| sk rfl rfl rfl rfl <| sk rfl rfl rfl rfl <| sk rfl rfl rfl rfl <| pT rfl rfl rfl <| fun a H => ?_
                replace h := h464 h458
                subst h
                exact h459 _ (H.weaken ⟨rfl, rfl, rfl, rfl, rfl, rfl, rfl, rfl, rfl, trivial⟩)
               ·replace H := H.ch (t := 114) (b := false) rfl h458
                replace h := h463 h458
                obtain ⟨l460, hc461, h⟩ := h
                refine ww H <| gfd rfl rfl rfl fld_27_0 rfl <| gld rfl rfl rfl one_2 hc461 rfl <| gbn rfl rfl rfl rfl r_eql rfl <| pF rfl rfl rfl <| fun a H => ?_
                subst h
                exact h459 _ (H.weaken ⟨rfl, rfl, rfl, rfl, rfl, rfl, rfl, rfl, rfl, trivial⟩)
              ·clear H a
               clear h463 h464
               intro a H
               refine nk hK451 <| cd H rfl h (fun h465 h => ?_) (fun h465 h => ?_)
               ·exact c_reg <| s_build H rfl (by rw [H.parts (vs := [(0, (.i 3)), (1, (.i 3))]) rfl]; exact bd_27_ii640_ii641 _ 3 3) (lt_ rfl) fun a H => ww H <| sN h rfl rfl agg_27 rfl rfl fun w466 h => fun a H => c_nil <| h450 _ _ h (H.weaken ⟨rfl, rfl, rfl, rfl, rfl, rfl, rfl, rfl, trivial⟩)
               ·exact c_skip <| h450 _ _ h (H.weaken ⟨rfl, rfl, rfl, rfl, rfl, rfl, rfl, rfl, trivial⟩)
             clear h491
             obtain ⟨l474, hc475, h⟩ := h
             refine sr fun K473 hK473 => ww H <| fd rfl fld_25_2 rfl <| ld rfl one_22 hc475 rfl <| bl (vs := [l474.v]) rfl rfl (fun cs => b_lenS (z := l474) sl_22) <| bn rfl rfl r_gtr rfl <| fun a H => nk hK473 <| cd H rfl h (fun h476 h => ?_) (fun h476 h => ?_)
             ·obtain ⟨l477, hc478, a479, h480, h481, h482, h⟩ := h
              refine c_reg <| ww H <| fd rfl fld_25_2 rfl <| ld rfl one_22 hc478 rfl <| fun a H => s_idxS (s := l477) H rfl rfl rfl slc_22 h480 h481 h482 (lt_ rfl) fun a H => ?_
              obtain ⟨l483, hc484, h⟩ := h
              exact ww H <| ld rfl one_49 hc484 rfl <| cl1 h body_14 rfl rfl eP fun v486 w485 h => ag rfl rfl <| fun a H => c_nil <| h472 _ _ _ h (H.weaken ⟨rfl, rfl, rfl, rfl, rfl, rfl, rfl, rfl, trivial⟩)
             ·exact c_skip <| h472 _ _ _ h (H.weaken ⟨rfl, rfl, rfl, rfl, rfl, rfl, rfl, rfl, trivial⟩)
end Go.Proofs.YtabifopphhpciaaGreatDoor
