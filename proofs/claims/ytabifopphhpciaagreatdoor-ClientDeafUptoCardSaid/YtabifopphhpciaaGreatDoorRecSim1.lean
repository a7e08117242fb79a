/-
  The conditions give the machine's calls; printed by vcgen.py.
-/
import Derived.Test.YtabifopphhpciaaGreatDoorRecVc
namespace Go.Proofs.YtabifopphhpciaaGreatDoor
open Go Go.Vc
set_option maxRecDepth 100000
set_option maxHeartbeats 4000000
theorem sim_sherdlaw18_ClientDeaf (N1 K2 : Int) (V3 I4 P5 n6 : Slc) (p7 : Bool) (w : World) (Q : Ending → World → Prop) (h : vc_sherdlaw18_ClientDeaf N1 K2 V3 I4 P5 n6 p7 w Q) : Calls PP F_sherdlaw18_ClientDeaf #[(.agg #[(.i N1), (.i K2), V3.v, I4.v, P5.v]), n6.v, (.bool p7)] w Q := by
 unfold vc_sherdlaw18_ClientDeaf at h
 have eP {L : List (Nat × Value)} (c : List PanicEntry) (w' : World) (a : Act) (h : Q (.panicked c) w') (H : Has 253 [] a L) : bodyPost PP Tryz.f5 Q (.panic c) a w' := e_panic H h
 refine enter (n := 253) Tryz.func5 rfl rfl (le_ rfl) fun a H => sr fun K8 hK8 => ww H <| bx h rfl rfl rfl rfl fun b9 w10 n11 h => ag rfl rfl <| fun a H => nk hK8 <| sr fun K12 hK12 => ww H <| fd rfl fld_25_0 rfl <| fun a H => s_load (v := (.i N1)) H rfl rfl one_3 (n11.cell (i := 0) rfl) (lt_ rfl) fun a H => ww H <| fd rfl fld_25_1 rfl <| fun a H => s_load (v := (.i K2)) H rfl rfl one_3 (n11.cell (i := 1) rfl) (lt_ rfl) fun a H => ww H <| cl1 h body_7 rfl rfl eP fun t14 w13 h => ag rfl rfl <| fun a H => nk hK12 <| c_seq fun K15 hK15 => ?_
 replace H := H.weaken (L' := [(1, n6.v), (2, (.bool p7)), (3, (.pointer (some (blk b9)))), (7, (.pointer t14))]) ⟨rfl, rfl, rfl, rfl, trivial⟩
 obtain ⟨a16, h17, h⟩ := h
 revert H
 revert h
 subst h17
 intro h H
 obtain ⟨N18, hc19, K20, hc21, D22, hc23, N24, hc25, K26, hc27, V28, hc29, I30, hc31, P32, hc33, h⟩ := h
 refine c_any (V := [(0, (.pointer (some a16))), (1, (.pointer (some a16))), (2, (.pointer (some (a16.add 0)))), (3, (.agg #[(.i N18), (.i K20), (.i D22)])), (4, (.agg #[(.i N24), (.i K26), V28.v, I30.v, P32.v]))]) (⟨[[], [0], [1], [2], [], [4], [3, 5], [6], [7], [7], [0, 1, 2, 3, 4, 5, 6, 7, 8], [0, 1, 2, 3, 4, 5, 6, 7, 8, 9, 10]], [some 34, some 35, some 36, some 37, some 38, some 39, some 40, some 33, some 41, some 42, some 8, some 9], [5, 6], [0, 0, 0, 0, 0, 0, 1, 2, 2, 2, 2, 2], [1, 1, 1, 1, 0, 1, 2, 2, 2, 2, 2, 2]⟩ : Rg) [(1, n6.v), (2, (.bool p7)), (3, (.pointer (some (blk b9)))), (7, (.pointer (some a16)))] mixed (by kernel_rfl) H <| Stg.eff [0, 1, 2, 3, 4] (by kernel_rfl) rfl (.cons ?_ (.cons ?_ (.cons ?_ (.cons ?_ (.cons ?_ .nil))))) ?_
 ·exact Aw rfl rfl <| mv rfl rfl <| An rfl
 ·exact Aw rfl rfl <| nl rfl rfl <| An rfl
 ·exact Aw rfl rfl <| fd rfl fld_38_0 rfl <| An rfl
 ·exact Aw rfl rfl <| lN (l := [(.i N18), (.i K20), (.i D22)]) rfl agg_35 rfl ⟨hc19, hc21, hc23, trivial⟩ rfl <| An rfl
 ·exact Aw rfl rfl <| lN (l := [(.i N24), (.i K26), V28.v, I30.v, P32.v]) rfl agg_25 rfl ⟨hc25, hc27, hc29, hc31, hc33, trivial⟩ rfl <| An rfl
 ·refine cl1 h body_9 rfl rfl eP fun i35 w34 h => fun a H => ?_
  obtain ⟨hc36, hc37, hc38, h⟩ := h
  refine c_nil <| effQ.go [] H rfl rfl <| Stg.eff [0, 1, 2, 3] (by kernel_rfl) rfl (.cons ?_ (.cons ?_ (.cons ?_ (.cons ?_ .nil)))) ?_
  ·exact Aw rfl rfl <| mv rfl rfl <| An rfl
  ·exact Aw rfl rfl <| nl rfl rfl <| An rfl
  ·exact Aw rfl rfl <| fd rfl fld_38_0 rfl <| An rfl
  ·exact Aw rfl rfl <| lN (l := [(.i N18), (.i K20), (.i D22)]) rfl agg_35 rfl ⟨hc36, hc37, hc38, trivial⟩ rfl <| An rfl
  ·refine cl2 h body_8 rfl rfl eP fun N40 N41 w39 h => fun a H => c_nil <| effQ.go [(7, (.tuple #[(.pointer N40), (.i N41)])), (8, (.pointer N40)), (9, (.i N41)), (10, (.pointer N40)), (11, (.i N41))] H rfl rfl <| Stg.fin [7, 8, 9, 10, 11] (by kernel_rfl) (.cons ?_ (.cons ?_ (.cons ?_ (.cons ?_ (.cons ?_ .nil))))) ?_
   ·exact Aw rfl rfl <| mv rfl rfl <| An rfl
   ·exact Aw rfl rfl <| ex rfl rfl rfl <| An rfl
   ·exact Aw rfl rfl <| ex rfl rfl rfl <| An rfl
   ·exact Aw rfl rfl <| ag rfl rfl <| An rfl
   ·exact Aw rfl rfl <| ag rfl rfl <| An rfl
   ·intro a H
    replace H := H.weaken (L' := [(1, n6.v), (2, (.bool p7)), (3, (.pointer (some (blk b9)))), (7, (.pointer (some a16))), (8, (.pointer N40)), (9, (.i N41))]) ⟨rfl, rfl, rfl, rfl, rfl, rfl, trivial⟩
    refine hK15 _ _ <| c_seq fun K42 hK42 => ?_
    replace H := H.weaken (L' := [(1, n6.v), (2, (.bool p7)), (3, (.pointer (some (blk b9)))), (7, (.pointer (some a16))), (8, (.pointer N40)), (9, (.i N41))]) ⟨rfl, rfl, rfl, rfl, rfl, rfl, trivial⟩
    obtain ⟨N43, hc44, K45, hc46, D47, hc48, N49, hc50, K51, hc52, V53, hc54, I55, hc56, P57, hc58, h⟩ := h
    refine c_any (V := [(0, (.pointer (some a16))), (1, (.pointer (some a16))), (2, (.pointer (some (a16.add 0)))), (3, (.agg #[(.i N43), (.i K45), (.i D47)])), (4, (.agg #[(.i N49), (.i K51), V53.v, I55.v, P57.v]))]) (⟨[[], [0], [1], [2], [], [4], [3, 5], [6], [7], [7], [0, 1, 2, 3, 4, 5, 6, 7, 8], [0, 1, 2, 3, 4, 5, 6, 7, 8, 9, 10]], [some 44, some 45, some 46, some 47, some 48, some 49, some 50, some 43, some 51, some 52, some 10, some 11], [5, 6], [0, 0, 0, 0, 0, 0, 1, 2, 2, 2, 2, 2], [1, 1, 1, 1, 0, 1, 2, 2, 2, 2, 2, 2]⟩ : Rg) [(1, n6.v), (2, (.bool p7)), (3, (.pointer (some (blk b9)))), (7, (.pointer (some a16))), (8, (.pointer N40)), (9, (.i N41))] mixed (by kernel_rfl) H <| Stg.eff [0, 1, 2, 3, 4] (by kernel_rfl) rfl (.cons ?_ (.cons ?_ (.cons ?_ (.cons ?_ (.cons ?_ .nil))))) ?_
    ·exact Aw rfl rfl <| mv rfl rfl <| An rfl
    ·exact Aw rfl rfl <| nl rfl rfl <| An rfl
    ·exact Aw rfl rfl <| fd rfl fld_38_0 rfl <| An rfl
    ·exact Aw rfl rfl <| lN (l := [(.i N43), (.i K45), (.i D47)]) rfl agg_35 rfl ⟨hc44, hc46, hc48, trivial⟩ rfl <| An rfl
    ·exact Aw rfl rfl <| lN (l := [(.i N49), (.i K51), V53.v, I55.v, P57.v]) rfl agg_25 rfl ⟨hc50, hc52, hc54, hc56, hc58, trivial⟩ rfl <| An rfl
    ·refine cl1 h body_9 rfl rfl eP fun i60 w59 h => fun a H => ?_
     obtain ⟨hc61, hc62, hc63, h⟩ := h
     refine c_nil <| effQ.go [] H rfl rfl <| Stg.eff [0, 1, 2, 3] (by kernel_rfl) rfl (.cons ?_ (.cons ?_ (.cons ?_ (.cons ?_ .nil)))) ?_
     ·exact Aw rfl rfl <| mv rfl rfl <| An rfl
     ·exact Aw rfl rfl <| nl rfl rfl <| An rfl
     ·exact Aw rfl rfl <| fd rfl fld_38_0 rfl <| An rfl
     ·exact Aw rfl rfl <| lN (l := [(.i N43), (.i K45), (.i D47)]) rfl agg_35 rfl ⟨hc61, hc62, hc63, trivial⟩ rfl <| An rfl
     ·refine cl2 h body_8 rfl rfl eP fun N65 N66 w64 h => fun a H => c_nil <| effQ.go [(7, (.tuple #[(.pointer N65), (.i N66)])), (8, (.pointer N65)), (9, (.i N66)), (10, (.pointer N65)), (11, (.i N66))] H rfl rfl <| Stg.fin [7, 8, 9, 10, 11] (by kernel_rfl) (.cons ?_ (.cons ?_ (.cons ?_ (.cons ?_ (.cons ?_ .nil))))) ?_
      ·exact Aw rfl rfl <| mv rfl rfl <| An rfl
      ·exact Aw rfl rfl <| ex rfl rfl rfl <| An rfl
      ·exact Aw rfl rfl <| ex rfl rfl rfl <| An rfl
      ·exact Aw rfl rfl <| ag rfl rfl <| An rfl
      ·exact Aw rfl rfl <| ag rfl rfl <| An rfl
      ·intro a H
       replace H := H.weaken (L' := [(1, n6.v), (2, (.bool p7)), (7, (.pointer (some a16))), (8, (.pointer N40)), (9, (.i N41)), (10, (.pointer N65)), (11, (.i N66))]) ⟨rfl, rfl, rfl, rfl, rfl, rfl, rfl, trivial⟩
       refine hK42 _ _ <| c_seq fun K67 hK67 => sr fun K68 hK68 => ww H <| cl1 h body_12 rfl rfl eP fun a70 w69 h => fun a H => s_un H rfl rfl r_not (lt_ rfl) fun a H => ww H <| mv rfl rfl <| fun a H => g_join (n := 253) [(58, (.bool ((!a70) || (decide (N41 ≠ 0))))), (1, n6.v), (2, (.bool p7)), (7, (.pointer (some a16))), (8, (.pointer N40)), (10, (.pointer N65)), (11, (.i N66))] (.succ (.succ (.succ (.zero _)))) ?_ ?_
       ·intro h72
        try clear h
        rcases Bool.eq_false_or_eq_true (!a70) with h71 | h71
        ·replace H := H.ch (t := 55) (b := true) rfl h71
         exact ww H <| sk rfl rfl rfl rfl <| sk rfl rfl rfl rfl <| pT rfl rfl rfl <| fun a H => h72 _ (H.weaken ⟨by rw [h71]; rfl, rfl, rfl, rfl, rfl, rfl, rfl, trivial⟩)
        ·replace H := H.ch (t := 55) (b := false) rfl h71
         exact ww H <| gmv rfl rfl rfl rfl <| gbn rfl rfl rfl rfl r_neq rfl <| pF rfl rfl rfl <| fun a H => h72 _ (H.weaken ⟨by rw [h71]; rfl, rfl, rfl, rfl, rfl, rfl, rfl, trivial⟩)
       ·clear H a
        intro a H
        refine ww H <| mv rfl rfl <| fun a H => g_join (n := 253) [(62, (.bool (((!a70) || (decide (N41 ≠ 0))) || (decide (N66 ≠ 0))))), (1, n6.v), (2, (.bool p7)), (7, (.pointer (some a16))), (8, (.pointer N40)), (10, (.pointer N65))] (.succ (.succ (.succ (.zero _)))) ?_ ?_
        ·intro h74
         try clear h
         rcases Bool.eq_false_or_eq_true ((!a70) || (decide (N41 ≠ 0))) with h73 | h73
         ·replace H := H.ch (t := 59) (b := true) rfl h73
          exact ww H <| sk rfl rfl rfl rfl <| sk rfl rfl rfl rfl <| pT rfl rfl rfl <| fun a H => h74 _ (H.weaken ⟨by rw [h73]; rfl, rfl, rfl, rfl, rfl, rfl, trivial⟩)
         ·replace H := H.ch (t := 59) (b := false) rfl h73
          exact ww H <| gmv rfl rfl rfl rfl <| gbn rfl rfl rfl rfl r_neq rfl <| pF rfl rfl rfl <| fun a H => h74 _ (H.weaken ⟨by rw [h73]; rfl, rfl, rfl, rfl, rfl, rfl, trivial⟩)
        ·clear H a
         intro a H
         refine ww H <| mv rfl rfl <| fun a H => g_join (n := 253) [(66, (.bool ((((!a70) || (decide (N41 ≠ 0))) || (decide (N66 ≠ 0))) || N40.isNone))), (1, n6.v), (2, (.bool p7)), (7, (.pointer (some a16))), (8, (.pointer N40)), (10, (.pointer N65))] (.succ (.succ (.succ (.zero _)))) ?_ ?_
         ·intro h76
          try clear h
          rcases Bool.eq_false_or_eq_true (((!a70) || (decide (N41 ≠ 0))) || (decide (N66 ≠ 0))) with h75 | h75
          ·replace H := H.ch (t := 63) (b := true) rfl h75
           exact ww H <| sk rfl rfl rfl rfl <| sk rfl rfl rfl rfl <| pT rfl rfl rfl <| fun a H => h76 _ (H.weaken ⟨by rw [h75]; rfl, rfl, rfl, rfl, rfl, rfl, trivial⟩)
          ·replace H := H.ch (t := 63) (b := false) rfl h75
           exact ww H <| gmv rfl rfl rfl rfl <| gbn rfl rfl rfl rfl (r_eqP0 ptr_30) rfl <| pF rfl rfl rfl <| fun a H => h76 _ (H.weaken ⟨by rw [h75]; rfl, rfl, rfl, rfl, rfl, rfl, trivial⟩)
         ·clear H a
          intro a H
          refine ww H <| mv rfl rfl <| fun a H => g_join (n := 253) [(70, (.bool (((((!a70) || (decide (N41 ≠ 0))) || (decide (N66 ≠ 0))) || N40.isNone) || N65.isNone))), (1, n6.v), (2, (.bool p7)), (7, (.pointer (some a16))), (8, (.pointer N40)), (10, (.pointer N65))] (.succ (.succ (.succ (.zero _)))) ?_ ?_
          ·intro h78
           try clear h
           rcases Bool.eq_false_or_eq_true ((((!a70) || (decide (N41 ≠ 0))) || (decide (N66 ≠ 0))) || N40.isNone) with h77 | h77
           ·replace H := H.ch (t := 67) (b := true) rfl h77
            exact ww H <| sk rfl rfl rfl rfl <| sk rfl rfl rfl rfl <| pT rfl rfl rfl <| fun a H => h78 _ (H.weaken ⟨by rw [h77]; rfl, rfl, rfl, rfl, rfl, rfl, trivial⟩)
           ·replace H := H.ch (t := 67) (b := false) rfl h77
            exact ww H <| gmv rfl rfl rfl rfl <| gbn rfl rfl rfl rfl (r_eqP0 ptr_30) rfl <| pF rfl rfl rfl <| fun a H => h78 _ (H.weaken ⟨by rw [h77]; rfl, rfl, rfl, rfl, rfl, rfl, trivial⟩)
          ·clear H a
           intro a H
           refine nk hK68 <| cd H rfl h (fun h79 h => ?_) (fun h79 h => ?_)
           ·exact sr fun K80 hK80 => ww H <| ag rfl rfl <| fun a H => nk hK80 <| c_ret <| e_ret1 H rfl rfl h
           ·refine c_skip <| hK67 _ _ <| sr fun K81 hK81 => ww H <| ag rfl rfl <| fun a H => nk hK81 <| c_seq fun K82 hK82 => ?_
            obtain ⟨R86, h, h650⟩ := h
            have h603 : ∀ (a : Act) (e83 : Int) (f84 : Int) (l85 : Slc) (w87 : World), R86 e83 f84 l85 w87 → Has 253 [] a [(1, n6.v), (7, (.pointer (some a16))), (8, (.pointer N40)), (9, (.i e83)), (10, (.pointer N65)), (11, (.i f84)), (12, l85.v)] → K82 a w87 := by
             clear h
             intro a e83 f84 l85 w87 h H
             replace h := h650 e83 f84 l85 w87 h
             refine hK82 _ _ <| c_seq fun K88 hK88 => sr fun K89 hK89 => ww H <| mv rfl rfl <| bn rfl rfl r_neq rfl <| mv rfl rfl <| fun a H => g_join (n := 253) [(105, (.bool ((decide (e83 ≠ 0)) || (decide (f84 ≠ 0))))), (1, n6.v), (7, (.pointer (some a16))), (8, (.pointer N40)), (10, (.pointer N65)), (12, l85.v)] (.succ (.succ (.succ (.zero _)))) ?_ ?_
             ·intro h91
              try clear h
              rcases Bool.eq_false_or_eq_true (decide (e83 ≠ 0)) with h90 | h90
              ·replace H := H.ch (t := 102) (b := true) rfl h90
               exact ww H <| sk rfl rfl rfl rfl <| sk rfl rfl rfl rfl <| pT rfl rfl rfl <| fun a H => h91 _ (H.weaken ⟨by rw [h90]; rfl, rfl, rfl, rfl, rfl, rfl, trivial⟩)
              ·replace H := H.ch (t := 102) (b := false) rfl h90
               exact ww H <| gmv rfl rfl rfl rfl <| gbn rfl rfl rfl rfl r_neq rfl <| pF rfl rfl rfl <| fun a H => h91 _ (H.weaken ⟨by rw [h90]; rfl, rfl, rfl, rfl, rfl, rfl, trivial⟩)
             ·clear H a
              intro a H
              refine nk hK89 <| cd H rfl h (fun h92 h => ?_) (fun h92 h => ?_)
              ·exact sr fun K93 hK93 => ww H <| ag rfl rfl <| fun a H => nk hK93 <| c_ret <| e_ret1 H rfl rfl h
              ·refine c_skip <| hK88 _ _ <| sr fun K94 hK94 => ww H <| ag rfl rfl <| fun a H => nk hK94 <| c_seq fun K95 hK95 => sr fun K96 hK96 => ww H <| ag rfl rfl <| fun a H => nk hK96 <| c_block ?_
               obtain ⟨I101, m102, h601, h602⟩ := h
               refine c_loop (σ := Slc × Int × Int) (fun z w => I101 z.1 z.2.1 z.2.2 w) (fun z w => m102 z.1 z.2.1 z.2.2 w) (fun z => [(1, n6.v), (7, (.pointer (some a16))), (8, (.pointer N40)), (10, (.pointer N65)), (12, z.1.v), (13, (.i z.2.1)), (14, (.i z.2.2))]) (l85, 0, 0) h601 (H.weaken ⟨rfl, rfl, rfl, rfl, rfl, rfl, rfl, trivial⟩) ?_
               clear H h601
               rintro ⟨l97, a98, n99⟩ a w100 h H
               replace h := h602 l97 a98 n99 w100 h
               clear h602
               replace H : Has 253 [] a [(1, n6.v), (7, (.pointer (some a16))), (8, (.pointer N40)), (10, (.pointer N65)), (12, l97.v), (13, (.i a98)), (14, (.i n99))] := H
               refine c_seq fun K103 hK103 => sr fun K104 hK104 => ww H <| mv rfl rfl <| bl (vs := [l97.v]) rfl rfl (fun cs => b_lenS (z := l97) sl_46) <| bn rfl rfl r_gtr rfl <| mv rfl rfl <| fun a H => g_join (n := 253) [(112, (.bool ((decide (0 < (l97.l : Int))) && (decide (n99 < 4096))))), (1, n6.v), (7, (.pointer (some a16))), (8, (.pointer N40)), (10, (.pointer N65)), (12, l97.v), (13, (.i a98)), (14, (.i n99))] (.succ (.succ (.succ (.zero _)))) ?_ ?_
               ·intro h106
                try clear h
                rcases Bool.eq_false_or_eq_true (decide (0 < (l97.l : Int))) with h105 | h105
                ·replace H := H.ch (t := 109) (b := true) rfl h105
                 exact ww H <| gmv rfl rfl rfl rfl <| gbn rfl rfl rfl rfl r_lss rfl <| pT rfl rfl rfl <| fun a H => h106 _ (H.weaken ⟨by rw [h105]; rfl, rfl, rfl, rfl, rfl, rfl, rfl, rfl, trivial⟩)
                ·replace H := H.ch (t := 109) (b := false) rfl h105
                 exact ww H <| sk rfl rfl rfl rfl <| sk rfl rfl rfl rfl <| pF rfl rfl rfl <| fun a H => h106 _ (H.weaken ⟨by rw [h105]; rfl, rfl, rfl, rfl, rfl, rfl, rfl, rfl, trivial⟩)
               ·clear H a
                intro a H
                refine nk hK104 <| cd H rfl h (fun h107 h => ?_) (fun h107 h => ?_)
                ·refine c_skip <| hK103 _ _ <| c_seq fun K108 hK108 => ?_
                 obtain ⟨R111, h, h599⟩ := h
                 have h113 : ∀ (a : Act) (l109 : Slc) (a110 : Int) (w112 : World), R111 l109 a110 w112 → Has 253 [] a [(1, n6.v), (7, (.pointer (some a16))), (8, (.pointer N40)), (10, (.pointer N65)), (12, l109.v), (13, (.i a110)), (14, (.i n99))] → K108 a w112 := by
                  clear h
                  intro a l109 a110 w112 h H
                  replace h := h599 l109 a110 w112 h
                  refine hK108 _ _ <| c_reg <| ww H <| mv rfl rfl <| bn rfl rfl r_add rfl <| ag rfl rfl <| fun a H => c_nil <| Exists.intro (l109, a110, wr .i64 (n99 + 1)) ⟨h.1, h.2, H.weaken ⟨rfl, rfl, rfl, rfl, rfl, rfl, rfl, trivial⟩⟩
                 clear h599
                 obtain ⟨a115, h116, h117, h118, h⟩ := h
                 refine c_block <| sr fun K114 hK114 => ww H <| mv rfl rfl <| fun a H => s_idxS (s := l97) H rfl rfl rfl slc_46 h116 h117 h118 (lt_ rfl) fun a H => ?_
                 obtain ⟨K119, hc120, C121, hc122, S123, hc124, O125, hc126, K127, hc128, C129, hc130, C131, hc132, C133, hc134, C135, hc136, H137, hc138, D139, hc140, h⟩ := h
                 refine ww H <| lN (l := [(.i K119), (.i C121), (.i S123), (.i O125), (.string K127), (.i C129), (.i C131), (.i C133), (.i C135), (.bool H137), D139.v]) rfl agg_56 rfl ⟨hc120, hc122, hc124, hc126, hc128, hc130, hc132, hc134, hc136, hc138, hc140, trivial⟩ rfl <| al h zero_56 rfl rfl rfl fun b141 w142 n143 h => sN h rfl rfl agg_56 rfl rfl fun w144 h => fun a H => ?_
                 obtain ⟨h146, h147, h148, h⟩ := h
                 refine nk hK114 <| sr fun K145 hK145 => ww H <| mv rfl rfl <| fun a H => s_slice (v := (Slc.v (l97.cut 11 (Int.toNat (1)) (Int.toNat ((l97.l : Int)))))) H rfl rfl ⟨rfl, rfl⟩ ⟨rfl, rfl⟩ ⟨rfl, rfl⟩ (r_sliceSlc (lo := (some (.i64, 1))) (hi := none) slc_46 rfl rfl h146 h147 h148) (lt_ rfl) fun a H => ww H <| ag rfl rfl <| fun a H => nk hK145 <| c_seq fun K149 hK149 => c_seq fun K150 hK150 => c_regD mixed (by kernel_rfl) <| z_fld H rfl rfl fld_56_2 (lt_ rfl) fun a H => ?_
                 obtain ⟨l152, hc153, h⟩ := h
                 refine z_load (v := (.i l152)) H rfl rfl one_3 hc153 (lt_ rfl) fun a H => z_bin H rfl rfl rfl r_lss (lt_ rfl) fun a H => z_move H rfl rfl (lt_ rfl) fun a H => ?_
                 obtain ⟨x160, h161, h162, h⟩ := h
                 refine zg_join (n := 253) [(132, (.bool x160)), (1, n6.v), (7, (.pointer (some a16))), (8, (.pointer N40)), (10, (.pointer N65)), (12, (Slc.v (l97.cut 11 (Int.toNat (1)) (Int.toNat ((l97.l : Int)))))), (13, (.i a98)), (14, (.i n99)), (15, (.pointer (some (blk b141))))] (.succ (.succ (.succ (.succ (.succ (.succ (.succ (.succ (.succ (.zero _)))))))))) ?_ ?_
                 ·intro h155
                  try clear h
                  rcases Bool.eq_false_or_eq_true (decide (l152 < 0)) with h154 | h154
                  ·replace H := H.ch (t := 123) (b := true) rfl h154
                   iterate 8 refine z_skip H (wantN H rfl rfl rfl) rfl (lt_ rfl) fun a H => ?_
                   refine z_pickT H rfl rfl rfl (lt_ rfl) fun a H => ?_
                   replace h := h162 h154
                   subst h
                   exact h155 _ (H.weaken ⟨rfl, rfl, rfl, rfl, rfl, rfl, rfl, rfl, rfl, trivial⟩)
                  ·replace H := H.ch (t := 123) (b := false) rfl h154
                   replace h := h161 h154
                   refine z_fld H (wantG H rfl rfl) rfl fld_56_2 (lt_ rfl) fun a H => ?_
                   obtain ⟨l156, hc157, h⟩ := h
                   refine z_load (v := (.i l156)) H (wantG H rfl rfl) rfl one_3 hc157 (lt_ rfl) fun a H => z_move H (wantG H rfl rfl) rfl (lt_ rfl) fun a H => z_nil H (wantG H rfl rfl) rfl (lt_ rfl) fun a H => z_fld H (wantG H rfl rfl) rfl fld_38_1 (lt_ rfl) fun a H => ?_
                   obtain ⟨l158, hc159, h⟩ := h
                   refine z_load (v := l158.v) H (wantG H rfl rfl) rfl one_36 hc159 (lt_ rfl) fun a H => z_blt H (wantG H rfl rfl) (H.args (vs := [l158.v]) rfl) (lt_ rfl) (fun cs w => b_lenS (z := l158) sl_36) fun a H => z_bin H (wantG H rfl rfl) rfl rfl r_geq (lt_ rfl) fun a H => z_pickF H rfl rfl rfl (lt_ rfl) fun a H => ?_
                   subst h
                   exact h155 _ (H.weaken ⟨rfl, rfl, rfl, rfl, rfl, rfl, rfl, rfl, rfl, trivial⟩)
                 ·clear H a
                  clear h161 h162
                  intro a H
                  refine wpQuiet_nil ?_
                  rintro _ ⟨k151, rfl⟩
                  replace h := h k151
                  refine hK150 _ _ <| cd H rfl h (fun h163 h => ?_) (fun h163 h => ?_)
                  ·exact sr fun K164 hK164 => ww H <| ag rfl rfl <| fun a H => nk hK164 <| c_ret <| e_ret1 H rfl rfl h
                  ·refine c_skip <| hK149 _ _ <| c_seq fun K165 hK165 => sr fun K166 hK166 => ww H <| ag rfl rfl <| fun a H => nk hK166 <| c_block ?_
                   obtain ⟨I170, m171, h597, h598⟩ := h
                   refine c_loop (σ := Int × Int) (fun z w => I170 z.1 z.2 w) (fun z w => m171 z.1 z.2 w) (fun z => [(1, n6.v), (7, (.pointer (some a16))), (8, (.pointer N40)), (10, (.pointer N65)), (12, (Slc.v (l97.cut 11 (Int.toNat (1)) (Int.toNat ((l97.l : Int)))))), (13, (.i z.1)), (14, (.i n99)), (15, (.pointer (some (blk b141)))), (16, (.i z.2))]) (a98, 0) h597 (H.weaken ⟨rfl, rfl, rfl, rfl, rfl, rfl, rfl, rfl, rfl, trivial⟩) ?_
                   clear H h597
                   rintro ⟨a167, k168⟩ a w169 h H
                   replace h := h598 a167 k168 w169 h
                   clear h598
                   replace H : Has 253 [] a [(1, n6.v), (7, (.pointer (some a16))), (8, (.pointer N40)), (10, (.pointer N65)), (12, (Slc.v (l97.cut 11 (Int.toNat (1)) (Int.toNat ((l97.l : Int)))))), (13, (.i a167)), (14, (.i n99)), (15, (.pointer (some (blk b141)))), (16, (.i k168))] := H
                   refine c_seq fun K172 hK172 => sr fun K173 hK173 => ww H <| mv rfl rfl <| bn rfl rfl r_lss rfl <| mv rfl rfl <| fun a H => g_join (n := 253) [(140, (.bool ((decide (k168 < 3)) && (decide (a167 < (n6.l : Int)))))), (1, n6.v), (7, (.pointer (some a16))), (8, (.pointer N40)), (10, (.pointer N65)), (12, (Slc.v (l97.cut 11 (Int.toNat (1)) (Int.toNat ((l97.l : Int)))))), (13, (.i a167)), (14, (.i n99)), (15, (.pointer (some (blk b141)))), (16, (.i k168))] (.succ (.succ (.succ (.succ (.succ (.zero _)))))) ?_ ?_
                   ·intro h175
                    try clear h
                    rcases Bool.eq_false_or_eq_true (decide (k168 < 3)) with h174 | h174
                    ·replace H := H.ch (t := 135) (b := true) rfl h174
                     exact ww H <| gmv rfl rfl rfl rfl <| gmv rfl rfl rfl rfl <| fun a H => s_blt H (wantG H rfl rfl) (H.args (vs := [n6.v]) rfl) (lt_ rfl) (fun cs => b_lenS (z := n6) sl_46) fun a H => ww H <| gbn rfl rfl rfl rfl r_lss rfl <| pT rfl rfl rfl <| fun a H => h175 _ (H.weaken ⟨by rw [h174]; rfl, rfl, rfl, rfl, rfl, rfl, rfl, rfl, rfl, rfl, trivial⟩)
                    ·replace H := H.ch (t := 135) (b := false) rfl h174
                     exact ww H <| sk rfl rfl rfl rfl <| sk rfl rfl rfl rfl <| sk rfl rfl rfl rfl <| sk rfl rfl rfl rfl <| pF rfl rfl rfl <| fun a H => h175 _ (H.weaken ⟨by rw [h174]; rfl, rfl, rfl, rfl, rfl, rfl, rfl, rfl, rfl, rfl, trivial⟩)
                   ·clear H a
                    intro a H
                    refine nk hK173 <| cd H rfl h (fun h176 h => ?_) (fun h176 h => ?_)
                    ·obtain ⟨a179, h180, h181, h182, h⟩ := h
                     refine c_skip <| hK172 _ _ <| c_seq fun K177 hK177 => c_block <| sr fun K178 hK178 => ww H <| mv rfl rfl <| mv rfl rfl <| fun a H => s_idxS (s := n6) H rfl rfl rfl slc_46 h180 h181 h182 (lt_ rfl) fun a H => ?_
                     obtain ⟨K183, hc184, C185, hc186, S187, hc188, O189, hc190, K191, hc192, C193, hc194, C195, hc196, C197, hc198, C199, hc200, H201, hc202, D203, hc204, h⟩ := h
                     refine ww H <| lN (l := [(.i K183), (.i C185), (.i S187), (.i O189), (.string K191), (.i C193), (.i C195), (.i C197), (.i C199), (.bool H201), D203.v]) rfl agg_56 rfl ⟨hc184, hc186, hc188, hc190, hc192, hc194, hc196, hc198, hc200, hc202, hc204, trivial⟩ rfl <| al h zero_56 rfl rfl rfl fun b205 w206 n207 h => sN h rfl rfl agg_56 rfl rfl fun w208 h => fun a H => ?_
                     obtain ⟨l210, hc211, h⟩ := h
                     refine nk hK178 <| sr fun K209 hK209 => ww H <| fd rfl fld_56_3 rfl <| ld rfl one_2 hc211 rfl <| bn rfl rfl r_or rfl <| fd rfl fld_56_3 rfl <| st h rfl rfl one_2 rfl fun w212 w212S h => fun a H => ?_
                     obtain ⟨K217, hc218, C219, hc220, S221, hc222, O223, hc224, K225, hc226, C227, hc228, C229, hc230, C231, hc232, C233, hc234, H235, hc236, D237, hc238, h⟩ := h
                     refine nk hK209 <| sr fun K215 hK215 => ww H <| mv rfl rfl <| bn rfl rfl r_add rfl <| ag rfl rfl <| fun a H => nk hK215 <| sr fun K216 hK216 => ww H <| mv rfl rfl <| lN (l := [(.i K217), (.i C219), (.i S221), (.i O223), (.string K225), (.i C227), (.i C229), (.i C231), (.i C233), (.bool H235), D237.v]) rfl agg_56 rfl ⟨hc218, hc220, hc222, hc224, hc226, hc228, hc230, hc232, hc234, hc236, hc238, trivial⟩ rfl <| fun a H => s_call H rfl body_19 (H.args (vs := [(.pointer N40), (.agg #[(.i K217), (.i C219), (.i S221), (.i O223), (.string K225), (.i C227), (.i C229), (.i C231), (.i C233), (.bool H235), D237.v])]) rfl) (lt_ rfl) h ?_ (fun c w' => eP c w' _)
                     clear H h a
                     rintro _ w239 a ⟨H240, O241, P242, S243, C244, C245, V246, H247, rfl, h⟩ H
                     refine ww H <| mv rfl rfl <| ex rfl rfl rfl <| ex rfl rfl rfl <| ex rfl rfl rfl <| al h zero_60 rfl rfl rfl fun b248 w249 n250 h => ag rfl rfl <| sN h rfl rfl agg_60 rfl rfl fun w251 h => ag rfl rfl <| fun a H => nk hK216 <| sr fun K252 hK252 => ww H <| mv rfl rfl <| bl (vs := [H240.v]) rfl rfl (fun cs => b_lenS (z := H240) sl_46) <| bn rfl rfl r_gtr rfl <| mv rfl rfl <| fun a H => g_join (n := 253) [(165, (.bool ((decide (0 < (H240.l : Int))) || H247))), (1, n6.v), (7, (.pointer (some a16))), (8, (.pointer N40)), (10, (.pointer N65)), (12, (Slc.v (l97.cut 11 (Int.toNat (1)) (Int.toNat ((l97.l : Int)))))), (13, (.i (wr .i64 (a167 + 1)))), (14, (.i n99)), (15, (.pointer (some (blk b141)))), (16, (.i k168)), (19, (.pointer (some (blk b248))))] (.succ (.succ (.zero _))) ?_ ?_
                     ·intro h254
                      try clear h
                      rcases Bool.eq_false_or_eq_true (decide (0 < (H240.l : Int))) with h253 | h253
                      ·replace H := H.ch (t := 163) (b := true) rfl h253
                       exact ww H <| sk rfl rfl rfl rfl <| pT rfl rfl rfl <| fun a H => h254 _ (H.weaken ⟨by rw [h253]; rfl, rfl, rfl, rfl, rfl, rfl, rfl, rfl, rfl, rfl, rfl, trivial⟩)
                      ·replace H := H.ch (t := 163) (b := false) rfl h253
                       exact ww H <| gmv rfl rfl rfl rfl <| pF rfl rfl rfl <| fun a H => h254 _ (H.weaken ⟨by rw [h253]; rfl, rfl, rfl, rfl, rfl, rfl, rfl, rfl, rfl, rfl, rfl, trivial⟩)
                     ·clear H a
                      intro a H
                      refine ww H <| mv rfl rfl <| fun a H => ?_
                      obtain ⟨R257, h, h280⟩ := h
                      refine g_joinW (n := 253) R257 (fun x258 => [(171, (.bool x258)), (1, n6.v), (7, (.pointer (some a16))), (8, (.pointer N40)), (10, (.pointer N65)), (12, (Slc.v (l97.cut 11 (Int.toNat (1)) (Int.toNat ((l97.l : Int)))))), (13, (.i (wr .i64 (a167 + 1)))), (14, (.i n99)), (15, (.pointer (some (blk b141)))), (16, (.i k168))]) (.succ (.succ (.succ (.succ (.succ (.zero _)))))) ?_ ?_
                      ·intro h256
                       clear h280
                       rcases Bool.eq_false_or_eq_true ((decide (0 < (H240.l : Int))) || H247) with h255 | h255
                       ·replace H := H.ch (t := 166) (b := true) rfl h255
                        replace h := h.2 h255
                        exact ww H <| sk rfl rfl rfl rfl <| sk rfl rfl rfl rfl <| sk rfl rfl rfl rfl <| sk rfl rfl rfl rfl <| pT rfl rfl rfl <| fun a H => h256 _ _ _ h (H.weaken ⟨rfl, rfl, rfl, rfl, rfl, rfl, rfl, rfl, rfl, rfl, trivial⟩)
                       ·replace H := H.ch (t := 166) (b := false) rfl h255
                        replace h := h.1 h255
                        obtain ⟨O260, hc261, P262, hc263, S264, hc265, C266, hc267, C268, hc269, V270, hc271, h⟩ := h
                        refine ww H <| glN (l := [(.i O260), (.bool P262), (.i S264), (.i C266), (.i C268), V270.v]) rfl rfl rfl agg_60 rfl ⟨hc261, hc263, hc265, hc267, hc269, hc271, trivial⟩ rfl <| fun a H => s_build H (wantG H rfl rfl) (by rw [H.parts (vs := []) rfl]; exact bd_60 _) (lt_ rfl) fun a H => s_call H (wantG H rfl rfl) body_25 (H.args (vs := [(.agg #[(.i O260), (.bool P262), (.i S264), (.i C266), (.i C268), V270.v]), (.agg #[(.i 0), (.bool false), (.i 0), (.i 0), (.i 0), Slc.nil.v])]) rfl) (lt_ rfl) h ?_ (fun c w' => eP c w' _)
                        clear H h a
                        rintro _ w272 a ⟨s273, rfl, h⟩ H
                        exact s_un H (wantG H rfl rfl) rfl r_not (lt_ rfl) fun a H => ww H <| pF rfl rfl rfl <| fun a H => h256 _ _ _ h (H.weaken ⟨rfl, rfl, rfl, rfl, rfl, rfl, rfl, rfl, rfl, rfl, trivial⟩)
                      ·clear H a h
                       intro a x258 w259 h H
                       replace h := h280 x258 w259 h
                       clear h280
                       refine nk hK252 <| cd H rfl h (fun h278 h => ?_) (fun h278 h => ?_)
                       ·exact sr fun K279 hK279 => ww H <| ag rfl rfl <| fun a H => nk hK279 <| c_ret <| e_ret1 H rfl rfl h
                       ·refine c_skip <| hK177 _ _ <| c_reg <| ww H <| mv rfl rfl <| bn rfl rfl r_add rfl <| ag rfl rfl <| fun a H => c_nil <| Exists.intro (wr .i64 (a167 + 1), wr .i64 (k168 + 1)) ⟨h.1, h.2, H.weaken ⟨rfl, rfl, rfl, rfl, rfl, rfl, rfl, rfl, rfl, trivial⟩⟩
                    ·refine c_exit ?_
                     first | (simp only [Exit.then, Exit.inBlock, ↓reduceIte]; fail_if_success simp only [Nat.reduceEqDiff]) | simp only [Exit.then, Exit.inBlock, ↓reduceIte, Nat.reduceEqDiff]
                     refine hK165 _ _ <| c_seq fun K285 hK285 => ?_
                     replace H := H.weaken (L' := [(1, n6.v), (7, (.pointer (some a16))), (8, (.pointer N40)), (10, (.pointer N65)), (12, (Slc.v (l97.cut 11 (Int.toNat (1)) (Int.toNat ((l97.l : Int)))))), (13, (.i a167)), (14, (.i n99)), (15, (.pointer (some (blk b141))))]) ⟨rfl, rfl, rfl, rfl, rfl, rfl, rfl, rfl, trivial⟩
                     obtain ⟨l288, l291, a294, h295, h296, h297, l298, K301, C303, S305, O307, K309, C311, C313, C315, C317, H319, D321, h⟩ := h
                     obtain ⟨R286, h595, h290, h293, h300, h323, h590, h591, h592, h593⟩ := h
                     refine c_anyF (V := [(0, (.pointer (some a16))), (1, (.pointer (some a16))), (2, (.pointer (some (a16.add 3)))), (3, l288.v), (4, (.pointer (some ((blk b141).add 2)))), (5, (.i l291)), (6, (.pointer (some (a294.add (Int.toNat (l291) * 1))))), (7, (.pointer l298)), (8, (.agg #[(.i K301), (.i C303), (.i S305), (.i O307), (.string K309), (.i C311), (.i C313), (.i C315), (.i C317), (.bool H319), D321.v]))]) 3 (⟨⟨[[], [0], [1], [2], [], [4], [3, 5], [6], [], [7, 8], [], [0, 1, 2, 3, 4, 5, 6, 7, 8, 9, 10]], [some 172, some 173, some 174, some 175, some 176, some 177, some 178, some 179, some 180, some 181, some 21, none], [9, 10, 11], [], []⟩, [[], [], [], [], [], [], [], [], [], [], [], [9, 10]], [[9, 11], [9, 11], [9, 11], [9, 11], [9, 11], [9, 11], [9, 11], [9, 11], [9, 11], [11], [11], []]⟩ : Rh) [(1, n6.v), (7, (.pointer (some a16))), (8, (.pointer N40)), (10, (.pointer N65)), (12, (Slc.v (l97.cut 11 (Int.toNat (1)) (Int.toNat ((l97.l : Int)))))), (13, (.i a167)), (14, (.i n99)), (15, (.pointer (some (blk b141))))] mixed (by kernel_rfl) H fun F596 h594 => ?_
                     clear H a
                     have st_9_10_11 : ∀ (K325 : Int) (C326 : Int) (S327 : Int) (O328 : Int) (K329 : ByteArray) (C330 : Int) (C331 : Int) (C332 : Int) (C333 : Int) (H334 : Bool) (D335 : Slc) (b340 : Nat) (w287 : World), R286 (some (K325, C326, S327, O328, K329, C330, C331, C332, C333, H334, D335)) (some b340) (some ()) w287 → F596 0 [9, 10, 11] [(0, (.pointer (some a16))), (1, (.pointer (some a16))), (2, (.pointer (some (a16.add 3)))), (3, l288.v), (4, (.pointer (some ((blk b141).add 2)))), (5, (.i l291)), (6, (.pointer (some (a294.add (Int.toNat (l291) * 1))))), (7, (.pointer l298)), (8, (.agg #[(.i K301), (.i C303), (.i S305), (.i O307), (.string K309), (.i C311), (.i C313), (.i C315), (.i C317), (.bool H319), D321.v])), (9, (.agg #[(.i K325), (.i C326), (.i S327), (.i O328), (.string K329), (.i C330), (.i C331), (.i C332), (.i C333), (.bool H334), D335.v])), (10, (.pointer (some (blk b340)))), (11, undef)] w287 := by
                      intro K325 C326 S327 O328 K329 C330 C331 C332 C333 H334 D335 b340 w287 hr
                      rw [h594]
                      refine StT.last [] (by kernel_rfl) (by kernel_rfl) .nil ?_
                      ·intro a H
                       have h := h593 K325 C326 S327 O328 K329 C330 C331 C332 C333 H334 D335 b340 w287 hr
                       replace H := H.weaken (L' := [(1, n6.v), (7, (.pointer (some a16))), (8, (.pointer N40)), (10, (.pointer N65)), (12, (Slc.v (l97.cut 11 (Int.toNat (1)) (Int.toNat ((l97.l : Int)))))), (13, (.i a167)), (14, (.i n99)), (21, (.pointer (some (blk b340))))]) ⟨rfl, rfl, rfl, rfl, rfl, rfl, rfl, rfl, trivial⟩
                       obtain ⟨K348, hc349, C350, hc351, S352, hc353, O354, hc355, K356, hc357, C358, hc359, C360, hc361, C362, hc363, C364, hc365, H366, hc367, D368, hc369, h⟩ := h
                       refine hK285 _ _ <| sr fun K347 hK347 => ww H <| mv rfl rfl <| lN (l := [(.i K348), (.i C350), (.i S352), (.i O354), (.string K356), (.i C358), (.i C360), (.i C362), (.i C364), (.bool H366), D368.v]) rfl agg_56 rfl ⟨hc349, hc351, hc353, hc355, hc357, hc359, hc361, hc363, hc365, hc367, hc369, trivial⟩ rfl <| fun a H => s_call H rfl body_19 (H.args (vs := [(.pointer N40), (.agg #[(.i K348), (.i C350), (.i S352), (.i O354), (.string K356), (.i C358), (.i C360), (.i C362), (.i C364), (.bool H366), D368.v])]) rfl) (lt_ rfl) h ?_ (fun c w' => eP c w' _)
                       clear H h a
                       rintro _ w370 a ⟨H371, O372, P373, S374, C375, C376, V377, H378, rfl, h⟩ H
                       refine ww H <| mv rfl rfl <| ex rfl rfl rfl <| ex rfl rfl rfl <| ex rfl rfl rfl <| al h zero_60 rfl rfl rfl fun b379 w380 n381 h => ag rfl rfl <| sN h rfl rfl agg_60 rfl rfl fun w382 h => fun a H => ?_
                       obtain ⟨K384, hc385, C386, hc387, S388, hc389, O390, hc391, K392, hc393, C394, hc395, C396, hc397, C398, hc399, C400, hc401, H402, hc403, D404, hc405, h⟩ := h
                       refine ww H <| ag rfl rfl <| fun a H => nk hK347 <| sr fun K383 hK383 => ww H <| mv rfl rfl <| lN (l := [(.i K384), (.i C386), (.i S388), (.i O390), (.string K392), (.i C394), (.i C396), (.i C398), (.i C400), (.bool H402), D404.v]) rfl agg_56 rfl ⟨hc385, hc387, hc389, hc391, hc393, hc395, hc397, hc399, hc401, hc403, hc405, trivial⟩ rfl <| fun a H => s_call H rfl body_19 (H.args (vs := [(.pointer N65), (.agg #[(.i K384), (.i C386), (.i S388), (.i O390), (.string K392), (.i C394), (.i C396), (.i C398), (.i C400), (.bool H402), D404.v])]) rfl) (lt_ rfl) h ?_ (fun c w' => eP c w' _)
                       clear H h a
                       rintro _ w406 a ⟨H407, O408, P409, S410, C411, C412, V413, H414, rfl, h⟩ H
                       refine ww H <| mv rfl rfl <| ex rfl rfl rfl <| ex rfl rfl rfl <| ex rfl rfl rfl <| al h zero_60 rfl rfl rfl fun b415 w416 n417 h => ag rfl rfl <| sN h rfl rfl agg_60 rfl rfl fun w418 h => ag rfl rfl <| fun a H => nk hK383 <| c_seq fun K419 hK419 => sr fun K420 hK420 => ww H <| mv rfl rfl <| mv rfl rfl <| bn rfl rfl (r_neB bool_4) rfl <| mv rfl rfl <| fun a H => ?_
                       obtain ⟨R423, h, h581⟩ := h
                       refine g_joinW (n := 253) R423 (fun x424 => [(204, (.bool x424)), (1, n6.v), (7, (.pointer (some a16))), (8, (.pointer N40)), (10, (.pointer N65)), (12, (Slc.v (l97.cut 11 (Int.toNat (1)) (Int.toNat ((l97.l : Int)))))), (13, (.i a167)), (14, (.i n99)), (21, (.pointer (some (blk b340)))), (22, H371.v), (23, (.pointer (some (blk b379)))), (24, (.bool H378)), (25, H407.v)]) (.succ (.succ (.succ (.succ (.succ (.zero _)))))) ?_ ?_
                       ·intro h422
                        clear h581
                        rcases Bool.eq_false_or_eq_true (decide (H378 ≠ H414)) with h421 | h421
                        ·replace H := H.ch (t := 199) (b := true) rfl h421
                         replace h := h.2 h421
                         exact ww H <| sk rfl rfl rfl rfl <| sk rfl rfl rfl rfl <| sk rfl rfl rfl rfl <| sk rfl rfl rfl rfl <| pT rfl rfl rfl <| fun a H => h422 _ _ _ h (H.weaken ⟨rfl, rfl, rfl, rfl, rfl, rfl, rfl, rfl, rfl, rfl, rfl, rfl, rfl, trivial⟩)
                        ·replace H := H.ch (t := 199) (b := false) rfl h421
                         replace h := h.1 h421
                         obtain ⟨O426, hc427, P428, hc429, S430, hc431, C432, hc433, C434, hc435, V436, hc437, O438, hc439, P440, hc441, S442, hc443, C444, hc445, C446, hc447, V448, hc449, h⟩ := h
                         refine ww H <| glN (l := [(.i O426), (.bool P428), (.i S430), (.i C432), (.i C434), V436.v]) rfl rfl rfl agg_60 rfl ⟨hc427, hc429, hc431, hc433, hc435, hc437, trivial⟩ rfl <| glN (l := [(.i O438), (.bool P440), (.i S442), (.i C444), (.i C446), V448.v]) rfl rfl rfl agg_60 rfl ⟨hc439, hc441, hc443, hc445, hc447, hc449, trivial⟩ rfl <| fun a H => s_call H (wantG H rfl rfl) body_25 (H.args (vs := [(.agg #[(.i O426), (.bool P428), (.i S430), (.i C432), (.i C434), V436.v]), (.agg #[(.i O438), (.bool P440), (.i S442), (.i C444), (.i C446), V448.v])]) rfl) (lt_ rfl) h ?_ (fun c w' => eP c w' _)
                         clear H h a
                         rintro _ w450 a ⟨s451, rfl, h⟩ H
                         exact s_un H (wantG H rfl rfl) rfl r_not (lt_ rfl) fun a H => ww H <| pF rfl rfl rfl <| fun a H => h422 _ _ _ h (H.weaken ⟨rfl, rfl, rfl, rfl, rfl, rfl, rfl, rfl, rfl, rfl, rfl, rfl, rfl, trivial⟩)
                       ·clear H a h
                        intro a x424 w425 h H
                        replace h := h581 x424 w425 h
                        clear h581
                        refine ww H <| mv rfl rfl <| fun a H => ?_
                        obtain ⟨R458, h, h580⟩ := h
                        refine g_joinW (n := 253) R458 (fun x459 => [(210, (.bool x459)), (1, n6.v), (7, (.pointer (some a16))), (8, (.pointer N40)), (10, (.pointer N65)), (12, (Slc.v (l97.cut 11 (Int.toNat (1)) (Int.toNat ((l97.l : Int)))))), (13, (.i a167)), (14, (.i n99)), (21, (.pointer (some (blk b340)))), (22, H371.v), (23, (.pointer (some (blk b379)))), (24, (.bool H378))]) (.succ (.succ (.succ (.succ (.succ (.zero _)))))) ?_ ?_
                        ·intro h457
                         clear h580
                         rcases Bool.eq_false_or_eq_true x424 with h456 | h456
                         ·replace H := H.ch (t := 205) (b := true) rfl h456
                          replace h := h.2 h456
                          exact ww H <| sk rfl rfl rfl rfl <| sk rfl rfl rfl rfl <| sk rfl rfl rfl rfl <| sk rfl rfl rfl rfl <| pT rfl rfl rfl <| fun a H => h457 _ _ _ h (H.weaken ⟨rfl, rfl, rfl, rfl, rfl, rfl, rfl, rfl, rfl, rfl, rfl, rfl, trivial⟩)
                         ·replace H := H.ch (t := 205) (b := false) rfl h456
                          replace h := h.1 h456
                          refine ww H <| gmv rfl rfl rfl rfl <| gmv rfl rfl rfl rfl <| fun a H => s_call H (wantG H rfl rfl) body_27 (H.args (vs := [H371.v, H407.v]) rfl) (lt_ rfl) h ?_ (fun c w' => eP c w' _)
                          clear H h a
                          rintro _ w461 a ⟨s462, rfl, h⟩ H
                          exact s_un H (wantG H rfl rfl) rfl r_not (lt_ rfl) fun a H => ww H <| pF rfl rfl rfl <| fun a H => h457 _ _ _ h (H.weaken ⟨rfl, rfl, rfl, rfl, rfl, rfl, rfl, rfl, rfl, rfl, rfl, rfl, trivial⟩)
                        ·clear H a h
                         intro a x459 w460 h H
                         replace h := h580 x459 w460 h
                         clear h580
                         refine nk hK420 <| cd H rfl h (fun h467 h => ?_) (fun h467 h => ?_)
                         ·exact sr fun K468 hK468 => ww H <| ag rfl rfl <| fun a H => nk hK468 <| c_ret <| e_ret1 H rfl rfl h
                         ·refine c_skip <| hK419 _ _ <| c_seq fun K469 hK469 => sr fun K470 hK470 => ww H <| mv rfl rfl <| fun a H => nk hK470 <| cd H rfl h (fun h471 h => ?_) (fun h471 h => ?_)
                          ·refine sr fun K472 hK472 => ww H <| mv rfl rfl <| fun a H => s_call H rfl body_24 (H.args (vs := [(.pointer N40)]) rfl) (lt_ rfl) h ?_ (fun c w' => eP c w' _)
                           clear H h a
                           rintro _ w473 a ⟨N474, N475, N476, C477, C478, N479, N480, rfl, h⟩ H
                           exact ww H <| mv rfl rfl <| ex rfl rfl rfl <| ex rfl rfl rfl <| ex rfl rfl rfl <| ex rfl rfl rfl <| ex rfl rfl rfl <| ex rfl rfl rfl <| ag rfl rfl <| fun a H => nk hK472 <| sr fun K481 hK481 => ww H <| mv rfl rfl <| bn rfl rfl r_eql rfl <| ag rfl rfl <| fun a H => nk hK481 <| c_ret <| e_ret1 H rfl rfl h
                          ·obtain ⟨s487, w488, h489, h⟩ := h
                           refine c_skip <| hK469 _ _ <| sr fun K486 hK486 => ww H <| mv rfl rfl <| mv rfl rfl <| fun a H => s_blt H rfl (H.args (vs := [(Slc.v (l97.cut 11 (Int.toNat (1)) (Int.toNat ((l97.l : Int))))), H371.v]) rfl) (lt_ rfl) (fun cs => b_app (z := s487) h489) ?_
                           clear H a h489
                           intro a H
                           obtain ⟨K491, hc492, C493, hc494, S495, hc496, O497, hc498, K499, hc500, C501, hc502, C503, hc504, C505, hc506, C507, hc508, H509, hc510, D511, hc512, h⟩ := h
                           refine ww H <| ag rfl rfl <| fun a H => nk hK486 <| sr fun K490 hK490 => ww H <| mv rfl rfl <| lN (l := [(.i K491), (.i C493), (.i S495), (.i O497), (.string K499), (.i C501), (.i C503), (.i C505), (.i C507), (.bool H509), D511.v]) rfl agg_56 rfl ⟨hc492, hc494, hc496, hc498, hc500, hc502, hc504, hc506, hc508, hc510, hc512, trivial⟩ rfl <| fun a H => s_call H rfl body_19 (H.args (vs := [(.pointer N40), (.agg #[(.i K491), (.i C493), (.i S495), (.i O497), (.string K499), (.i C501), (.i C503), (.i C505), (.i C507), (.bool H509), D511.v])]) rfl) (lt_ rfl) h ?_ (fun c w' => eP c w' _)
                           clear H h a
                           rintro _ w513 a ⟨H514, O515, P516, S517, C518, C519, V520, H521, rfl, h⟩ H
                           refine ww H <| mv rfl rfl <| ex rfl rfl rfl <| ex rfl rfl rfl <| ex rfl rfl rfl <| ag rfl rfl <| sN h rfl rfl agg_60 rfl rfl fun w522 h => ag rfl rfl <| fun a H => nk hK490 <| sr fun K523 hK523 => ww H <| mv rfl rfl <| bl (vs := [H514.v]) rfl rfl (fun cs => b_lenS (z := H514) sl_46) <| bn rfl rfl r_gtr rfl <| mv rfl rfl <| fun a H => g_join (n := 253) [(238, (.bool ((decide (0 < (H514.l : Int))) || H521))), (1, n6.v), (7, (.pointer (some a16))), (8, (.pointer N40)), (10, (.pointer N65)), (12, s487.v), (13, (.i a167)), (14, (.i n99)), (23, (.pointer (some (blk b379))))] (.succ (.succ (.zero _))) ?_ ?_
                           ·intro h525
                            try clear h
                            rcases Bool.eq_false_or_eq_true (decide (0 < (H514.l : Int))) with h524 | h524
                            ·replace H := H.ch (t := 236) (b := true) rfl h524
                             exact ww H <| sk rfl rfl rfl rfl <| pT rfl rfl rfl <| fun a H => h525 _ (H.weaken ⟨by rw [h524]; rfl, rfl, rfl, rfl, rfl, rfl, rfl, rfl, rfl, trivial⟩)
                            ·replace H := H.ch (t := 236) (b := false) rfl h524
                             exact ww H <| gmv rfl rfl rfl rfl <| pF rfl rfl rfl <| fun a H => h525 _ (H.weaken ⟨by rw [h524]; rfl, rfl, rfl, rfl, rfl, rfl, rfl, rfl, rfl, trivial⟩)
                           ·clear H a
                            intro a H
                            refine ww H <| mv rfl rfl <| fun a H => ?_
                            obtain ⟨R528, h, h575⟩ := h
                            refine g_joinW (n := 253) R528 (fun x529 => [(244, (.bool x529)), (1, n6.v), (7, (.pointer (some a16))), (8, (.pointer N40)), (10, (.pointer N65)), (12, s487.v), (13, (.i a167)), (14, (.i n99))]) (.succ (.succ (.succ (.succ (.succ (.zero _)))))) ?_ ?_
                            ·intro h527
                             clear h575
                             rcases Bool.eq_false_or_eq_true ((decide (0 < (H514.l : Int))) || H521) with h526 | h526
                             ·replace H := H.ch (t := 239) (b := true) rfl h526
                              replace h := h.2 h526
                              exact ww H <| sk rfl rfl rfl rfl <| sk rfl rfl rfl rfl <| sk rfl rfl rfl rfl <| sk rfl rfl rfl rfl <| pT rfl rfl rfl <| fun a H => h527 _ _ _ h (H.weaken ⟨rfl, rfl, rfl, rfl, rfl, rfl, rfl, rfl, trivial⟩)
                             ·replace H := H.ch (t := 239) (b := false) rfl h526
                              replace h := h.1 h526
                              obtain ⟨O531, hc532, P533, hc534, S535, hc536, C537, hc538, C539, hc540, V541, hc542, h⟩ := h
                              refine ww H <| glN (l := [(.i O531), (.bool P533), (.i S535), (.i C537), (.i C539), V541.v]) rfl rfl rfl agg_60 rfl ⟨hc532, hc534, hc536, hc538, hc540, hc542, trivial⟩ rfl <| fun a H => s_build H (wantG H rfl rfl) (by rw [H.parts (vs := []) rfl]; exact bd_60 _) (lt_ rfl) fun a H => s_call H (wantG H rfl rfl) body_25 (H.args (vs := [(.agg #[(.i O531), (.bool P533), (.i S535), (.i C537), (.i C539), V541.v]), (.agg #[(.i 0), (.bool false), (.i 0), (.i 0), (.i 0), Slc.nil.v])]) rfl) (lt_ rfl) h ?_ (fun c w' => eP c w' _)
                              clear H h a
                              rintro _ w543 a ⟨s544, rfl, h⟩ H
                              exact s_un H (wantG H rfl rfl) rfl r_not (lt_ rfl) fun a H => ww H <| pF rfl rfl rfl <| fun a H => h527 _ _ _ h (H.weaken ⟨rfl, rfl, rfl, rfl, rfl, rfl, rfl, rfl, trivial⟩)
                            ·clear H a h
                             intro a x529 w530 h H
                             replace h := h575 x529 w530 h
                             clear h575
                             refine ww H <| mv rfl rfl <| fun a H => ?_
                             obtain ⟨R551, h, h574⟩ := h
                             refine g_joinW (n := 253) R551 (fun x552 => [(252, (.bool x552)), (1, n6.v), (7, (.pointer (some a16))), (8, (.pointer N40)), (10, (.pointer N65)), (12, s487.v), (13, (.i a167)), (14, (.i n99))]) (.succ (.succ (.succ (.succ (.succ (.succ (.succ (.zero _)))))))) ?_ ?_
                             ·intro h550
                              clear h574
                              rcases Bool.eq_false_or_eq_true x529 with h549 | h549
                              ·replace H := H.ch (t := 245) (b := true) rfl h549
                               replace h := h.2 h549
                               exact ww H <| sk rfl rfl rfl rfl <| sk rfl rfl rfl rfl <| sk rfl rfl rfl rfl <| sk rfl rfl rfl rfl <| sk rfl rfl rfl rfl <| sk rfl rfl rfl rfl <| pT rfl rfl rfl <| fun a H => h550 _ _ _ h (H.weaken ⟨rfl, rfl, rfl, rfl, rfl, rfl, rfl, rfl, trivial⟩)
                              ·replace H := H.ch (t := 245) (b := false) rfl h549
                               replace h := h.1 h549
                               refine ww H <| gmv rfl rfl rfl rfl <| fun a H => s_call H (wantG H rfl rfl) body_18 (H.args (vs := [(.pointer N40)]) rfl) (lt_ rfl) h ?_ (fun c w' => eP c w' _)
                               clear H h a
                               rintro _ w554 a ⟨T555, rfl, h⟩ H
                               refine ww H <| gmv rfl rfl rfl rfl <| fun a H => s_call H (wantG H rfl rfl) body_18 (H.args (vs := [(.pointer N65)]) rfl) (lt_ rfl) h ?_ (fun c w' => eP c w' _)
                               clear H h a
                               rintro _ w556 a ⟨T557, rfl, h⟩ H
                               refine s_call H (wantG H rfl rfl) body_27 (H.args (vs := [T555.v, T557.v]) rfl) (lt_ rfl) h ?_ (fun c w' => eP c w' _)
                               clear H h a
                               rintro _ w558 a ⟨s559, rfl, h⟩ H
                               exact s_un H (wantG H rfl rfl) rfl r_not (lt_ rfl) fun a H => ww H <| pF rfl rfl rfl <| fun a H => h550 _ _ _ h (H.weaken ⟨rfl, rfl, rfl, rfl, rfl, rfl, rfl, rfl, trivial⟩)
                             ·clear H a h
                              intro a x552 w553 h H
                              replace h := h574 x552 w553 h
                              clear h574
                              refine nk hK523 <| cd H rfl h (fun h572 h => ?_) (fun h572 h => ?_)
                              ·exact sr fun K573 hK573 => ww H <| ag rfl rfl <| fun a H => nk hK573 <| c_ret <| e_ret1 H rfl rfl h
                              ·exact c_skip <| h113 _ _ _ _ h (H.weaken ⟨rfl, rfl, rfl, rfl, rfl, rfl, rfl, trivial⟩)
                     have st_9_10 : ∀ (K325 : Int) (C326 : Int) (S327 : Int) (O328 : Int) (K329 : ByteArray) (C330 : Int) (C331 : Int) (C332 : Int) (C333 : Int) (H334 : Bool) (D335 : Slc) (b340 : Nat) (w287 : World), R286 (some (K325, C326, S327, O328, K329, C330, C331, C332, C333, H334, D335)) (some b340) none w287 → F596 1 [9, 10] [(0, (.pointer (some a16))), (1, (.pointer (some a16))), (2, (.pointer (some (a16.add 3)))), (3, l288.v), (4, (.pointer (some ((blk b141).add 2)))), (5, (.i l291)), (6, (.pointer (some (a294.add (Int.toNat (l291) * 1))))), (7, (.pointer l298)), (8, (.agg #[(.i K301), (.i C303), (.i S305), (.i O307), (.string K309), (.i C311), (.i C313), (.i C315), (.i C317), (.bool H319), D321.v])), (9, (.agg #[(.i K325), (.i C326), (.i S327), (.i O328), (.string K329), (.i C330), (.i C331), (.i C332), (.i C333), (.bool H334), D335.v])), (10, (.pointer (some (blk b340))))] w287 := by
                      intro K325 C326 S327 O328 K329 C330 C331 C332 C333 H334 D335 b340 w287 hr
                      rw [h594]
                      refine StT.more [] [11] (by kernel_rfl) (by kernel_rfl) (by kernel_rfl) .nil (.cons ?_ .nil)
                      ·refine ⟨_, rfl, fun a H => ?_⟩
                       replace H := H.weaken (L' := [(21, (.pointer (some (blk b340)))), (181, (.agg #[(.i K325), (.i C326), (.i S327), (.i O328), (.string K329), (.i C330), (.i C331), (.i C332), (.i C333), (.bool H334), D335.v]))]) ⟨rfl, rfl, trivial⟩
                       have h := h592 K325 C326 S327 O328 K329 C330 C331 C332 C333 H334 D335 b340 w287 hr
                       refine ww H <| sN h rfl rfl agg_56 rfl rfl fun w343 h => fun a H => c_nil <| effQ.ok (v := undef) (H.weaken (L' := []) trivial) ⟨[(0, (.pointer (some a16))), (1, (.pointer (some a16))), (2, (.pointer (some (a16.add 3)))), (3, l288.v), (4, (.pointer (some ((blk b141).add 2)))), (5, (.i l291)), (6, (.pointer (some (a294.add (Int.toNat (l291) * 1))))), (7, (.pointer l298)), (8, (.agg #[(.i K301), (.i C303), (.i S305), (.i O307), (.string K309), (.i C311), (.i C313), (.i C315), (.i C317), (.bool H319), D321.v])), (9, (.agg #[(.i K325), (.i C326), (.i S327), (.i O328), (.string K329), (.i C330), (.i C331), (.i C332), (.i C333), (.bool H334), D335.v])), (10, (.pointer (some (blk b340)))), (11, undef)], ⟨rfl, rfl, rfl, rfl, rfl, rfl, rfl, rfl, rfl, rfl, rfl, rfl, trivial⟩, ?_⟩
                       have hx := st_9_10_11 K325 C326 S327 O328 K329 C330 C331 C332 C333 H334 D335 b340 w343 h
                       rw [h594] at hx
                       exact hx
                     have st_9 : ∀ (K325 : Int) (C326 : Int) (S327 : Int) (O328 : Int) (K329 : ByteArray) (C330 : Int) (C331 : Int) (C332 : Int) (C333 : Int) (H334 : Bool) (D335 : Slc) (w287 : World), R286 (some (K325, C326, S327, O328, K329, C330, C331, C332, C333, H334, D335)) none none w287 → F596 2 [9] [(0, (.pointer (some a16))), (1, (.pointer (some a16))), (2, (.pointer (some (a16.add 3)))), (3, l288.v), (4, (.pointer (some ((blk b141).add 2)))), (5, (.i l291)), (6, (.pointer (some (a294.add (Int.toNat (l291) * 1))))), (7, (.pointer l298)), (8, (.agg #[(.i K301), (.i C303), (.i S305), (.i O307), (.string K309), (.i C311), (.i C313), (.i C315), (.i C317), (.bool H319), D321.v])), (9, (.agg #[(.i K325), (.i C326), (.i S327), (.i O328), (.string K329), (.i C330), (.i C331), (.i C332), (.i C333), (.bool H334), D335.v]))] w287 := by
                      intro K325 C326 S327 O328 K329 C330 C331 C332 C333 H334 D335 w287 hr
                      rw [h594]
                      refine StT.more [] [10] (by kernel_rfl) (by kernel_rfl) (by kernel_rfl) .nil (.cons ?_ .nil)
                      ·refine ⟨_, rfl, fun a H => ?_⟩
                       replace H := H.weaken (L' := []) trivial
                       have h := h591 (some (K325, C326, S327, O328, K329, C330, C331, C332, C333, H334, D335)) w287 hr
                       refine ww H <| al h zero_56 rfl rfl rfl fun b340 w341 n342 h => fun a H => c_nil <| effQ.ok (v := (.pointer (some (blk b340)))) (H.weaken (L' := [(21, (.pointer (some (blk b340))))]) ⟨rfl, trivial⟩) ⟨[(0, (.pointer (some a16))), (1, (.pointer (some a16))), (2, (.pointer (some (a16.add 3)))), (3, l288.v), (4, (.pointer (some ((blk b141).add 2)))), (5, (.i l291)), (6, (.pointer (some (a294.add (Int.toNat (l291) * 1))))), (7, (.pointer l298)), (8, (.agg #[(.i K301), (.i C303), (.i S305), (.i O307), (.string K309), (.i C311), (.i C313), (.i C315), (.i C317), (.bool H319), D321.v])), (9, (.agg #[(.i K325), (.i C326), (.i S327), (.i O328), (.string K329), (.i C330), (.i C331), (.i C332), (.i C333), (.bool H334), D335.v])), (10, (.pointer (some (blk b340))))], ⟨rfl, rfl, rfl, rfl, rfl, rfl, rfl, rfl, rfl, rfl, rfl, trivial⟩, ?_⟩
                       have hx := st_9_10 K325 C326 S327 O328 K329 C330 C331 C332 C333 H334 D335 b340 w341 h
                       rw [h594] at hx
                       exact hx
                     have st_10 : ∀ (b340 : Nat) (w287 : World), R286 none (some b340) none w287 → F596 2 [10] [(0, (.pointer (some a16))), (1, (.pointer (some a16))), (2, (.pointer (some (a16.add 3)))), (3, l288.v), (4, (.pointer (some ((blk b141).add 2)))), (5, (.i l291)), (6, (.pointer (some (a294.add (Int.toNat (l291) * 1))))), (7, (.pointer l298)), (8, (.agg #[(.i K301), (.i C303), (.i S305), (.i O307), (.string K309), (.i C311), (.i C313), (.i C315), (.i C317), (.bool H319), D321.v])), (10, (.pointer (some (blk b340))))] w287 := by
                      intro b340 w287 hr
                      rw [h594]
                      refine StT.more [0, 1, 2, 3, 4, 5, 6, 7, 8] [9] (by kernel_rfl) (by kernel_rfl) (by kernel_rfl) (.cons ?_ (.cons ?_ (.cons ?_ (.cons ?_ (.cons ?_ (.cons ?_ (.cons ?_ (.cons ?_ (.cons ?_ .nil))))))))) (.cons ?_ .nil)
                      ·refine Ans.mk rfl rfl fun a H => ?_
                       replace H := H.weaken (L' := [(7, (.pointer (some a16)))]) ⟨rfl, trivial⟩
                       refine ww H <| mv rfl rfl <| fun a H => c_nil ⟨rfl, rfl, H.weaken (L' := [(172, (.pointer (some a16)))]) ⟨rfl, trivial⟩⟩
                      ·refine Ans.mk rfl rfl fun a H => ?_
                       replace H := H.weaken (L' := [(172, (.pointer (some a16)))]) ⟨rfl, trivial⟩
                       refine ww H <| nl rfl rfl <| fun a H => c_nil ⟨rfl, rfl, H.weaken (L' := [(173, (.pointer (some a16)))]) ⟨rfl, trivial⟩⟩
                      ·refine Ans.mk rfl rfl fun a H => ?_
                       replace H := H.weaken (L' := [(173, (.pointer (some a16)))]) ⟨rfl, trivial⟩
                       refine ww H <| fd rfl fld_38_1 rfl <| fun a H => c_nil ⟨rfl, rfl, H.weaken (L' := [(174, (.pointer (some (a16.add 3))))]) ⟨rfl, trivial⟩⟩
                      ·refine Ans.mk rfl rfl fun a H => ?_
                       replace H := H.weaken (L' := [(174, (.pointer (some (a16.add 3))))]) ⟨rfl, trivial⟩
                       obtain hc289 := h290 (some b340) w287 hr
                       refine ww H <| ld rfl one_36 hc289 rfl <| fun a H => c_nil ⟨rfl, rfl, H.weaken (L' := [(175, l288.v)]) ⟨rfl, trivial⟩⟩
                      ·refine Ans.mk rfl rfl fun a H => ?_
                       replace H := H.weaken (L' := [(15, (.pointer (some (blk b141))))]) ⟨rfl, trivial⟩
                       refine ww H <| fd rfl fld_56_2 rfl <| fun a H => c_nil ⟨rfl, rfl, H.weaken (L' := [(176, (.pointer (some ((blk b141).add 2))))]) ⟨rfl, trivial⟩⟩
                      ·refine Ans.mk rfl rfl fun a H => ?_
                       replace H := H.weaken (L' := [(176, (.pointer (some ((blk b141).add 2))))]) ⟨rfl, trivial⟩
                       obtain hc292 := h293 (some b340) w287 hr
                       refine ww H <| ld rfl one_3 hc292 rfl <| fun a H => c_nil ⟨rfl, rfl, H.weaken (L' := [(177, (.i l291))]) ⟨rfl, trivial⟩⟩
                      ·refine Ans.mk rfl rfl fun a H => ?_
                       replace H := H.weaken (L' := [(175, l288.v), (177, (.i l291))]) ⟨rfl, rfl, trivial⟩
                       refine s_idxS (s := l288) H rfl rfl rfl slc_36 h295 h296 h297 (lt_ rfl) fun a H => c_nil ⟨rfl, rfl, H.weaken (L' := [(178, (.pointer (some (a294.add (Int.toNat (l291) * 1)))))]) ⟨rfl, trivial⟩⟩
                      ·refine Ans.mk rfl rfl fun a H => ?_
                       replace H := H.weaken (L' := [(178, (.pointer (some (a294.add (Int.toNat (l291) * 1)))))]) ⟨rfl, trivial⟩
                       obtain hc299 := h300 (some b340) w287 hr
                       refine ww H <| ld rfl one_74 hc299 rfl <| fun a H => c_nil ⟨rfl, rfl, H.weaken (L' := [(179, (.pointer l298))]) ⟨rfl, trivial⟩⟩
                      ·refine Ans.mk rfl rfl fun a H => ?_
                       replace H := H.weaken (L' := [(15, (.pointer (some (blk b141))))]) ⟨rfl, trivial⟩
                       obtain ⟨hc302, hc304, hc306, hc308, hc310, hc312, hc314, hc316, hc318, hc320, hc322⟩ := h323 (some b340) w287 hr
                       refine ww H <| lN (l := [(.i K301), (.i C303), (.i S305), (.i O307), (.string K309), (.i C311), (.i C313), (.i C315), (.i C317), (.bool H319), D321.v]) rfl agg_56 rfl ⟨hc302, hc304, hc306, hc308, hc310, hc312, hc314, hc316, hc318, hc320, hc322, trivial⟩ rfl <| fun a H => c_nil ⟨rfl, rfl, H.weaken (L' := [(180, (.agg #[(.i K301), (.i C303), (.i S305), (.i O307), (.string K309), (.i C311), (.i C313), (.i C315), (.i C317), (.bool H319), D321.v]))]) ⟨rfl, trivial⟩⟩
                      ·refine ⟨_, rfl, fun a H => ?_⟩
                       replace H := H.weaken (L' := [(179, (.pointer l298)), (180, (.agg #[(.i K301), (.i C303), (.i S305), (.i O307), (.string K309), (.i C311), (.i C313), (.i C315), (.i C317), (.bool H319), D321.v]))]) ⟨rfl, rfl, trivial⟩
                       have h := h590 (some b340) w287 hr
                       refine s_call H rfl body_26 (H.args (vs := [(.pointer l298), (.agg #[(.i K301), (.i C303), (.i S305), (.i O307), (.string K309), (.i C311), (.i C313), (.i C315), (.i C317), (.bool H319), D321.v])]) rfl) (lt_ rfl) h ?_ (fun c w' => eP c w' _)
                       clear H h a
                       rintro _ w324 a ⟨K325, C326, S327, O328, K329, C330, C331, C332, C333, H334, D335, rfl, h⟩ H
                       refine c_nil <| effQ.ok (v := (.agg #[(.i K325), (.i C326), (.i S327), (.i O328), (.string K329), (.i C330), (.i C331), (.i C332), (.i C333), (.bool H334), D335.v])) (H.weaken (L' := [(181, (.agg #[(.i K325), (.i C326), (.i S327), (.i O328), (.string K329), (.i C330), (.i C331), (.i C332), (.i C333), (.bool H334), D335.v]))]) ⟨rfl, trivial⟩) ⟨[(0, (.pointer (some a16))), (1, (.pointer (some a16))), (2, (.pointer (some (a16.add 3)))), (3, l288.v), (4, (.pointer (some ((blk b141).add 2)))), (5, (.i l291)), (6, (.pointer (some (a294.add (Int.toNat (l291) * 1))))), (7, (.pointer l298)), (8, (.agg #[(.i K301), (.i C303), (.i S305), (.i O307), (.string K309), (.i C311), (.i C313), (.i C315), (.i C317), (.bool H319), D321.v])), (9, (.agg #[(.i K325), (.i C326), (.i S327), (.i O328), (.string K329), (.i C330), (.i C331), (.i C332), (.i C333), (.bool H334), D335.v])), (10, (.pointer (some (blk b340))))], ⟨rfl, rfl, rfl, rfl, rfl, rfl, rfl, rfl, rfl, rfl, rfl, trivial⟩, ?_⟩
                       have hx := st_9_10 K325 C326 S327 O328 K329 C330 C331 C332 C333 H334 D335 b340 w324 h
                       rw [h594] at hx
                       exact hx
                     have st_ : ∀ (w287 : World), R286 none none none w287 → F596 3 [] [(0, (.pointer (some a16))), (1, (.pointer (some a16))), (2, (.pointer (some (a16.add 3)))), (3, l288.v), (4, (.pointer (some ((blk b141).add 2)))), (5, (.i l291)), (6, (.pointer (some (a294.add (Int.toNat (l291) * 1))))), (7, (.pointer l298)), (8, (.agg #[(.i K301), (.i C303), (.i S305), (.i O307), (.string K309), (.i C311), (.i C313), (.i C315), (.i C317), (.bool H319), D321.v]))] w287 := by
                      intro w287 hr
                      rw [h594]
                      refine StT.more [0, 1, 2, 3, 4, 5, 6, 7, 8] [9, 10] (by kernel_rfl) (by kernel_rfl) (by kernel_rfl) (.cons ?_ (.cons ?_ (.cons ?_ (.cons ?_ (.cons ?_ (.cons ?_ (.cons ?_ (.cons ?_ (.cons ?_ .nil))))))))) (.cons ?_ (.cons ?_ .nil))
                      ·refine Ans.mk rfl rfl fun a H => ?_
                       replace H := H.weaken (L' := [(7, (.pointer (some a16)))]) ⟨rfl, trivial⟩
                       refine ww H <| mv rfl rfl <| fun a H => c_nil ⟨rfl, rfl, H.weaken (L' := [(172, (.pointer (some a16)))]) ⟨rfl, trivial⟩⟩
                      ·refine Ans.mk rfl rfl fun a H => ?_
                       replace H := H.weaken (L' := [(172, (.pointer (some a16)))]) ⟨rfl, trivial⟩
                       refine ww H <| nl rfl rfl <| fun a H => c_nil ⟨rfl, rfl, H.weaken (L' := [(173, (.pointer (some a16)))]) ⟨rfl, trivial⟩⟩
                      ·refine Ans.mk rfl rfl fun a H => ?_
                       replace H := H.weaken (L' := [(173, (.pointer (some a16)))]) ⟨rfl, trivial⟩
                       refine ww H <| fd rfl fld_38_1 rfl <| fun a H => c_nil ⟨rfl, rfl, H.weaken (L' := [(174, (.pointer (some (a16.add 3))))]) ⟨rfl, trivial⟩⟩
                      ·refine Ans.mk rfl rfl fun a H => ?_
                       replace H := H.weaken (L' := [(174, (.pointer (some (a16.add 3))))]) ⟨rfl, trivial⟩
                       obtain hc289 := h290 none w287 hr
                       refine ww H <| ld rfl one_36 hc289 rfl <| fun a H => c_nil ⟨rfl, rfl, H.weaken (L' := [(175, l288.v)]) ⟨rfl, trivial⟩⟩
                      ·refine Ans.mk rfl rfl fun a H => ?_
                       replace H := H.weaken (L' := [(15, (.pointer (some (blk b141))))]) ⟨rfl, trivial⟩
                       refine ww H <| fd rfl fld_56_2 rfl <| fun a H => c_nil ⟨rfl, rfl, H.weaken (L' := [(176, (.pointer (some ((blk b141).add 2))))]) ⟨rfl, trivial⟩⟩
                      ·refine Ans.mk rfl rfl fun a H => ?_
                       replace H := H.weaken (L' := [(176, (.pointer (some ((blk b141).add 2))))]) ⟨rfl, trivial⟩
                       obtain hc292 := h293 none w287 hr
                       refine ww H <| ld rfl one_3 hc292 rfl <| fun a H => c_nil ⟨rfl, rfl, H.weaken (L' := [(177, (.i l291))]) ⟨rfl, trivial⟩⟩
                      ·refine Ans.mk rfl rfl fun a H => ?_
                       replace H := H.weaken (L' := [(175, l288.v), (177, (.i l291))]) ⟨rfl, rfl, trivial⟩
                       refine s_idxS (s := l288) H rfl rfl rfl slc_36 h295 h296 h297 (lt_ rfl) fun a H => c_nil ⟨rfl, rfl, H.weaken (L' := [(178, (.pointer (some (a294.add (Int.toNat (l291) * 1)))))]) ⟨rfl, trivial⟩⟩
                      ·refine Ans.mk rfl rfl fun a H => ?_
                       replace H := H.weaken (L' := [(178, (.pointer (some (a294.add (Int.toNat (l291) * 1)))))]) ⟨rfl, trivial⟩
                       obtain hc299 := h300 none w287 hr
                       refine ww H <| ld rfl one_74 hc299 rfl <| fun a H => c_nil ⟨rfl, rfl, H.weaken (L' := [(179, (.pointer l298))]) ⟨rfl, trivial⟩⟩
                      ·refine Ans.mk rfl rfl fun a H => ?_
                       replace H := H.weaken (L' := [(15, (.pointer (some (blk b141))))]) ⟨rfl, trivial⟩
                       obtain ⟨hc302, hc304, hc306, hc308, hc310, hc312, hc314, hc316, hc318, hc320, hc322⟩ := h323 none w287 hr
                       refine ww H <| lN (l := [(.i K301), (.i C303), (.i S305), (.i O307), (.string K309), (.i C311), (.i C313), (.i C315), (.i C317), (.bool H319), D321.v]) rfl agg_56 rfl ⟨hc302, hc304, hc306, hc308, hc310, hc312, hc314, hc316, hc318, hc320, hc322, trivial⟩ rfl <| fun a H => c_nil ⟨rfl, rfl, H.weaken (L' := [(180, (.agg #[(.i K301), (.i C303), (.i S305), (.i O307), (.string K309), (.i C311), (.i C313), (.i C315), (.i C317), (.bool H319), D321.v]))]) ⟨rfl, trivial⟩⟩
                      ·refine ⟨_, rfl, fun a H => ?_⟩
                       replace H := H.weaken (L' := [(179, (.pointer l298)), (180, (.agg #[(.i K301), (.i C303), (.i S305), (.i O307), (.string K309), (.i C311), (.i C313), (.i C315), (.i C317), (.bool H319), D321.v]))]) ⟨rfl, rfl, trivial⟩
                       have h := h590 none w287 hr
                       refine s_call H rfl body_26 (H.args (vs := [(.pointer l298), (.agg #[(.i K301), (.i C303), (.i S305), (.i O307), (.string K309), (.i C311), (.i C313), (.i C315), (.i C317), (.bool H319), D321.v])]) rfl) (lt_ rfl) h ?_ (fun c w' => eP c w' _)
                       clear H h a
                       rintro _ w324 a ⟨K325, C326, S327, O328, K329, C330, C331, C332, C333, H334, D335, rfl, h⟩ H
                       refine c_nil <| effQ.ok (v := (.agg #[(.i K325), (.i C326), (.i S327), (.i O328), (.string K329), (.i C330), (.i C331), (.i C332), (.i C333), (.bool H334), D335.v])) (H.weaken (L' := [(181, (.agg #[(.i K325), (.i C326), (.i S327), (.i O328), (.string K329), (.i C330), (.i C331), (.i C332), (.i C333), (.bool H334), D335.v]))]) ⟨rfl, trivial⟩) ⟨[(0, (.pointer (some a16))), (1, (.pointer (some a16))), (2, (.pointer (some (a16.add 3)))), (3, l288.v), (4, (.pointer (some ((blk b141).add 2)))), (5, (.i l291)), (6, (.pointer (some (a294.add (Int.toNat (l291) * 1))))), (7, (.pointer l298)), (8, (.agg #[(.i K301), (.i C303), (.i S305), (.i O307), (.string K309), (.i C311), (.i C313), (.i C315), (.i C317), (.bool H319), D321.v])), (9, (.agg #[(.i K325), (.i C326), (.i S327), (.i O328), (.string K329), (.i C330), (.i C331), (.i C332), (.i C333), (.bool H334), D335.v]))], ⟨rfl, rfl, rfl, rfl, rfl, rfl, rfl, rfl, rfl, rfl, trivial⟩, ?_⟩
                       have hx := st_9 K325 C326 S327 O328 K329 C330 C331 C332 C333 H334 D335 w324 h
                       rw [h594] at hx
                       exact hx
                      ·refine ⟨_, rfl, fun a H => ?_⟩
                       replace H := H.weaken (L' := []) trivial
                       have h := h591 none w287 hr
                       refine ww H <| al h zero_56 rfl rfl rfl fun b340 w341 n342 h => fun a H => c_nil <| effQ.ok (v := (.pointer (some (blk b340)))) (H.weaken (L' := [(21, (.pointer (some (blk b340))))]) ⟨rfl, trivial⟩) ⟨[(0, (.pointer (some a16))), (1, (.pointer (some a16))), (2, (.pointer (some (a16.add 3)))), (3, l288.v), (4, (.pointer (some ((blk b141).add 2)))), (5, (.i l291)), (6, (.pointer (some (a294.add (Int.toNat (l291) * 1))))), (7, (.pointer l298)), (8, (.agg #[(.i K301), (.i C303), (.i S305), (.i O307), (.string K309), (.i C311), (.i C313), (.i C315), (.i C317), (.bool H319), D321.v])), (10, (.pointer (some (blk b340))))], ⟨rfl, rfl, rfl, rfl, rfl, rfl, rfl, rfl, rfl, rfl, trivial⟩, ?_⟩
                       have hx := st_10 b340 w341 h
                       rw [h594] at hx
                       exact hx
                     exact st_ _ h595
                ·refine c_exit ?_
                 first | (simp only [Exit.then, Exit.inBlock, ↓reduceIte]; fail_if_success simp only [Nat.reduceEqDiff]) | simp only [Exit.then, Exit.inBlock, ↓reduceIte, Nat.reduceEqDiff]
                 exact hK95 _ _ <| sr fun K600 hK600 => ww H <| ag rfl rfl <| fun a H => nk hK600 <| c_ret <| e_ret1 H rfl rfl h
            clear h650
            refine sr fun K604 hK604 => ww H <| mv rfl rfl <| fun a H => nk hK604 <| cd H rfl h (fun h605 h => ?_) (fun h605 h => ?_)
            ·refine sr fun K606 hK606 => ww H <| mv rfl rfl <| fun a H => ?_
             replace h := h.get
             obtain ⟨b607, w608, n609, h⟩ := h
             refine s_bslc H rfl (by rw [H.parts (vs := [(0, (.int .u8 118)), (1, (.int .u8 97)), (2, (.int .u8 108)), (3, (.int .u8 117)), (4, (.int .u8 101))]) rfl]; exact bs_49_5_iu80_iu81_iu82_iu83_iu84 w69 118 97 108 117 101) (lt_ rfl) ?_
             rw [← n609.at_]
             clear H a
             intro a H
             refine n609.go ?_
             obtain ⟨w611, h610, h⟩ := h
             refine s_cv H rfl rfl h610 (lt_ rfl) ?_
             clear H a h610
             intro a H
             refine ww H <| cl3 h body_13 rfl rfl eP fun P613 P614 P615 w612 h => mv rfl rfl <| ex rfl rfl rfl <| ex rfl rfl rfl <| ex rfl rfl rfl <| ag rfl rfl <| ag rfl rfl <| fun a H => nk hK606 <| c_reg <| ww H <| mv rfl rfl <| fun a H => ?_
             replace h := h.get
             obtain ⟨b616, w617, n618, h⟩ := h
             refine s_bslc H rfl (by rw [H.parts (vs := [(0, (.int .u8 118)), (1, (.int .u8 97)), (2, (.int .u8 108)), (3, (.int .u8 117)), (4, (.int .u8 101))]) rfl]; exact bs_49_5_iu80_iu81_iu82_iu83_iu84 w612 118 97 108 117 101) (lt_ rfl) ?_
             rw [← n618.at_]
             clear H a
             intro a H
             refine n618.go ?_
             obtain ⟨w620, h619, h⟩ := h
             refine s_cv H rfl rfl h619 (lt_ rfl) ?_
             clear H a h619
             intro a H
             exact ww H <| cl3 h body_13 rfl rfl eP fun P622 P623 P624 w621 h => mv rfl rfl <| ex rfl rfl rfl <| ex rfl rfl rfl <| ex rfl rfl rfl <| ag rfl rfl <| fun a H => c_nil <| h603 _ _ _ _ _ h (H.weaken ⟨rfl, rfl, rfl, rfl, rfl, rfl, rfl, trivial⟩)
            ·exact sr fun K633 hK633 => ww H <| mv rfl rfl <| cl3 h body_22 rfl rfl eP fun G635 G636 G637 w634 h => mv rfl rfl <| ex rfl rfl rfl <| ex rfl rfl rfl <| ex rfl rfl rfl <| ag rfl rfl <| ag rfl rfl <| fun a H => nk hK633 <| c_reg <| ww H <| mv rfl rfl <| cl3 h body_22 rfl rfl eP fun G639 G640 G641 w638 h => mv rfl rfl <| ex rfl rfl rfl <| ex rfl rfl rfl <| ex rfl rfl rfl <| ag rfl rfl <| fun a H => c_nil <| h603 _ _ _ _ _ h (H.weaken ⟨rfl, rfl, rfl, rfl, rfl, rfl, rfl, trivial⟩)

theorem sim_sherdlaw18_town (n1 k2 : Int) (w : World) (Q : Ending → World → Prop) (h : vc_sherdlaw18_town n1 k2 w Q) : Calls PP F_sherdlaw18_town #[(.i n1), (.i k2)] w Q := by
 unfold vc_sherdlaw18_town at h
 have eP {L : List (Nat × Value)} (c : List PanicEntry) (w' : World) (a : Act) (h : Q (.panicked c) w') (H : Has 46 [] a L) : bodyPost PP Tryz.f7 Q (.panic c) a w' := e_panic H h
 refine enter (n := 46) Tryz.func7 rfl rfl (le_ rfl) fun a H => sr fun K3 hK3 => ww H <| ag rfl rfl <| fun a H => nk hK3 <| sr fun K4 hK4 => ww H <| mv rfl rfl <| cl1 h body_34 rfl rfl eP fun m6 w5 h => bn rfl rfl r_add rfl <| fun a H => s_build H rfl (by rw [H.parts (vs := [(0, (.i (wr .i64 (m6 + 1))))]) rfl]; exact bd_35_ii640 _ (wr .i64 (m6 + 1))) (lt_ rfl) fun a H => s_build H rfl (by rw [H.parts (vs := [(0, (.agg #[(.i (wr .i64 (m6 + 1))), (.i 0), (.i 0)]))]) rfl]; exact bd_38_ii64ii64ii640 _ (wr .i64 (m6 + 1)) 0 0) (lt_ rfl) fun a H => ww H <| bx h rfl rfl rfl rfl fun b7 w8 n9 h => ag rfl rfl <| fun a H => nk hK4 <| sr fun K10 hK10 => ww H <| mv rfl rfl <| mv rfl rfl <| mv rfl rfl <| nl rfl rfl <| fd rfl fld_38_0 rfl <| fd rfl fld_35_0 rfl <| fun a H => s_load (v := (.i (wr .i64 (m6 + 1)))) H rfl rfl one_3 (n9.cell (i := 0) rfl) (lt_ rfl) fun a H => ww H <| cl1 h body_34 rfl rfl eP fun m12 w11 h => bn rfl rfl r_add rfl <| nl rfl rfl <| fd rfl fld_38_0 rfl <| fd rfl fld_35_1 rfl <| st h rfl rfl one_3 rfl fun w13 w13S h => fun a H => nk hK10 <| c_seq fun K16 hK16 => ?_
 refine sr fun K17 hK17 => ww H <| ag rfl rfl <| fun a H => nk hK17 <| c_block ?_
 obtain ⟨I20, m21, h43, h44⟩ := h
 refine c_loop (σ := Int) (fun z w => I20 z w) (fun z w => m21 z w) (fun z => [(5, (.pointer (some (blk b7)))), (6, (.i z))]) 0 h43 (H.weaken ⟨rfl, rfl, trivial⟩) ?_
 clear H h43
 rintro i18 a w19 h H
 replace h := h44 i18 w19 h
 clear h44
 replace H : Has 46 [] a [(5, (.pointer (some (blk b7)))), (6, (.i i18))] := H
 obtain ⟨l24, hc25, h⟩ := h
 refine c_seq fun K22 hK22 => sr fun K23 hK23 => ww H <| mv rfl rfl <| mv rfl rfl <| nl rfl rfl <| fd rfl fld_38_0 rfl <| fd rfl fld_35_0 rfl <| ld rfl one_3 hc25 rfl <| bn rfl rfl r_lss rfl <| fun a H => nk hK23 <| cd H rfl h (fun h26 h => ?_) (fun h26 h => ?_)
 ·obtain ⟨l28, hc29, h⟩ := h
  refine c_skip <| hK22 _ _ <| c_seq fun K27 hK27 => c_block <| c_reg <| ww H <| mv rfl rfl <| mv rfl rfl <| nl rfl rfl <| fd rfl fld_38_1 rfl <| ld rfl one_36 hc29 rfl <| fun a H => s_build H rfl (by rw [H.parts (vs := []) rfl]; exact bd_97 _) (lt_ rfl) fun a H => ww H <| bx h rfl rfl rfl rfl fun b30 w31 n32 h => fun a H => ?_
  replace h := h.get
  obtain ⟨b33, w34, n35, h⟩ := h
  refine s_bslc H rfl (by rw [H.parts (vs := [(0, (.pointer (some (blk b30))))]) rfl]; exact bs_36_1_p0 w31 (some (blk b30))) (lt_ rfl) ?_
  rw [← n35.at_]
  clear H a
  intro a H
  refine n35.go ?_
  obtain ⟨s36, w37, h38, h⟩ := h
  refine s_blt H rfl (H.args (vs := [l28.v, (Slc.v (Slc.mk (some (blk b33)) 1 1))]) rfl) (lt_ rfl) (fun cs => b_app (z := s36) h38) ?_
  clear H a h38
  intro a H
  refine ww H <| nl rfl rfl <| fd rfl fld_38_1 rfl <| st h rfl rfl one_36 rfl fun w39 w39S h => fun a H => nk hK27 <| c_reg <| ww H <| mv rfl rfl <| bn rfl rfl r_add rfl <| ag rfl rfl <| fun a H => c_nil <| Exists.intro (wr .i64 (i18 + 1)) ⟨h.1, h.2, H.weaken ⟨rfl, rfl, trivial⟩⟩
 ·refine c_exit ?_
  first | (simp only [Exit.then, Exit.inBlock, ↓reduceIte]; fail_if_success simp only [Nat.reduceEqDiff]) | simp only [Exit.then, Exit.inBlock, ↓reduceIte, Nat.reduceEqDiff]
  exact hK16 _ _ <| sr fun K42 hK42 => ww H <| mv rfl rfl <| ag rfl rfl <| fun a H => nk hK42 <| c_ret <| e_ret1 H rfl rfl h

theorem sim_client_New (N1 K2 D3 i4 : Int) (w : World) (Q : Ending → World → Prop) (h : vc_client_New N1 K2 D3 i4 w Q) : Calls PP F_client_New #[(.agg #[(.i N1), (.i K2), (.i D3)]), (.i i4)] w Q := by
 unfold vc_client_New at h
 have eP {L : List (Nat × Value)} (c : List PanicEntry) (w' : World) (a : Act) (h : Q (.panicked c) w') (H : Has 37 [] a L) : bodyPost PP Tryz.f8 Q (.panic c) a w' := e_panic H h
 refine enter (n := 37) Tryz.func8 rfl rfl (le_ rfl) fun a H => sr fun K5 hK5 => ww H <| bx h rfl rfl rfl rfl fun b6 w7 n8 h => ag rfl rfl <| ag rfl rfl <| fun a H => nk hK5 <| c_seq fun K9 hK9 => sr fun K10 hK10 => ww H <| lN (l := [(.i N1), (.i K2), (.i D3)]) rfl agg_35 rfl ⟨(n8.cell (i := 0) rfl), (n8.cell (i := 1) rfl), (n8.cell (i := 2) rfl), trivial⟩ rfl <| cl1 h body_35 rfl rfl eP fun C12 w11 h => ag rfl rfl <| fun a H => nk hK10 <| sr fun K13 hK13 => ww H <| mv rfl rfl <| bn rfl rfl r_neq rfl <| fun a H => nk hK13 <| cd H rfl h (fun h14 h => ?_) (fun h14 h => ?_)
 ·exact sr fun K15 hK15 => ww H <| mv rfl rfl <| ag rfl rfl <| ag rfl rfl <| fun a H => nk hK15 <| c_ret <| e_ret2 H rfl rfl rfl h
 ·refine c_skip <| hK9 _ _ <| c_seq fun K16 hK16 => sr fun K17 hK17 => ww H <| mv rfl rfl <| bn rfl rfl r_lss rfl <| mv rfl rfl <| fun a H => g_join (n := 37) [(19, (.bool ((decide (i4 < 1)) || (decide (65535 < i4))))), (1, (.i i4)), (2, (.pointer (some (blk b6))))] (.succ (.succ (.succ (.zero _)))) ?_ ?_
  ·intro h19
   try clear h
   rcases Bool.eq_false_or_eq_true (decide (i4 < 1)) with h18 | h18
   ·replace H := H.ch (t := 16) (b := true) rfl h18
    exact ww H <| sk rfl rfl rfl rfl <| sk rfl rfl rfl rfl <| pT rfl rfl rfl <| fun a H => h19 _ (H.weaken ⟨by rw [h18]; rfl, rfl, rfl, trivial⟩)
   ·replace H := H.ch (t := 16) (b := false) rfl h18
    exact ww H <| gmv rfl rfl rfl rfl <| gbn rfl rfl rfl rfl r_gtr rfl <| pF rfl rfl rfl <| fun a H => h19 _ (H.weaken ⟨by rw [h18]; rfl, rfl, rfl, trivial⟩)
  ·clear H a
   intro a H
   refine nk hK17 <| cd H rfl h (fun h20 h => ?_) (fun h20 h => ?_)
   ·exact sr fun K21 hK21 => ww H <| ag rfl rfl <| ag rfl rfl <| fun a H => nk hK21 <| c_ret <| e_ret2 H rfl rfl rfl h
   ·obtain ⟨l23, hc24, l25, hc26, h⟩ := h
    refine c_skip <| hK16 _ _ <| sr fun K22 hK22 => ww H <| fd rfl fld_35_0 rfl <| ld rfl one_3 hc24 rfl <| fd rfl fld_35_1 rfl <| ld rfl one_3 hc26 rfl <| cl2 h body_11 rfl rfl eP fun N28 N29 w27 h => mv rfl rfl <| ex rfl rfl rfl <| ex rfl rfl rfl <| ag rfl rfl <| ag rfl rfl <| fun a H => nk hK22 <| c_seq fun K30 hK30 => sr fun K31 hK31 => ww H <| mv rfl rfl <| bn rfl rfl r_neq rfl <| fun a H => nk hK31 <| cd H rfl h (fun h32 h => ?_) (fun h32 h => ?_)
    ·exact sr fun K33 hK33 => ww H <| mv rfl rfl <| ag rfl rfl <| ag rfl rfl <| fun a H => nk hK33 <| c_ret <| e_ret2 H rfl rfl rfl h
    ·obtain ⟨N35, hc36, K37, hc38, D39, hc40, g41, w42, h43, h⟩ := h
     refine c_skip <| hK30 _ _ <| sr fun K34 hK34 => ww H <| lN (l := [(.i N35), (.i K37), (.i D39)]) rfl agg_35 rfl ⟨hc36, hc38, hc40, trivial⟩ rfl <| mv rfl rfl <| mv rfl rfl <| fun a H => s_mkm H rfl h43 (lt_ rfl) ?_
     clear H a h43
     intro a H
     exact s_build H rfl (by rw [H.parts (vs := [(0, (.agg #[(.i N35), (.i K37), (.i D39)])), (1, (.i i4)), (2, (.pointer N28)), (4, (.map (some g41)))]) rfl]; exact bd_102_ii64ii64ii640_ii641_p2_m4 _ N35 K37 D39 i4 N28 (some g41)) (lt_ rfl) fun a H => ww H <| bx h rfl rfl rfl rfl fun b44 w45 n46 h => ag rfl rfl <| ag rfl rfl <| fun a H => nk hK34 <| c_ret <| e_ret2 H rfl rfl rfl h

theorem sim_sherdlaw18_Tale_id (N1 K2 : Int) (V3 I4 P5 : Slc) (i6 : Int) (w : World) (Q : Ending → World → Prop) (h : vc_sherdlaw18_Tale_id N1 K2 V3 I4 P5 i6 w Q) : Calls PP F_sherdlaw18_Tale_id #[(.agg #[(.i N1), (.i K2), V3.v, I4.v, P5.v]), (.i i6)] w Q := by
 unfold vc_sherdlaw18_Tale_id at h
 have eP {L : List (Nat × Value)} (c : List PanicEntry) (w' : World) (a : Act) (h : Q (.panicked c) w') (H : Has 17 [] a L) : bodyPost PP Tryz.f9 Q (.panic c) a w' := e_panic H h
 refine enter (n := 17) Tryz.func9 rfl rfl (le_ rfl) fun a H => sr fun K7 hK7 => ww H <| bx h rfl rfl rfl rfl fun b8 w9 n10 h => ag rfl rfl <| fun a H => nk hK7 <| c_seq fun K11 hK11 => sr fun K12 hK12 => ww H <| mv rfl rfl <| fd rfl fld_25_3 rfl <| fun a H => s_load (v := I4.v) H rfl rfl one_23 (n10.cell (i := 3) rfl) (lt_ rfl) fun a H => ww H <| bl (vs := [I4.v]) rfl rfl (fun cs => b_lenS (z := I4) sl_23) <| bn rfl rfl r_lss rfl <| fun a H => nk hK12 <| cd H rfl h (fun h13 h => ?_) (fun h13 h => ?_)
 ·refine sr fun K14 hK14 => ww H <| fd rfl fld_25_3 rfl <| fun a H => s_load (v := I4.v) H rfl rfl one_23 (n10.cell (i := 3) rfl) (lt_ rfl) fun a H => ?_
  obtain ⟨a15, h16, h17, h18, h⟩ := h
  refine ww H <| mv rfl rfl <| fun a H => s_idxS (s := I4) H rfl rfl rfl slc_23 h16 h17 h18 (lt_ rfl) fun a H => ?_
  obtain ⟨l19, hc20, h⟩ := h
  exact ww H <| ld rfl one_3 hc20 rfl <| cl1 h body_34 rfl rfl eP fun m22 w21 h => bn rfl rfl r_add rfl <| ag rfl rfl <| fun a H => nk hK14 <| c_ret <| e_ret1 H rfl rfl h
 ·exact c_skip <| hK11 _ _ <| sr fun K27 hK27 => ww H <| ag rfl rfl <| fun a H => nk hK27 <| c_ret <| e_ret1 H rfl rfl h

theorem sim_quorum_Size (N1 K2 D3 : Int) (w : World) (Q : Ending → World → Prop) (h : vc_quorum_Size N1 K2 D3 w Q) : Calls PP F_quorum_Size #[(.agg #[(.i N1), (.i K2), (.i D3)])] w Q := by
 unfold vc_quorum_Size at h
 have eP {L : List (Nat × Value)} (c : List PanicEntry) (w' : World) (a : Act) (h : Q (.panicked c) w') (H : Has 14 [] a L) : bodyPost PP Tryz.f10 Q (.panic c) a w' := e_panic H h
 refine enter (n := 14) Tryz.func10 rfl rfl (le_ rfl) fun a H => sr fun K4 hK4 => ww H <| bx h rfl rfl rfl rfl fun b5 w6 n7 h => ag rfl rfl <| ag rfl rfl <| fun a H => nk hK4 <| c_seq fun K8 hK8 => sr fun K9 hK9 => ww H <| lN (l := [(.i N1), (.i K2), (.i D3)]) rfl agg_35 rfl ⟨(n7.cell (i := 0) rfl), (n7.cell (i := 1) rfl), (n7.cell (i := 2) rfl), trivial⟩ rfl <| cl1 h body_35 rfl rfl eP fun C11 w10 h => bn rfl rfl r_neq rfl <| fun a H => nk hK9 <| cd H rfl h (fun h12 h => ?_) (fun h12 h => ?_)
 ·exact sr fun K13 hK13 => ww H <| ag rfl rfl <| ag rfl rfl <| fun a H => nk hK13 <| c_ret <| e_ret2 H rfl rfl rfl h
 ·obtain ⟨l15, hc16, l17, hc18, h⟩ := h
  exact c_skip <| hK8 _ _ <| sr fun K14 hK14 => ww H <| fd rfl fld_35_0 rfl <| ld rfl one_3 hc16 rfl <| fd rfl fld_35_1 rfl <| ld rfl one_3 hc18 rfl <| bn rfl rfl r_add rfl <| bn rfl rfl r_add rfl <| bn rfl rfl (r_quo (by decide)) rfl <| ag rfl rfl <| ag rfl rfl <| fun a H => nk hK14 <| c_ret <| e_ret2 H rfl rfl rfl h

theorem sim_code_New (n1 k2 : Int) (w : World) (Q : Ending → World → Prop) (h : vc_code_New n1 k2 w Q) : Calls PP F_code_New #[(.i n1), (.i k2)] w Q := by
 unfold vc_code_New at h
 have eP {L : List (Nat × Value)} (c : List PanicEntry) (w' : World) (a : Act) (h : Q (.panicked c) w') (H : Has 28 [] a L) : bodyPost PP Tryz.f11 Q (.panic c) a w' := e_panic H h
 refine enter (n := 28) Tryz.func11 rfl rfl (le_ rfl) fun a H => sr fun K3 hK3 => ww H <| ag rfl rfl <| ag rfl rfl <| fun a H => nk hK3 <| c_seq fun K4 hK4 => sr fun K5 hK5 => ww H <| mv rfl rfl <| bn rfl rfl r_lss rfl <| mv rfl rfl <| fun a H => g_join (n := 28) [(13, (.bool ((decide (k2 < 1)) || (decide (n1 < k2))))), (0, (.i n1)), (1, (.i k2))] (.succ (.succ (.succ (.succ (.zero _))))) ?_ ?_
 ·intro h7
  try clear h
  rcases Bool.eq_false_or_eq_true (decide (k2 < 1)) with h6 | h6
  ·replace H := H.ch (t := 9) (b := true) rfl h6
   exact ww H <| sk rfl rfl rfl rfl <| sk rfl rfl rfl rfl <| sk rfl rfl rfl rfl <| pT rfl rfl rfl <| fun a H => h7 _ (H.weaken ⟨by rw [h6]; rfl, rfl, rfl, trivial⟩)
  ·replace H := H.ch (t := 9) (b := false) rfl h6
   exact ww H <| gmv rfl rfl rfl rfl <| gmv rfl rfl rfl rfl <| gbn rfl rfl rfl rfl r_lss rfl <| pF rfl rfl rfl <| fun a H => h7 _ (H.weaken ⟨by rw [h6]; rfl, rfl, rfl, trivial⟩)
 ·clear H a
  intro a H
  refine ww H <| mv rfl rfl <| fun a H => g_join (n := 28) [(17, (.bool (((decide (k2 < 1)) || (decide (n1 < k2))) || (decide (255 < n1))))), (0, (.i n1)), (1, (.i k2))] (.succ (.succ (.succ (.zero _)))) ?_ ?_
  ·intro h9
   try clear h
   rcases Bool.eq_false_or_eq_true ((decide (k2 < 1)) || (decide (n1 < k2))) with h8 | h8
   ·replace H := H.ch (t := 14) (b := true) rfl h8
    exact ww H <| sk rfl rfl rfl rfl <| sk rfl rfl rfl rfl <| pT rfl rfl rfl <| fun a H => h9 _ (H.weaken ⟨by rw [h8]; rfl, rfl, rfl, trivial⟩)
   ·replace H := H.ch (t := 14) (b := false) rfl h8
    exact ww H <| gmv rfl rfl rfl rfl <| gbn rfl rfl rfl rfl r_gtr rfl <| pF rfl rfl rfl <| fun a H => h9 _ (H.weaken ⟨by rw [h8]; rfl, rfl, rfl, trivial⟩)
  ·clear H a
   intro a H
   refine nk hK5 <| cd H rfl h (fun h10 h => ?_) (fun h10 h => ?_)
   ·exact sr fun K11 hK11 => ww H <| ag rfl rfl <| ag rfl rfl <| fun a H => nk hK11 <| c_ret <| e_ret2 H rfl rfl rfl h
   ·exact c_skip <| hK4 _ _ <| sr fun K12 hK12 => ww H <| cl1 h body_36 rfl rfl eP fun S14 w13 h => ag rfl rfl <| fun a H => nk hK12 <| sr fun K15 hK15 => ww H <| mv rfl rfl <| mv rfl rfl <| mv rfl rfl <| mv rfl rfl <| mv rfl rfl <| mv rfl rfl <| cl1 h body_37 rfl rfl eP fun g17 w16 h => fun a H => s_build H rfl (by rw [H.parts (vs := [(0, (.pointer S14)), (1, (.i n1)), (2, (.i k2)), (3, g17.v)]) rfl]; exact bd_107_p0_ii641_ii642_s3 _ S14 n1 k2 g17) (lt_ rfl) fun a H => ww H <| bx h rfl rfl rfl rfl fun b18 w19 n20 h => ag rfl rfl <| ag rfl rfl <| fun a H => nk hK15 <| c_ret <| e_ret2 H rfl rfl rfl h

theorem sim_sherdlaw18_awake (w : World) (Q : Ending → World → Prop) (h : vc_sherdlaw18_awake w Q) : Calls PP F_sherdlaw18_awake #[] w Q := by
 unfold vc_sherdlaw18_awake at h
 have eP {L : List (Nat × Value)} (c : List PanicEntry) (w' : World) (a : Act) (h : Q (.panicked c) w') (H : Has 90 [] a L) : bodyPost PP Tryz.f12 Q (.panic c) a w' := e_panic H h
 refine enter (n := 90) Tryz.func12 rfl rfl (le_ rfl) fun a H => sr fun K1 hK1 => ww H <| ag rfl rfl <| fun a H => nk hK1 <| sr fun K2 hK2 => s_build H rfl (by rw [H.parts (vs := [(0, (.i 3)), (1, (.i 1))]) rfl]; exact bd_35_ii640_ii641 _ 3 1) (lt_ rfl) fun a H => ww H <| cl2 h body_8 rfl rfl eP fun N4 N5 w3 h => mv rfl rfl <| ex rfl rfl rfl <| ex rfl rfl rfl <| ag rfl rfl <| ag rfl rfl <| fun a H => nk hK2 <| c_seq fun K6 hK6 => sr fun K7 hK7 => ww H <| mv rfl rfl <| bn rfl rfl r_neq rfl <| mv rfl rfl <| fun a H => g_join (n := 90) [(18, (.bool ((decide (N5 ≠ 0)) || N4.isNone))), (1, (.pointer N4))] (.succ (.succ (.succ (.zero _)))) ?_ ?_
 ·intro h9
  try clear h
  rcases Bool.eq_false_or_eq_true (decide (N5 ≠ 0)) with h8 | h8
  ·replace H := H.ch (t := 15) (b := true) rfl h8
   exact ww H <| sk rfl rfl rfl rfl <| sk rfl rfl rfl rfl <| pT rfl rfl rfl <| fun a H => h9 _ (H.weaken ⟨by rw [h8]; rfl, rfl, trivial⟩)
  ·replace H := H.ch (t := 15) (b := false) rfl h8
   exact ww H <| gmv rfl rfl rfl rfl <| gbn rfl rfl rfl rfl (r_eqP0 ptr_30) rfl <| pF rfl rfl rfl <| fun a H => h9 _ (H.weaken ⟨by rw [h8]; rfl, rfl, trivial⟩)
 ·clear H a
  intro a H
  refine nk hK7 <| cd H rfl h (fun h10 h => ?_) (fun h10 h => ?_)
  ·exact sr fun K11 hK11 => ww H <| ag rfl rfl <| fun a H => nk hK11 <| c_ret <| e_ret1 H rfl rfl h
  ·refine c_skip <| hK6 _ _ <| sr fun K12 hK12 => ww H <| mv rfl rfl <| fun a H => ?_
   replace h := h.get
   obtain ⟨b13, w14, n15, h⟩ := h
   refine s_bslc H rfl (by rw [H.parts (vs := [(0, (.int .u8 120))]) rfl]; exact bs_49_1_iu80 w3 120) (lt_ rfl) ?_
   rw [← n15.at_]
   clear H a
   intro a H
   refine n15.go ?_
   obtain ⟨w17, h16, h⟩ := h
   refine s_cv H rfl rfl h16 (lt_ rfl) ?_
   clear H a h16
   intro a H
   refine ww H <| cl3 h body_13 rfl rfl eP fun P19 P20 P21 w18 h => mv rfl rfl <| ex rfl rfl rfl <| ex rfl rfl rfl <| ex rfl rfl rfl <| ag rfl rfl <| ag rfl rfl <| ag rfl rfl <| fun a H => nk hK12 <| c_seq fun K22 hK22 => sr fun K23 hK23 => ww H <| mv rfl rfl <| bn rfl rfl r_neq rfl <| mv rfl rfl <| fun a H => g_join (n := 90) [(32, (.bool ((decide (P21 ≠ 0)) || (decide (P19 ≠ 1))))), (1, (.pointer N4)), (4, P20.v)] (.succ (.succ (.succ (.zero _)))) ?_ ?_
   ·intro h25
    try clear h
    rcases Bool.eq_false_or_eq_true (decide (P21 ≠ 0)) with h24 | h24
    ·replace H := H.ch (t := 29) (b := true) rfl h24
     exact ww H <| sk rfl rfl rfl rfl <| sk rfl rfl rfl rfl <| pT rfl rfl rfl <| fun a H => h25 _ (H.weaken ⟨by rw [h24]; rfl, rfl, rfl, trivial⟩)
    ·replace H := H.ch (t := 29) (b := false) rfl h24
     exact ww H <| gmv rfl rfl rfl rfl <| gbn rfl rfl rfl rfl r_neq rfl <| pF rfl rfl rfl <| fun a H => h25 _ (H.weaken ⟨by rw [h24]; rfl, rfl, rfl, trivial⟩)
   ·clear H a
    intro a H
    refine ww H <| mv rfl rfl <| fun a H => g_join (n := 90) [(37, (.bool (((decide (P21 ≠ 0)) || (decide (P19 ≠ 1))) || (decide ((P20.l : Int) ≠ 3))))), (1, (.pointer N4)), (4, P20.v)] (.succ (.succ (.succ (.succ (.zero _))))) ?_ ?_
    ·intro h27
     try clear h
     rcases Bool.eq_false_or_eq_true ((decide (P21 ≠ 0)) || (decide (P19 ≠ 1))) with h26 | h26
     ·replace H := H.ch (t := 33) (b := true) rfl h26
      exact ww H <| sk rfl rfl rfl rfl <| sk rfl rfl rfl rfl <| sk rfl rfl rfl rfl <| pT rfl rfl rfl <| fun a H => h27 _ (H.weaken ⟨by rw [h26]; rfl, rfl, rfl, trivial⟩)
     ·replace H := H.ch (t := 33) (b := false) rfl h26
      exact ww H <| gmv rfl rfl rfl rfl <| fun a H => s_blt H (wantG H rfl rfl) (H.args (vs := [P20.v]) rfl) (lt_ rfl) (fun cs => b_lenS (z := P20) sl_46) fun a H => ww H <| gbn rfl rfl rfl rfl r_neq rfl <| pF rfl rfl rfl <| fun a H => h27 _ (H.weaken ⟨by rw [h26]; rfl, rfl, rfl, trivial⟩)
    ·clear H a
     intro a H
     obtain ⟨x36, h37, h38, h⟩ := h
     refine ww H <| mv rfl rfl <| fun a H => g_join (n := 90) [(44, (.bool x36)), (1, (.pointer N4)), (4, P20.v)] (.succ (.succ (.succ (.succ (.succ (.succ (.zero _))))))) ?_ ?_
     ·intro h29
      try clear h
      rcases Bool.eq_false_or_eq_true (((decide (P21 ≠ 0)) || (decide (P19 ≠ 1))) || (decide ((P20.l : Int) ≠ 3))) with h28 | h28
      ·replace H := H.ch (t := 38) (b := true) rfl h28
       refine ww H <| sk rfl rfl rfl rfl <| sk rfl rfl rfl rfl <| sk rfl rfl rfl rfl <| sk rfl rfl rfl rfl <| sk rfl rfl rfl rfl <| pT rfl rfl rfl <| fun a H => ?_
       replace h := h38 h28
       subst h
       exact h29 _ (H.weaken ⟨rfl, rfl, rfl, trivial⟩)
      ·replace H := H.ch (t := 38) (b := false) rfl h28
       replace h := h37 h28
       obtain ⟨a30, h31, h32, h33, h⟩ := h
       refine ww H <| gmv rfl rfl rfl rfl <| fun a H => s_idxS (s := P20) H (wantG H rfl rfl) rfl rfl slc_46 h31 h32 h33 (lt_ rfl) fun a H => ?_
       obtain ⟨l34, hc35, h⟩ := h
       refine ww H <| gfd rfl rfl rfl fld_56_0 rfl <| gld rfl rfl rfl one_3 hc35 rfl <| gbn rfl rfl rfl rfl r_neq rfl <| pF rfl rfl rfl <| fun a H => ?_
       subst h
       exact h29 _ (H.weaken ⟨rfl, rfl, rfl, trivial⟩)
     ·clear H a
      clear h37 h38
      intro a H
      obtain ⟨x47, h48, h49, h⟩ := h
      refine ww H <| mv rfl rfl <| fun a H => g_join (n := 90) [(51, (.bool x47)), (1, (.pointer N4))] (.succ (.succ (.succ (.succ (.succ (.succ (.zero _))))))) ?_ ?_
      ·intro h40
       try clear h
       rcases Bool.eq_false_or_eq_true x36 with h39 | h39
       ·replace H := H.ch (t := 45) (b := true) rfl h39
        refine ww H <| sk rfl rfl rfl rfl <| sk rfl rfl rfl rfl <| sk rfl rfl rfl rfl <| sk rfl rfl rfl rfl <| sk rfl rfl rfl rfl <| pT rfl rfl rfl <| fun a H => ?_
        replace h := h49 h39
        subst h
        exact h40 _ (H.weaken ⟨rfl, rfl, trivial⟩)
       ·replace H := H.ch (t := 45) (b := false) rfl h39
        replace h := h48 h39
        obtain ⟨a41, h42, h43, h44, h⟩ := h
        refine ww H <| gmv rfl rfl rfl rfl <| fun a H => s_idxS (s := P20) H (wantG H rfl rfl) rfl rfl slc_46 h42 h43 h44 (lt_ rfl) fun a H => ?_
        obtain ⟨l45, hc46, h⟩ := h
        refine ww H <| gfd rfl rfl rfl fld_56_2 rfl <| gld rfl rfl rfl one_3 hc46 rfl <| gbn rfl rfl rfl rfl r_neq rfl <| pF rfl rfl rfl <| fun a H => ?_
        subst h
        exact h40 _ (H.weaken ⟨rfl, rfl, trivial⟩)
      ·clear H a
       clear h48 h49
       intro a H
       refine nk hK23 <| cd H rfl h (fun h50 h => ?_) (fun h50 h => ?_)
       ·exact sr fun K51 hK51 => ww H <| ag rfl rfl <| fun a H => nk hK51 <| c_ret <| e_ret1 H rfl rfl h
       ·refine c_skip <| hK22 _ _ <| sr fun K52 hK52 => ww H <| mv rfl rfl <| fun a H => s_build H rfl (by rw [H.parts (vs := [(0, (.i 4)), (1, (.i 9))]) rfl]; exact bd_27_ii640_ii641 _ 4 9) (lt_ rfl) fun a H => s_build H rfl (by rw [H.parts (vs := [(0, (.i 2)), (1, (.i 7)), (2, (.i 0)), (3, (.i 1)), (4, (.string (ByteArray.mk #[107]))), (6, (.agg #[(.i 4), (.i 9)]))]) rfl]; exact bd_56_ii640_ii641_ii642_ii643_s4_ii64ii646 _ 2 7 0 1 (ByteArray.mk #[107]) 4 9) (lt_ rfl) fun a H => s_call H rfl body_19 (H.args (vs := [(.pointer N4), (.agg #[(.i 2), (.i 7), (.i 0), (.i 1), (.string (ByteArray.mk #[107])), (.i 0), (.i 0), (.i 4), (.i 9), (.bool false), Slc.nil.v])]) rfl) (lt_ rfl) h ?_ (fun c w' => eP c w' _)
        clear H h a
        rintro _ w53 a ⟨H54, O55, P56, S57, C58, C59, V60, H61, rfl, h⟩ H
        refine nk hK52 <| sr fun K62 hK62 => ww H <| mv rfl rfl <| fun a H => s_build H rfl (by rw [H.parts (vs := [(0, (.i 6)), (1, (.i 1))]) rfl]; exact bd_27_ii640_ii641 _ 6 1) (lt_ rfl) fun a H => s_build H rfl (by rw [H.parts (vs := [(0, (.i 2)), (1, (.i 7)), (2, (.i 0)), (3, (.i 1)), (4, (.string (ByteArray.mk #[107]))), (6, (.agg #[(.i 6), (.i 1)]))]) rfl]; exact bd_56_ii640_ii641_ii642_ii643_s4_ii64ii646 _ 2 7 0 1 (ByteArray.mk #[107]) 6 1) (lt_ rfl) fun a H => s_call H rfl body_19 (H.args (vs := [(.pointer N4), (.agg #[(.i 2), (.i 7), (.i 0), (.i 1), (.string (ByteArray.mk #[107])), (.i 0), (.i 0), (.i 6), (.i 1), (.bool false), Slc.nil.v])]) rfl) (lt_ rfl) h ?_ (fun c w' => eP c w' _)
        clear H h a
        rintro _ w63 a ⟨H64, O65, P66, S67, C68, C69, V70, H71, rfl, h⟩ H
        refine nk hK62 <| sr fun K72 hK72 => ww H <| mv rfl rfl <| fun a H => s_build H rfl (by rw [H.parts (vs := [(0, (.i 2)), (1, (.i 2))]) rfl]; exact bd_27_ii640_ii641 _ 2 2) (lt_ rfl) fun a H => s_build H rfl (by rw [H.parts (vs := [(0, (.i 2)), (1, (.i 7)), (2, (.i 2)), (3, (.i 1)), (4, (.string (ByteArray.mk #[107]))), (6, (.agg #[(.i 2), (.i 2)]))]) rfl]; exact bd_56_ii640_ii641_ii642_ii643_s4_ii64ii646 _ 2 7 2 1 (ByteArray.mk #[107]) 2 2) (lt_ rfl) fun a H => s_call H rfl body_19 (H.args (vs := [(.pointer N4), (.agg #[(.i 2), (.i 7), (.i 2), (.i 1), (.string (ByteArray.mk #[107])), (.i 0), (.i 0), (.i 2), (.i 2), (.bool false), Slc.nil.v])]) rfl) (lt_ rfl) h ?_ (fun c w' => eP c w' _)
        clear H h a
        rintro _ w73 a ⟨H74, O75, P76, S77, C78, C79, V80, H81, rfl, h⟩ H
        refine ww H <| mv rfl rfl <| ex rfl rfl rfl <| ex rfl rfl rfl <| ex rfl rfl rfl <| al h zero_60 rfl rfl rfl fun b82 w83 n84 h => ag rfl rfl <| sN h rfl rfl agg_60 rfl rfl fun w85 h => ag rfl rfl <| fun a H => nk hK72 <| sr fun K86 hK86 => ww H <| mv rfl rfl <| fun a H => s_un H rfl rfl r_not (lt_ rfl) fun a H => ww H <| mv rfl rfl <| fun a H => g_join (n := 90) [(74, (.bool ((!H81) && (decide ((H74.l : Int) = 3))))), (5, H74.v)] (.succ (.succ (.succ (.succ (.zero _))))) ?_ ?_
        ·intro h88
         try clear h
         rcases Bool.eq_false_or_eq_true (!H81) with h87 | h87
         ·replace H := H.ch (t := 70) (b := true) rfl h87
          exact ww H <| gmv rfl rfl rfl rfl <| fun a H => s_blt H (wantG H rfl rfl) (H.args (vs := [H74.v]) rfl) (lt_ rfl) (fun cs => b_lenS (z := H74) sl_46) fun a H => ww H <| gbn rfl rfl rfl rfl r_eql rfl <| pT rfl rfl rfl <| fun a H => h88 _ (H.weaken ⟨by rw [h87]; rfl, rfl, trivial⟩)
         ·replace H := H.ch (t := 70) (b := false) rfl h87
          exact ww H <| sk rfl rfl rfl rfl <| sk rfl rfl rfl rfl <| sk rfl rfl rfl rfl <| pF rfl rfl rfl <| fun a H => h88 _ (H.weaken ⟨by rw [h87]; rfl, rfl, trivial⟩)
        ·clear H a
         intro a H
         obtain ⟨x97, h98, h99, h⟩ := h
         refine ww H <| mv rfl rfl <| fun a H => g_join (n := 90) [(81, (.bool x97)), (5, H74.v)] (.succ (.succ (.succ (.succ (.succ (.succ (.zero _))))))) ?_ ?_
         ·intro h90
          try clear h
          rcases Bool.eq_false_or_eq_true ((!H81) && (decide ((H74.l : Int) = 3))) with h89 | h89
          ·replace H := H.ch (t := 75) (b := true) rfl h89
           replace h := h98 h89
           obtain ⟨a91, h92, h93, h94, h⟩ := h
           refine ww H <| gmv rfl rfl rfl rfl <| fun a H => s_idxS (s := H74) H (wantG H rfl rfl) rfl rfl slc_46 h92 h93 h94 (lt_ rfl) fun a H => ?_
           obtain ⟨l95, hc96, h⟩ := h
           refine ww H <| gfd rfl rfl rfl fld_56_0 rfl <| gld rfl rfl rfl one_3 hc96 rfl <| gbn rfl rfl rfl rfl r_eql rfl <| pT rfl rfl rfl <| fun a H => ?_
           subst h
           exact h90 _ (H.weaken ⟨rfl, rfl, trivial⟩)
          ·replace H := H.ch (t := 75) (b := false) rfl h89
           refine ww H <| sk rfl rfl rfl rfl <| sk rfl rfl rfl rfl <| sk rfl rfl rfl rfl <| sk rfl rfl rfl rfl <| sk rfl rfl rfl rfl <| pF rfl rfl rfl <| fun a H => ?_
           replace h := h99 h89
           subst h
           exact h90 _ (H.weaken ⟨rfl, rfl, trivial⟩)
         ·clear H a
          clear h98 h99
          intro a H
          obtain ⟨x110, h111, h112, h⟩ := h
          refine ww H <| mv rfl rfl <| fun a H => g_join (n := 90) [(89, (.bool x110))] (.succ (.succ (.succ (.succ (.succ (.succ (.succ (.zero _)))))))) ?_ ?_
          ·intro h101
           try clear h
           rcases Bool.eq_false_or_eq_true x97 with h100 | h100
           ·replace H := H.ch (t := 82) (b := true) rfl h100
            replace h := h111 h100
            obtain ⟨a102, h103, h104, h105, h⟩ := h
            refine ww H <| gmv rfl rfl rfl rfl <| fun a H => s_idxS (s := H74) H (wantG H rfl rfl) rfl rfl slc_46 h103 h104 h105 (lt_ rfl) fun a H => ?_
            obtain ⟨C106, hc107, C108, hc109, h⟩ := h
            refine ww H <| gfd rfl rfl rfl fld_56_5 rfl <| glN (l := [(.i C106), (.i C108)]) rfl rfl rfl agg_27 rfl ⟨hc107, hc109, trivial⟩ rfl <| fun a H => s_build H (wantG H rfl rfl) (by rw [H.parts (vs := [(0, (.i 6)), (1, (.i 7))]) rfl]; exact bd_27_ii640_ii641 _ 6 7) (lt_ rfl) fun a H => ww H <| gbn rfl rfl rfl rfl (r_eqst eqg_27 (eqst_27 0) rfl) rfl <| pT rfl rfl rfl <| fun a H => ?_
            subst h
            exact h101 _ (H.weaken ⟨rfl, trivial⟩)
           ·replace H := H.ch (t := 82) (b := false) rfl h100
            refine ww H <| sk rfl rfl rfl rfl <| sk rfl rfl rfl rfl <| sk rfl rfl rfl rfl <| sk rfl rfl rfl rfl <| sk rfl rfl rfl rfl <| sk rfl rfl rfl rfl <| pF rfl rfl rfl <| fun a H => ?_
            replace h := h112 h100
            subst h
            exact h101 _ (H.weaken ⟨rfl, trivial⟩)
          ·clear H a
           clear h111 h112
           intro a H
           exact ww H <| ag rfl rfl <| fun a H => nk hK86 <| c_ret <| e_ret1 H rfl rfl h

theorem sim_client_Client_Put (c1 : Option Addr) (k2 : ByteArray) (v3 : Slc) (w : World) (Q : Ending → World → Prop) (h : vc_client_Client_Put c1 k2 v3 w Q) : Calls PP F_client_Client_Put #[(.pointer c1), (.string k2), v3.v] w Q := by
 unfold vc_client_Client_Put at h
 have eP {L : List (Nat × Value)} (c : List PanicEntry) (w' : World) (a : Act) (h : Q (.panicked c) w') (H : Has 18 [] a L) : bodyPost PP Tryz.f13 Q (.panic c) a w' := e_panic H h
 refine enter (n := 18) Tryz.func13 rfl rfl (le_ rfl) fun a H => sr fun K4 hK4 => ww H <| ag rfl rfl <| ag rfl rfl <| ag rfl rfl <| fun a H => nk hK4 <| c_seq fun K5 hK5 => sr fun K6 hK6 => ww H <| mv rfl rfl <| bn rfl rfl (r_eqP0 ptr_30) rfl <| fun a H => nk hK6 <| cd H rfl h (fun h7 h => ?_) (fun h7 h => ?_)
 ·exact sr fun K8 hK8 => ww H <| ag rfl rfl <| ag rfl rfl <| ag rfl rfl <| fun a H => nk hK8 <| c_ret <| e_ret3 H rfl rfl rfl rfl h
 ·exact c_skip <| hK5 _ _ <| sr fun K9 hK9 => ww H <| mv rfl rfl <| mv rfl rfl <| mv rfl rfl <| cl3 h body_38 rfl rfl eP fun b11 b12 b13 w10 h => ex rfl rfl rfl <| ex rfl rfl rfl <| ex rfl rfl rfl <| ag rfl rfl <| ag rfl rfl <| ag rfl rfl <| fun a H => nk hK9 <| c_ret <| e_ret3 H rfl rfl rfl rfl h

end Go.Proofs.YtabifopphhpciaaGreatDoor
