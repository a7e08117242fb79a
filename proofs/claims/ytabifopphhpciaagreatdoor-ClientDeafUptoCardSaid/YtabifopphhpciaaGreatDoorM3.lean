/-
  The conditions give the machine's calls; printed by vcgen.py.
-/
import Derived.Test.YtabifopphhpciaaGreatDoorRecVc
namespace Go.Proofs.YtabifopphhpciaaGreatDoor
open Go Go.Vc
set_option maxRecDepth 100000
set_option maxHeartbeats 4000000
theorem sim_tag_Valid (C1 C2 : Int) (w : World) (Q : Ending → World → Prop) (h : vc_tag_Valid C1 C2 w Q) : Calls PP F_tag_Valid #[(.agg #[(.i C1), (.i C2)])] w Q := by
 unfold vc_tag_Valid at h
 have eP {L : List (Nat × Value)} (c : List PanicEntry) (w' : World) (a : Act) (h : Q (.panicked c) w') (H : Has 9 [] a L) : bodyPost PP Tryz.f15 Q (.panic c) a w' := e_panic H h
 refine enter (n := 9) Tryz.func15 rfl rfl (le_ rfl) fun a H => sr fun K3 hK3 => ww H <| bx h rfl rfl rfl rfl fun b4 w5 n6 h => ag rfl rfl <| fun a H => nk hK3 <| sr fun K7 hK7 => ww H <| lN (l := [(.i C1), (.i C2)]) rfl agg_27 rfl ⟨(n6.cell (i := 0) rfl), (n6.cell (i := 1) rfl), trivial⟩ rfl <| cl1 h body_39 rfl rfl eP fun Z9 w8 h => mv rfl rfl <| fun a H => ?_
 obtain ⟨R12, h, h25⟩ := h
 refine g_joinW (n := 9) R12 (fun x13 => [(8, (.bool x13))]) (.succ (.succ (.succ (.zero _)))) ?_ ?_
 ·intro h11
  clear h25
  rcases Bool.eq_false_or_eq_true Z9 with h10 | h10
  ·replace H := H.ch (t := 5) (b := true) rfl h10
   replace h := h.2 h10
   exact ww H <| sk rfl rfl rfl rfl <| sk rfl rfl rfl rfl <| pT rfl rfl rfl <| fun a H => h11 _ _ _ h (H.weaken ⟨rfl, trivial⟩)
  ·replace H := H.ch (t := 5) (b := false) rfl h10
   replace h := h.1 h10
   obtain ⟨C15, hc16, C17, hc18, h⟩ := h
   refine ww H <| glN (l := [(.i C15), (.i C17)]) rfl rfl rfl agg_27 rfl ⟨hc16, hc18, trivial⟩ rfl <| fun a H => s_call H (wantG H rfl rfl) body_40 (H.args (vs := [(.agg #[(.i C15), (.i C17)])]) rfl) (lt_ rfl) h ?_ (fun c w' => eP c w' _)
   clear H h a
   rintro _ w19 a ⟨p20, rfl, h⟩ H
   exact ww H <| pF rfl rfl rfl <| fun a H => h11 _ _ _ h (H.weaken ⟨rfl, trivial⟩)
 ·clear H a h
  intro a x13 w14 h H
  replace h := h25 x13 w14 h
  clear h25
  exact ww H <| ag rfl rfl <| fun a H => nk hK7 <| c_ret <| e_ret1 H rfl rfl h

theorem sim_client_Client_Tick (c1 : Option Addr) (w : World) (Q : Ending → World → Prop) (h : vc_client_Client_Tick c1 w Q) : Calls PP F_client_Client_Tick #[(.pointer c1)] w Q := by
 unfold vc_client_Client_Tick at h
 have eP {L : List (Nat × Value)} (c : List PanicEntry) (w' : World) (a : Act) (h : Q (.panicked c) w') (H : Has 49 [] a L) : bodyPost PP Tryz.f18 Q (.panic c) a w' := e_panic H h
 refine enter (n := 49) Tryz.func18 rfl rfl (le_ rfl) fun a H => ?_
 obtain ⟨x11, h12, h13, h⟩ := h
 refine sr fun K2 hK2 => ww H <| ag rfl rfl <| fun a H => nk hK2 <| c_seq fun K3 hK3 => sr fun K4 hK4 => ww H <| mv rfl rfl <| bn rfl rfl (r_eqP0 ptr_30) rfl <| mv rfl rfl <| fun a H => g_join (n := 49) [(14, (.bool x11)), (0, (.pointer c1))] (.succ (.succ (.succ (.succ (.succ (.succ (.zero _))))))) ?_ ?_
 ·intro h6
  try clear h
  rcases Bool.eq_false_or_eq_true c1.isNone with h5 | h5
  ·replace H := H.ch (t := 8) (b := true) rfl h5
   refine ww H <| sk rfl rfl rfl rfl <| sk rfl rfl rfl rfl <| sk rfl rfl rfl rfl <| sk rfl rfl rfl rfl <| sk rfl rfl rfl rfl <| pT rfl rfl rfl <| fun a H => ?_
   replace h := h13 h5
   subst h
   exact h6 _ (H.weaken ⟨rfl, rfl, trivial⟩)
  ·replace H := H.ch (t := 8) (b := false) rfl h5
   replace h := h12 h5
   obtain ⟨a7, h10, h⟩ := h
   refine ww H <| gmv rfl rfl rfl rfl <| fun a H => ?_
   revert H
   revert h
   subst h10
   intro h H
   obtain ⟨l8, hc9, h⟩ := h
   refine ww H <| gnl rfl rfl rfl rfl <| gfd rfl rfl rfl fld_102_5 rfl <| gld rfl rfl rfl one_100 hc9 rfl <| gbn rfl rfl rfl rfl (r_eqP0 ptr_100) rfl <| pF rfl rfl rfl <| fun a H => ?_
   subst h
   exact h6 _ (H.weaken ⟨rfl, rfl, trivial⟩)
 ·clear H a
  clear h12 h13
  intro a H
  refine nk hK4 <| cd H rfl h (fun h14 h => ?_) (fun h14 h => ?_)
  ·exact sr fun K15 hK15 => ww H <| ag rfl rfl <| fun a H => nk hK15 <| c_ret <| e_ret1 H rfl rfl h
  ·obtain ⟨a17, h85, h⟩ := h
   refine c_skip <| hK3 _ _ <| sr fun K16 hK16 => ww H <| mv rfl rfl <| fun a H => ?_
   revert H
   revert h
   subst h85
   intro h H
   obtain ⟨l18, hc19, a20, h84, h⟩ := h
   refine ww H <| nl rfl rfl <| fd rfl fld_102_5 rfl <| ld rfl one_100 hc19 rfl <| fun a H => ?_
   revert H
   revert h
   subst h84
   intro h H
   obtain ⟨l21, hc22, h⟩ := h
   refine ww H <| nl rfl rfl <| fd rfl fld_116_6 rfl <| ld rfl one_114 hc22 rfl <| cl1 h body_44 rfl rfl eP fun M24 w23 h => al h zero_23 rfl rfl rfl fun b25 w26 n27 h => st h rfl rfl one_23 rfl fun w28 w28S h => fun a H => nk hK16 <| c_seq fun K31 hK31 => ?_
   obtain ⟨R32, h, h79⟩ := h
   have h43 : ∀ (a : Act) (w33 : World), R32 w33 → Has 49 [] a [(0, (.pointer (some a17))), (3, (.pointer (some (blk b25))))] → K31 a w33 := by
    clear h
    intro a w33 h H
    replace h := h79 w33 h
    obtain ⟨l35, hc36, h⟩ := h
    exact hK31 _ _ <| sr fun K34 hK34 => ww H <| mv rfl rfl <| ld rfl one_23 hc36 rfl <| cl1 h body_48 rfl rfl eP fun r38 w37 h => ag rfl rfl <| fun a H => nk hK34 <| c_ret <| e_ret1 H rfl rfl h
   clear h79
   obtain ⟨l45, hc46, a47, h78, h⟩ := h
   refine sr fun K44 hK44 => ww H <| mv rfl rfl <| nl rfl rfl <| fd rfl fld_102_5 rfl <| ld rfl one_100 hc46 rfl <| fun a H => ?_
   revert H
   revert h
   subst h78
   intro h H
   obtain ⟨l48, hc49, h⟩ := h
   refine ww H <| nl rfl rfl <| fd rfl fld_116_4 rfl <| ld rfl one_113 hc49 rfl <| fun a H => ?_
   obtain ⟨_, h52, o50, rfl, h⟩ := h
   refine s_tas H rfl rfl (h52 _) (lt_ rfl) fun a H => ww H <| mv rfl rfl <| ex rfl rfl rfl <| ex rfl rfl rfl <| al h zero_121 rfl rfl rfl fun b53 w54 n55 h => sN h rfl rfl agg_121 rfl rfl fun w56 h => ag rfl rfl <| fun a H => nk hK44 <| sr fun K57 hK57 => ww H <| mv rfl rfl <| fun a H => nk hK57 <| cd H rfl h (fun h58 h => ?_) (fun h58 h => ?_)
   ·obtain ⟨l60, hc61, a62, h77, h⟩ := h
    refine sr fun K59 hK59 => ww H <| mv rfl rfl <| nl rfl rfl <| fd rfl fld_102_5 rfl <| ld rfl one_100 hc61 rfl <| fun a H => ?_
    revert H
    revert h
    subst h77
    intro h H
    obtain ⟨l63, hc64, h⟩ := h
    refine ww H <| nl rfl rfl <| fd rfl fld_116_6 rfl <| ld rfl one_114 hc64 rfl <| fun a H => s_mkf H rfl (H.args (vs := [(.pointer (some (blk b25)))]) rfl) (lt_ rfl) fun a H => s_call H rfl body_45 (H.args (vs := [(.pointer l63), (.func (.func F_client_Client_Tick_c1) #[] #[(.pointer (some (blk b25)))])]) rfl) (lt_ rfl) h ?_ (fun c w' => eP c w' _)
    clear H h a
    rintro _ w65 a ⟨rfl, h⟩ H
    obtain ⟨l66, hc67, h⟩ := h
    refine nk hK59 <| c_reg <| ww H <| ld rfl one_23 hc67 rfl <| fun a H => s_call H rfl body_47 (H.args (vs := [l66.v]) rfl) (lt_ rfl) h ?_ (fun c w' => eP c w' _)
    clear H h a
    rintro _ w68 a ⟨rfl, h⟩ H
    exact c_nil <| h43 _ _ h (H.weaken ⟨rfl, rfl, trivial⟩)
   ·exact c_skip <| h43 _ _ h (H.weaken ⟨rfl, rfl, trivial⟩)

theorem sim_client_Client_Handle (c1 : Option Addr) (K2 C3 S4 O5 : Int) (K6 : ByteArray) (C7 C8 C9 C10 : Int) (H11 : Bool) (D12 : Slc) (w : World) (Q : Ending → World → Prop) (h : vc_client_Client_Handle c1 K2 C3 S4 O5 K6 C7 C8 C9 C10 H11 D12 w Q) : Calls PP F_client_Client_Handle #[(.pointer c1), (.agg #[(.i K2), (.i C3), (.i S4), (.i O5), (.string K6), (.i C7), (.i C8), (.i C9), (.i C10), (.bool H11), D12.v])] w Q := by
 unfold vc_client_Client_Handle at h
 have eP {L : List (Nat × Value)} (c : List PanicEntry) (w' : World) (a : Act) (h : Q (.panicked c) w') (H : Has 89 [] a L) : bodyPost PP Tryz.f19 Q (.panic c) a w' := e_panic H h
 refine enter (n := 89) Tryz.func19 rfl rfl (le_ rfl) fun a H => sr fun K13 hK13 => ww H <| bx h rfl rfl rfl rfl fun b14 w15 n16 h => ag rfl rfl <| al h zero_60 rfl rfl rfl fun b17 w18 n19 h => ag rfl rfl <| fun a H => nk hK13 <| c_seq fun K20 hK20 => sr fun K21 hK21 => ww H <| mv rfl rfl <| bn rfl rfl (r_eqP0 ptr_30) rfl <| mv rfl rfl <| fun a H => ?_
 obtain ⟨R24, h, h242⟩ := h
 refine g_joinW (n := 89) R24 (fun x25 => [(17, (.bool x25)), (0, (.pointer c1)), (3, (.pointer (some (blk b14)))), (5, (.pointer (some (blk b17))))]) (.succ (.succ (.succ (.succ (.succ (.zero _)))))) ?_ ?_
 ·intro h23
  clear h242
  rcases Bool.eq_false_or_eq_true c1.isNone with h22 | h22
  ·replace H := H.ch (t := 12) (b := true) rfl h22
   replace h := h.2 h22
   exact ww H <| sk rfl rfl rfl rfl <| sk rfl rfl rfl rfl <| sk rfl rfl rfl rfl <| sk rfl rfl rfl rfl <| pT rfl rfl rfl <| fun a H => h23 _ _ _ h (H.weaken ⟨rfl, rfl, rfl, rfl, trivial⟩)
  ·replace H := H.ch (t := 12) (b := false) rfl h22
   replace h := h.1 h22
   refine ww H <| gmv rfl rfl rfl rfl <| glN (l := [(.i K2), (.i C3), (.i S4), (.i O5), (.string K6), (.i C7), (.i C8), (.i C9), (.i C10), (.bool H11), D12.v]) rfl rfl rfl agg_56 rfl ⟨(n19.old (n16.cell (i := 0) rfl)), (n19.old (n16.cell (i := 1) rfl)), (n19.old (n16.cell (i := 2) rfl)), (n19.old (n16.cell (i := 3) rfl)), (n19.old (n16.cell (i := 4) rfl)), (n19.old (n16.cell (i := 5) rfl)), (n19.old (n16.cell (i := 6) rfl)), (n19.old (n16.cell (i := 7) rfl)), (n19.old (n16.cell (i := 8) rfl)), (n19.old (n16.cell (i := 9) rfl)), (n19.old (n16.cell (i := 10) rfl)), trivial⟩ rfl <| fun a H => s_call H (wantG H rfl rfl) body_49 (H.args (vs := [(.pointer c1), (.agg #[(.i K2), (.i C3), (.i S4), (.i O5), (.string K6), (.i C7), (.i C8), (.i C9), (.i C10), (.bool H11), D12.v])]) rfl) (lt_ rfl) h ?_ (fun c w' => eP c w' _)
   clear H h a
   rintro _ w27 a ⟨c28, rfl, h⟩ H
   exact s_un H (wantG H rfl rfl) rfl r_not (lt_ rfl) fun a H => ww H <| pF rfl rfl rfl <| fun a H => h23 _ _ _ h (H.weaken ⟨rfl, rfl, rfl, rfl, trivial⟩)
 ·clear H a h
  intro a x25 w26 h H
  replace h := h242 x25 w26 h
  clear h242
  refine nk hK21 <| cd H rfl h (fun h33 h => ?_) (fun h33 h => ?_)
  ·refine sr fun K34 hK34 => s_build H rfl (by rw [H.parts (vs := []) rfl]; exact bd_60 _) (lt_ rfl) fun a H => ww H <| ag rfl rfl <| sN h rfl rfl agg_60 rfl rfl fun w35 h => ag rfl rfl <| fun a H => nk hK34 <| c_ret ?_
   obtain ⟨O36, hc37, P38, hc39, S40, hc41, C42, hc43, C44, hc45, V46, hc47, h⟩ := h
   exact e_ret3 H rfl rfl ⟨_, rfl, run_loadN (l := [(.i O36), (.bool P38), (.i S40), (.i C42), (.i C44), V46.v]) agg_60 rfl ⟨hc37, hc39, hc41, hc43, hc45, hc47, trivial⟩⟩ rfl h
  ·obtain ⟨a49, h241, h⟩ := h
   refine c_skip <| hK20 _ _ <| sr fun K48 hK48 => ww H <| mv rfl rfl <| fun a H => ?_
   revert H
   revert h
   subst h241
   intro h H
   obtain ⟨l50, hc51, a53, h54, h⟩ := h
   refine ww H <| nl rfl rfl <| fd rfl fld_102_5 rfl <| ld rfl one_100 hc51 rfl <| ag rfl rfl <| fun a H => nk hK48 <| c_seq fun K52 hK52 => ?_
   revert H
   revert h
   subst h54
   intro h H
   replace H := H.weaken (L' := [(0, (.pointer (some a49))), (3, (.pointer (some (blk b14)))), (5, (.pointer (some (blk b17)))), (7, (.pointer (some a53)))]) ⟨rfl, rfl, rfl, rfl, trivial⟩
   obtain ⟨l57, l60, h⟩ := h
   obtain ⟨R55, h239, h59, h62, h234, h235, h236, h237⟩ := h
   refine c_anyF (V := [(0, (.pointer (some a53))), (1, (.pointer (some a53))), (2, (.pointer (some (a53.add 7)))), (3, (.pointer l57)), (4, (.pointer (some ((blk b14).add 2)))), (5, (.i l60))]) 3 (⟨⟨[[], [0], [1], [2], [], [4], [3, 5], [6], [7], [7], [], [0, 1, 2, 3, 4, 5, 6, 7, 8, 10], [0, 1, 2, 3, 4, 5, 6, 7, 8, 9, 10, 11]], [some 24, some 25, some 26, some 27, some 28, some 29, some 30, some 23, some 31, some 32, some 8, none, some 9], [6, 10, 11], [], []⟩, [[], [], [], [], [], [], [], [6], [6], [6], [], [6, 10], [6, 10, 11]], [[6, 11], [6, 11], [6, 11], [6, 11], [6, 11], [6, 11], [11], [11], [11], [], [11], [], []]⟩ : Rh) [(0, (.pointer (some a49))), (3, (.pointer (some (blk b14)))), (5, (.pointer (some (blk b17)))), (7, (.pointer (some a53)))] mixed (by kernel_rfl) H fun F240 h238 => ?_
   clear H a
   have st_6_10_11 : ∀ (C64 : Int) (C65 : Int) (h66 : Bool) (d67 : Slc) (G68 : Bool) (b73 : Nat) (w56 : World), R55 (some (C64, C65, h66, d67, G68)) (some b73) (some ()) w56 → F240 0 [6, 10, 11] [(0, (.pointer (some a53))), (1, (.pointer (some a53))), (2, (.pointer (some (a53.add 7)))), (3, (.pointer l57)), (4, (.pointer (some ((blk b14).add 2)))), (5, (.i l60)), (6, (.tuple #[(.agg #[(.i C64), (.i C65), (.bool h66), d67.v]), (.bool G68)])), (7, (.tuple #[(.agg #[(.i C64), (.i C65), (.bool h66), d67.v]), (.bool G68)])), (8, (.agg #[(.i C64), (.i C65), (.bool h66), d67.v])), (9, (.bool G68)), (10, (.pointer (some (blk b73)))), (11, undef), (12, (.bool G68))] w56 := by
    intro C64 C65 h66 d67 G68 b73 w56 hr
    rw [h238]
    refine StT.last [9, 12] (by kernel_rfl) (by kernel_rfl) (.cons ?_ (.cons ?_ .nil)) ?_
    ·refine Ans.mk rfl rfl fun a H => ?_
     replace H := H.weaken (L' := [(23, (.tuple #[(.agg #[(.i C64), (.i C65), (.bool h66), d67.v]), (.bool G68)]))]) ⟨rfl, trivial⟩
     refine ww H <| ex rfl rfl rfl <| fun a H => c_nil ⟨rfl, rfl, H.weaken (L' := [(32, (.bool G68))]) ⟨rfl, trivial⟩⟩
    ·refine Ans.mk rfl rfl fun a H => ?_
     replace H := H.weaken (L' := [(32, (.bool G68))]) ⟨rfl, trivial⟩
     refine ww H <| ag rfl rfl <| fun a H => c_nil ⟨rfl, rfl, H.weaken (L' := [(9, (.bool G68))]) ⟨rfl, trivial⟩⟩
    ·intro a H
     have h := h237 C64 C65 h66 d67 G68 b73 w56 hr
     replace H := H.weaken (L' := [(0, (.pointer (some a49))), (3, (.pointer (some (blk b14)))), (5, (.pointer (some (blk b17)))), (7, (.pointer (some a53))), (8, (.pointer (some (blk b73))))]) ⟨rfl, rfl, rfl, rfl, rfl, trivial⟩
     refine hK52 _ _ <| c_seq fun K80 hK80 => ?_
     obtain ⟨R81, h, h233⟩ := h
     have h155 : ∀ (a : Act) (w82 : World), R81 w82 → Has 89 [] a [(0, (.pointer (some a49))), (3, (.pointer (some (blk b14)))), (5, (.pointer (some (blk b17)))), (7, (.pointer (some a53))), (8, (.pointer (some (blk b73))))] → K80 a w82 := by
      clear h
      intro a w82 h H
      replace h := h233 w82 h
      refine hK80 _ _ <| c_seq fun K83 hK83 => ?_
      replace H := H.weaken (L' := [(0, (.pointer (some a49))), (3, (.pointer (some (blk b14)))), (5, (.pointer (some (blk b17)))), (7, (.pointer (some a53))), (8, (.pointer (some (blk b73))))]) ⟨rfl, rfl, rfl, rfl, rfl, trivial⟩
      obtain ⟨l84, hc85, l86, hc87, C88, hc89, C90, hc91, h92, hc93, d94, hc95, h⟩ := h
      refine c_any (V := [(0, (.pointer (some a53))), (1, (.pointer (some a53))), (2, (.pointer (some (a53.add 7)))), (3, (.pointer l84)), (4, (.pointer (some ((blk b14).add 2)))), (5, (.i l86)), (6, (.agg #[(.i C88), (.i C90), (.bool h92), d94.v]))]) (⟨[[], [0], [1], [2], [], [4], [], [3, 5, 6]], [some 69, some 70, some 71, some 72, some 73, some 74, some 75, some 76], [7], [0, 0, 0, 0, 0, 0, 0, 0], [0, 0, 0, 0, 0, 0, 0, 1]⟩ : Rg) [(0, (.pointer (some a49))), (3, (.pointer (some (blk b14)))), (5, (.pointer (some (blk b17)))), (7, (.pointer (some a53))), (8, (.pointer (some (blk b73))))] mixed (by kernel_rfl) H <| Stg.eff [0, 1, 2, 3, 4, 5, 6] (by kernel_rfl) rfl (.cons ?_ (.cons ?_ (.cons ?_ (.cons ?_ (.cons ?_ (.cons ?_ (.cons ?_ .nil))))))) ?_
      ·exact Aw rfl rfl <| mv rfl rfl <| An rfl
      ·exact Aw rfl rfl <| nl rfl rfl <| An rfl
      ·exact Aw rfl rfl <| fd rfl fld_116_6 rfl <| An rfl
      ·exact Aw rfl rfl <| ld rfl one_114 hc85 rfl <| An rfl
      ·exact Aw rfl rfl <| fd rfl fld_56_2 rfl <| An rfl
      ·exact Aw rfl rfl <| ld rfl one_3 hc87 rfl <| An rfl
      ·exact Aw rfl rfl <| lN (l := [(.i C88), (.i C90), (.bool h92), d94.v]) rfl agg_119 rfl ⟨hc89, hc91, hc93, hc95, trivial⟩ rfl <| An rfl
      ·refine cl2 h body_53 rfl rfl eP fun A97 A98 w96 h => fun a H => c_nil <| effQ.go [] H rfl rfl <| Stg.fin [] (by kernel_rfl) .nil ?_
       ·intro a H
        replace H := H.weaken (L' := [(0, (.pointer (some a49))), (5, (.pointer (some (blk b17)))), (7, (.pointer (some a53)))]) ⟨rfl, rfl, rfl, trivial⟩
        obtain ⟨l101, hc102, h⟩ := h
        refine hK83 _ _ <| c_seq fun K99 hK99 => sr fun K100 hK100 => ww H <| mv rfl rfl <| nl rfl rfl <| fd rfl fld_116_6 rfl <| ld rfl one_114 hc102 rfl <| cl1 h body_54 rfl rfl eP fun M104 w103 h => fun a H => s_un H rfl rfl r_not (lt_ rfl) fun a H => nk hK100 <| cd H rfl h (fun h105 h => ?_) (fun h105 h => ?_)
        ·refine sr fun K106 hK106 => s_build H rfl (by rw [H.parts (vs := []) rfl]; exact bd_60 _) (lt_ rfl) fun a H => ww H <| ag rfl rfl <| sN h rfl rfl agg_60 rfl rfl fun w107 h => ag rfl rfl <| fun a H => nk hK106 <| c_ret ?_
         obtain ⟨O108, hc109, P110, hc111, S112, hc113, C114, hc115, C116, hc117, V118, hc119, h⟩ := h
         exact e_ret3 H rfl rfl ⟨_, rfl, run_loadN (l := [(.i O108), (.bool P110), (.i S112), (.i C114), (.i C116), V118.v]) agg_60 rfl ⟨hc109, hc111, hc113, hc115, hc117, hc119, trivial⟩⟩ rfl h
        ·refine c_skip <| hK99 _ _ <| sr fun K120 hK120 => ww H <| mv rfl rfl <| fun a H => s_call H rfl body_55 (H.args (vs := [(.pointer (some a49))]) rfl) (lt_ rfl) h ?_ (fun c w' => eP c w' _)
         clear H h a
         rintro _ w121 a ⟨m122, O123, P124, S125, C126, C127, V128, m129, rfl, h⟩ H
         refine ww H <| ex rfl rfl rfl <| ex rfl rfl rfl <| ex rfl rfl rfl <| ag rfl rfl <| sN h rfl rfl agg_60 rfl rfl fun w130 h => ag rfl rfl <| fun a H => nk hK120 <| c_ret ?_
         obtain ⟨O131, hc132, P133, hc134, S135, hc136, C137, hc138, C139, hc140, V141, hc142, h⟩ := h
         exact e_ret3 H rfl rfl ⟨_, rfl, run_loadN (l := [(.i O131), (.bool P133), (.i S135), (.i C137), (.i C139), V141.v]) agg_60 rfl ⟨hc132, hc134, hc136, hc138, hc140, hc142, trivial⟩⟩ rfl h
     clear h233
     obtain ⟨l157, hc158, h⟩ := h
     refine sr fun K156 hK156 => ww H <| mv rfl rfl <| nl rfl rfl <| fd rfl fld_116_4 rfl <| ld rfl one_113 hc158 rfl <| fun a H => nk hK156 <| c_block <| sr fun K159 hK159 => ?_
     obtain ⟨_, h162, o160, rfl, h⟩ := h
     refine s_tas H rfl rfl (h162 _) (lt_ rfl) fun a H => ww H <| ex rfl rfl rfl <| ex rfl rfl rfl <| fun a H => nk hK159 <| cd H rfl h (fun h163 h => ?_) (fun h163 h => ?_)
     ·obtain ⟨C164, hc165, C166, hc167, C168, hc169, C170, hc171, h⟩ := h
      refine c_reg <| ww H <| fd rfl fld_119_0 rfl <| lN (l := [(.i C164), (.i C166)]) rfl agg_27 rfl ⟨hc165, hc167, trivial⟩ rfl <| fd rfl fld_56_6 rfl <| lN (l := [(.i C168), (.i C170)]) rfl agg_27 rfl ⟨hc169, hc171, trivial⟩ rfl <| fun a H => ?_
      replace h := h.get
      obtain ⟨b172, w173, n174, h⟩ := h
      refine s_bslc H rfl (by rw [H.parts (vs := [(0, (.agg #[(.i C164), (.i C166)])), (1, (.agg #[(.i C168), (.i C170)]))]) rfl]; exact bs_174_2_ii64ii640_ii64ii641 w56 C164 C166 C168 C170) (lt_ rfl) ?_
      rw [← n174.at_]
      clear H a
      intro a H
      exact n174.go <| ww H <| cl2 h body_51 rfl rfl eP fun C176 C177 w175 h => fd rfl fld_119_0 rfl <| sN h rfl rfl agg_27 rfl rfl fun w178 h => fun a H => c_nil <| h155 _ _ h (H.weaken ⟨rfl, rfl, rfl, rfl, rfl, trivial⟩)
     ·refine sr fun K183 hK183 => ?_
      obtain ⟨_, h186, o184, rfl, h⟩ := h
      refine s_tas H rfl rfl (h186 _) (lt_ rfl) fun a H => ww H <| ex rfl rfl rfl <| ex rfl rfl rfl <| fun a H => nk hK183 <| cd H rfl h (fun h187 h => ?_) (fun h187 h => ?_)
      ·obtain ⟨C189, hc190, C191, hc192, C193, hc194, C195, hc196, h⟩ := h
       refine sr fun K188 hK188 => ww H <| fd rfl fld_119_0 rfl <| lN (l := [(.i C189), (.i C191)]) rfl agg_27 rfl ⟨hc190, hc192, trivial⟩ rfl <| fd rfl fld_56_6 rfl <| lN (l := [(.i C193), (.i C195)]) rfl agg_27 rfl ⟨hc194, hc196, trivial⟩ rfl <| fun a H => ?_
       replace h := h.get
       obtain ⟨b197, w198, n199, h⟩ := h
       refine s_bslc H rfl (by rw [H.parts (vs := [(0, (.agg #[(.i C189), (.i C191)])), (1, (.agg #[(.i C193), (.i C195)]))]) rfl]; exact bs_174_2_ii64ii640_ii64ii641 w56 C189 C191 C193 C195) (lt_ rfl) ?_
       rw [← n199.at_]
       clear H a
       intro a H
       refine n199.go <| ww H <| cl2 h body_51 rfl rfl eP fun C201 C202 w200 h => fd rfl fld_119_0 rfl <| sN h rfl rfl agg_27 rfl rfl fun w203 h => fun a H => ?_
       obtain ⟨l205, hc206, x211, h212, h213, h⟩ := h
       refine nk hK188 <| sr fun K204 hK204 => ww H <| fd rfl fld_56_7 rfl <| ld rfl one_4 hc206 rfl <| mv rfl rfl <| fun a H => g_join (n := 89) [(63, (.bool x211)), (0, (.pointer (some a49))), (3, (.pointer (some (blk b14)))), (5, (.pointer (some (blk b17)))), (7, (.pointer (some a53))), (8, (.pointer (some (blk b73))))] (.succ (.succ (.succ (.succ (.zero _))))) ?_ ?_
       ·intro h208
        try clear h
        rcases Bool.eq_false_or_eq_true l205 with h207 | h207
        ·replace H := H.ch (t := 59) (b := true) rfl h207
         replace h := h212 h207
         obtain ⟨l209, hc210, h⟩ := h
         refine ww H <| gfd rfl rfl rfl fld_119_1 rfl <| gld rfl rfl rfl one_4 hc210 rfl <| fun a H => s_un H (wantG H rfl rfl) rfl r_not (lt_ rfl) fun a H => ww H <| pT rfl rfl rfl <| fun a H => ?_
         subst h
         exact h208 _ (H.weaken ⟨rfl, rfl, rfl, rfl, rfl, rfl, trivial⟩)
        ·replace H := H.ch (t := 59) (b := false) rfl h207
         refine ww H <| sk rfl rfl rfl rfl <| sk rfl rfl rfl rfl <| sk rfl rfl rfl rfl <| pF rfl rfl rfl <| fun a H => ?_
         replace h := h213 h207
         subst h
         exact h208 _ (H.weaken ⟨rfl, rfl, rfl, rfl, rfl, rfl, trivial⟩)
       ·clear H a
        clear h212 h213
        intro a H
        refine nk hK204 <| cd H rfl h (fun h214 h => ?_) (fun h214 h => ?_)
        ·obtain ⟨l215, hc216, h⟩ := h
         exact c_reg <| ww H <| fd rfl fld_56_8 rfl <| ld rfl one_49 hc216 rfl <| cl1 h body_52 rfl rfl eP fun C218 w217 h => fd rfl fld_119_1 rfl <| st h rfl rfl one_4 rfl fun w219 w219S h => fd rfl fld_119_2 rfl <| st h rfl rfl one_49 rfl fun w222 w222S h => fun a H => c_nil <| h155 _ _ h (H.weaken ⟨rfl, rfl, rfl, rfl, rfl, trivial⟩)
        ·exact c_skip <| h155 _ _ h (H.weaken ⟨rfl, rfl, rfl, rfl, rfl, trivial⟩)
      ·exact c_skip <| h155 _ _ h (H.weaken ⟨rfl, rfl, rfl, rfl, rfl, trivial⟩)
   have st_6_10 : ∀ (C64 : Int) (C65 : Int) (h66 : Bool) (d67 : Slc) (G68 : Bool) (b73 : Nat) (w56 : World), R55 (some (C64, C65, h66, d67, G68)) (some b73) none w56 → F240 1 [6, 10] [(0, (.pointer (some a53))), (1, (.pointer (some a53))), (2, (.pointer (some (a53.add 7)))), (3, (.pointer l57)), (4, (.pointer (some ((blk b14).add 2)))), (5, (.i l60)), (6, (.tuple #[(.agg #[(.i C64), (.i C65), (.bool h66), d67.v]), (.bool G68)])), (7, (.tuple #[(.agg #[(.i C64), (.i C65), (.bool h66), d67.v]), (.bool G68)])), (8, (.agg #[(.i C64), (.i C65), (.bool h66), d67.v])), (9, (.bool G68)), (10, (.pointer (some (blk b73))))] w56 := by
    intro C64 C65 h66 d67 G68 b73 w56 hr
    rw [h238]
    refine StT.more [7, 8, 9] [11] (by kernel_rfl) (by kernel_rfl) (by kernel_rfl) (.cons ?_ (.cons ?_ (.cons ?_ .nil))) (.cons ?_ .nil)
    ·refine Ans.mk rfl rfl fun a H => ?_
     replace H := H.weaken (L' := [(30, (.tuple #[(.agg #[(.i C64), (.i C65), (.bool h66), d67.v]), (.bool G68)]))]) ⟨rfl, trivial⟩
     refine ww H <| mv rfl rfl <| fun a H => c_nil ⟨rfl, rfl, H.weaken (L' := [(23, (.tuple #[(.agg #[(.i C64), (.i C65), (.bool h66), d67.v]), (.bool G68)]))]) ⟨rfl, trivial⟩⟩
    ·refine Ans.mk rfl rfl fun a H => ?_
     replace H := H.weaken (L' := [(23, (.tuple #[(.agg #[(.i C64), (.i C65), (.bool h66), d67.v]), (.bool G68)]))]) ⟨rfl, trivial⟩
     refine ww H <| ex rfl rfl rfl <| fun a H => c_nil ⟨rfl, rfl, H.weaken (L' := [(31, (.agg #[(.i C64), (.i C65), (.bool h66), d67.v]))]) ⟨rfl, trivial⟩⟩
    ·refine Ans.mk rfl rfl fun a H => ?_
     replace H := H.weaken (L' := [(23, (.tuple #[(.agg #[(.i C64), (.i C65), (.bool h66), d67.v]), (.bool G68)]))]) ⟨rfl, trivial⟩
     refine ww H <| ex rfl rfl rfl <| fun a H => c_nil ⟨rfl, rfl, H.weaken (L' := [(32, (.bool G68))]) ⟨rfl, trivial⟩⟩
    ·refine ⟨_, rfl, fun a H => ?_⟩
     replace H := H.weaken (L' := [(8, (.pointer (some (blk b73)))), (31, (.agg #[(.i C64), (.i C65), (.bool h66), d67.v]))]) ⟨rfl, rfl, trivial⟩
     have h := h236 C64 C65 h66 d67 G68 b73 w56 hr
     refine ww H <| sN h rfl rfl agg_119 rfl rfl fun w76 h => fun a H => c_nil <| effQ.ok (v := undef) (H.weaken (L' := []) trivial) ⟨[(0, (.pointer (some a53))), (1, (.pointer (some a53))), (2, (.pointer (some (a53.add 7)))), (3, (.pointer l57)), (4, (.pointer (some ((blk b14).add 2)))), (5, (.i l60)), (6, (.tuple #[(.agg #[(.i C64), (.i C65), (.bool h66), d67.v]), (.bool G68)])), (7, (.tuple #[(.agg #[(.i C64), (.i C65), (.bool h66), d67.v]), (.bool G68)])), (8, (.agg #[(.i C64), (.i C65), (.bool h66), d67.v])), (9, (.bool G68)), (10, (.pointer (some (blk b73)))), (11, undef), (12, (.bool G68))], ⟨rfl, rfl, rfl, rfl, rfl, rfl, rfl, rfl, rfl, rfl, rfl, rfl, trivial⟩, ?_⟩
     have hx := st_6_10_11 C64 C65 h66 d67 G68 b73 w76 h
     rw [h238] at hx
     exact hx
   have st_6 : ∀ (C64 : Int) (C65 : Int) (h66 : Bool) (d67 : Slc) (G68 : Bool) (w56 : World), R55 (some (C64, C65, h66, d67, G68)) none none w56 → F240 2 [6] [(0, (.pointer (some a53))), (1, (.pointer (some a53))), (2, (.pointer (some (a53.add 7)))), (3, (.pointer l57)), (4, (.pointer (some ((blk b14).add 2)))), (5, (.i l60)), (6, (.tuple #[(.agg #[(.i C64), (.i C65), (.bool h66), d67.v]), (.bool G68)])), (7, (.tuple #[(.agg #[(.i C64), (.i C65), (.bool h66), d67.v]), (.bool G68)])), (8, (.agg #[(.i C64), (.i C65), (.bool h66), d67.v])), (9, (.bool G68))] w56 := by
    intro C64 C65 h66 d67 G68 w56 hr
    rw [h238]
    refine StT.more [7, 8, 9] [10] (by kernel_rfl) (by kernel_rfl) (by kernel_rfl) (.cons ?_ (.cons ?_ (.cons ?_ .nil))) (.cons ?_ .nil)
    ·refine Ans.mk rfl rfl fun a H => ?_
     replace H := H.weaken (L' := [(30, (.tuple #[(.agg #[(.i C64), (.i C65), (.bool h66), d67.v]), (.bool G68)]))]) ⟨rfl, trivial⟩
     refine ww H <| mv rfl rfl <| fun a H => c_nil ⟨rfl, rfl, H.weaken (L' := [(23, (.tuple #[(.agg #[(.i C64), (.i C65), (.bool h66), d67.v]), (.bool G68)]))]) ⟨rfl, trivial⟩⟩
    ·refine Ans.mk rfl rfl fun a H => ?_
     replace H := H.weaken (L' := [(23, (.tuple #[(.agg #[(.i C64), (.i C65), (.bool h66), d67.v]), (.bool G68)]))]) ⟨rfl, trivial⟩
     refine ww H <| ex rfl rfl rfl <| fun a H => c_nil ⟨rfl, rfl, H.weaken (L' := [(31, (.agg #[(.i C64), (.i C65), (.bool h66), d67.v]))]) ⟨rfl, trivial⟩⟩
    ·refine Ans.mk rfl rfl fun a H => ?_
     replace H := H.weaken (L' := [(23, (.tuple #[(.agg #[(.i C64), (.i C65), (.bool h66), d67.v]), (.bool G68)]))]) ⟨rfl, trivial⟩
     refine ww H <| ex rfl rfl rfl <| fun a H => c_nil ⟨rfl, rfl, H.weaken (L' := [(32, (.bool G68))]) ⟨rfl, trivial⟩⟩
    ·refine ⟨_, rfl, fun a H => ?_⟩
     replace H := H.weaken (L' := []) trivial
     have h := h235 (some (C64, C65, h66, d67, G68)) w56 hr
     refine ww H <| al h zero_119 rfl rfl rfl fun b73 w74 n75 h => fun a H => c_nil <| effQ.ok (v := (.pointer (some (blk b73)))) (H.weaken (L' := [(8, (.pointer (some (blk b73))))]) ⟨rfl, trivial⟩) ⟨[(0, (.pointer (some a53))), (1, (.pointer (some a53))), (2, (.pointer (some (a53.add 7)))), (3, (.pointer l57)), (4, (.pointer (some ((blk b14).add 2)))), (5, (.i l60)), (6, (.tuple #[(.agg #[(.i C64), (.i C65), (.bool h66), d67.v]), (.bool G68)])), (7, (.tuple #[(.agg #[(.i C64), (.i C65), (.bool h66), d67.v]), (.bool G68)])), (8, (.agg #[(.i C64), (.i C65), (.bool h66), d67.v])), (9, (.bool G68)), (10, (.pointer (some (blk b73))))], ⟨rfl, rfl, rfl, rfl, rfl, rfl, rfl, rfl, rfl, rfl, rfl, trivial⟩, ?_⟩
     have hx := st_6_10 C64 C65 h66 d67 G68 b73 w74 h
     rw [h238] at hx
     exact hx
   have st_10 : ∀ (b73 : Nat) (w56 : World), R55 none (some b73) none w56 → F240 2 [10] [(0, (.pointer (some a53))), (1, (.pointer (some a53))), (2, (.pointer (some (a53.add 7)))), (3, (.pointer l57)), (4, (.pointer (some ((blk b14).add 2)))), (5, (.i l60)), (10, (.pointer (some (blk b73))))] w56 := by
    intro b73 w56 hr
    rw [h238]
    refine StT.more [0, 1, 2, 3, 4, 5] [6] (by kernel_rfl) (by kernel_rfl) (by kernel_rfl) (.cons ?_ (.cons ?_ (.cons ?_ (.cons ?_ (.cons ?_ (.cons ?_ .nil)))))) (.cons ?_ .nil)
    ·refine Ans.mk rfl rfl fun a H => ?_
     replace H := H.weaken (L' := [(7, (.pointer (some a53)))]) ⟨rfl, trivial⟩
     refine ww H <| mv rfl rfl <| fun a H => c_nil ⟨rfl, rfl, H.weaken (L' := [(24, (.pointer (some a53)))]) ⟨rfl, trivial⟩⟩
    ·refine Ans.mk rfl rfl fun a H => ?_
     replace H := H.weaken (L' := [(24, (.pointer (some a53)))]) ⟨rfl, trivial⟩
     refine ww H <| nl rfl rfl <| fun a H => c_nil ⟨rfl, rfl, H.weaken (L' := [(25, (.pointer (some a53)))]) ⟨rfl, trivial⟩⟩
    ·refine Ans.mk rfl rfl fun a H => ?_
     replace H := H.weaken (L' := [(25, (.pointer (some a53)))]) ⟨rfl, trivial⟩
     refine ww H <| fd rfl fld_116_6 rfl <| fun a H => c_nil ⟨rfl, rfl, H.weaken (L' := [(26, (.pointer (some (a53.add 7))))]) ⟨rfl, trivial⟩⟩
    ·refine Ans.mk rfl rfl fun a H => ?_
     replace H := H.weaken (L' := [(26, (.pointer (some (a53.add 7))))]) ⟨rfl, trivial⟩
     obtain hc58 := h59 (some b73) w56 hr
     refine ww H <| ld rfl one_114 hc58 rfl <| fun a H => c_nil ⟨rfl, rfl, H.weaken (L' := [(27, (.pointer l57))]) ⟨rfl, trivial⟩⟩
    ·refine Ans.mk rfl rfl fun a H => ?_
     replace H := H.weaken (L' := [(3, (.pointer (some (blk b14))))]) ⟨rfl, trivial⟩
     refine ww H <| fd rfl fld_56_2 rfl <| fun a H => c_nil ⟨rfl, rfl, H.weaken (L' := [(28, (.pointer (some ((blk b14).add 2))))]) ⟨rfl, trivial⟩⟩
    ·refine Ans.mk rfl rfl fun a H => ?_
     replace H := H.weaken (L' := [(28, (.pointer (some ((blk b14).add 2))))]) ⟨rfl, trivial⟩
     obtain hc61 := h62 (some b73) w56 hr
     refine ww H <| ld rfl one_3 hc61 rfl <| fun a H => c_nil ⟨rfl, rfl, H.weaken (L' := [(29, (.i l60))]) ⟨rfl, trivial⟩⟩
    ·refine ⟨_, rfl, fun a H => ?_⟩
     replace H := H.weaken (L' := [(27, (.pointer l57)), (29, (.i l60))]) ⟨rfl, rfl, trivial⟩
     have h := h234 (some b73) w56 hr
     refine ww H <| cl5 h body_50 rfl rfl eP fun C64 C65 h66 d67 G68 w63 h => fun a H => c_nil <| effQ.ok (v := (.tuple #[(.agg #[(.i C64), (.i C65), (.bool h66), d67.v]), (.bool G68)])) (H.weaken (L' := [(30, (.tuple #[(.agg #[(.i C64), (.i C65), (.bool h66), d67.v]), (.bool G68)]))]) ⟨rfl, trivial⟩) ⟨[(0, (.pointer (some a53))), (1, (.pointer (some a53))), (2, (.pointer (some (a53.add 7)))), (3, (.pointer l57)), (4, (.pointer (some ((blk b14).add 2)))), (5, (.i l60)), (6, (.tuple #[(.agg #[(.i C64), (.i C65), (.bool h66), d67.v]), (.bool G68)])), (7, (.tuple #[(.agg #[(.i C64), (.i C65), (.bool h66), d67.v]), (.bool G68)])), (8, (.agg #[(.i C64), (.i C65), (.bool h66), d67.v])), (9, (.bool G68)), (10, (.pointer (some (blk b73))))], ⟨rfl, rfl, rfl, rfl, rfl, rfl, rfl, rfl, trivial⟩, ?_⟩
     have hx := st_6_10 C64 C65 h66 d67 G68 b73 w63 h
     rw [h238] at hx
     exact hx
   have st_ : ∀ (w56 : World), R55 none none none w56 → F240 3 [] [(0, (.pointer (some a53))), (1, (.pointer (some a53))), (2, (.pointer (some (a53.add 7)))), (3, (.pointer l57)), (4, (.pointer (some ((blk b14).add 2)))), (5, (.i l60))] w56 := by
    intro w56 hr
    rw [h238]
    refine StT.more [0, 1, 2, 3, 4, 5] [6, 10] (by kernel_rfl) (by kernel_rfl) (by kernel_rfl) (.cons ?_ (.cons ?_ (.cons ?_ (.cons ?_ (.cons ?_ (.cons ?_ .nil)))))) (.cons ?_ (.cons ?_ .nil))
    ·refine Ans.mk rfl rfl fun a H => ?_
     replace H := H.weaken (L' := [(7, (.pointer (some a53)))]) ⟨rfl, trivial⟩
     refine ww H <| mv rfl rfl <| fun a H => c_nil ⟨rfl, rfl, H.weaken (L' := [(24, (.pointer (some a53)))]) ⟨rfl, trivial⟩⟩
    ·refine Ans.mk rfl rfl fun a H => ?_
     replace H := H.weaken (L' := [(24, (.pointer (some a53)))]) ⟨rfl, trivial⟩
     refine ww H <| nl rfl rfl <| fun a H => c_nil ⟨rfl, rfl, H.weaken (L' := [(25, (.pointer (some a53)))]) ⟨rfl, trivial⟩⟩
    ·refine Ans.mk rfl rfl fun a H => ?_
     replace H := H.weaken (L' := [(25, (.pointer (some a53)))]) ⟨rfl, trivial⟩
     refine ww H <| fd rfl fld_116_6 rfl <| fun a H => c_nil ⟨rfl, rfl, H.weaken (L' := [(26, (.pointer (some (a53.add 7))))]) ⟨rfl, trivial⟩⟩
    ·refine Ans.mk rfl rfl fun a H => ?_
     replace H := H.weaken (L' := [(26, (.pointer (some (a53.add 7))))]) ⟨rfl, trivial⟩
     obtain hc58 := h59 none w56 hr
     refine ww H <| ld rfl one_114 hc58 rfl <| fun a H => c_nil ⟨rfl, rfl, H.weaken (L' := [(27, (.pointer l57))]) ⟨rfl, trivial⟩⟩
    ·refine Ans.mk rfl rfl fun a H => ?_
     replace H := H.weaken (L' := [(3, (.pointer (some (blk b14))))]) ⟨rfl, trivial⟩
     refine ww H <| fd rfl fld_56_2 rfl <| fun a H => c_nil ⟨rfl, rfl, H.weaken (L' := [(28, (.pointer (some ((blk b14).add 2))))]) ⟨rfl, trivial⟩⟩
    ·refine Ans.mk rfl rfl fun a H => ?_
     replace H := H.weaken (L' := [(28, (.pointer (some ((blk b14).add 2))))]) ⟨rfl, trivial⟩
     obtain hc61 := h62 none w56 hr
     refine ww H <| ld rfl one_3 hc61 rfl <| fun a H => c_nil ⟨rfl, rfl, H.weaken (L' := [(29, (.i l60))]) ⟨rfl, trivial⟩⟩
    ·refine ⟨_, rfl, fun a H => ?_⟩
     replace H := H.weaken (L' := [(27, (.pointer l57)), (29, (.i l60))]) ⟨rfl, rfl, trivial⟩
     have h := h234 none w56 hr
     refine ww H <| cl5 h body_50 rfl rfl eP fun C64 C65 h66 d67 G68 w63 h => fun a H => c_nil <| effQ.ok (v := (.tuple #[(.agg #[(.i C64), (.i C65), (.bool h66), d67.v]), (.bool G68)])) (H.weaken (L' := [(30, (.tuple #[(.agg #[(.i C64), (.i C65), (.bool h66), d67.v]), (.bool G68)]))]) ⟨rfl, trivial⟩) ⟨[(0, (.pointer (some a53))), (1, (.pointer (some a53))), (2, (.pointer (some (a53.add 7)))), (3, (.pointer l57)), (4, (.pointer (some ((blk b14).add 2)))), (5, (.i l60)), (6, (.tuple #[(.agg #[(.i C64), (.i C65), (.bool h66), d67.v]), (.bool G68)])), (7, (.tuple #[(.agg #[(.i C64), (.i C65), (.bool h66), d67.v]), (.bool G68)])), (8, (.agg #[(.i C64), (.i C65), (.bool h66), d67.v])), (9, (.bool G68))], ⟨rfl, rfl, rfl, rfl, rfl, rfl, rfl, trivial⟩, ?_⟩
     have hx := st_6 C64 C65 h66 d67 G68 w63 h
     rw [h238] at hx
     exact hx
    ·refine ⟨_, rfl, fun a H => ?_⟩
     replace H := H.weaken (L' := []) trivial
     have h := h235 none w56 hr
     refine ww H <| al h zero_119 rfl rfl rfl fun b73 w74 n75 h => fun a H => c_nil <| effQ.ok (v := (.pointer (some (blk b73)))) (H.weaken (L' := [(8, (.pointer (some (blk b73))))]) ⟨rfl, trivial⟩) ⟨[(0, (.pointer (some a53))), (1, (.pointer (some a53))), (2, (.pointer (some (a53.add 7)))), (3, (.pointer l57)), (4, (.pointer (some ((blk b14).add 2)))), (5, (.i l60)), (10, (.pointer (some (blk b73))))], ⟨rfl, rfl, rfl, rfl, rfl, rfl, rfl, trivial⟩, ?_⟩
     have hx := st_10 b73 w74 h
     rw [h238] at hx
     exact hx
   exact st_ _ h239

theorem sim_tag_Compare (C1 C2 C3 C4 : Int) (w : World) (Q : Ending → World → Prop) (h : vc_tag_Compare C1 C2 C3 C4 w Q) : Calls PP F_tag_Compare #[(.agg #[(.i C1), (.i C2)]), (.agg #[(.i C3), (.i C4)])] w Q := by
 unfold vc_tag_Compare at h
 have eP {L : List (Nat × Value)} (c : List PanicEntry) (w' : World) (a : Act) (h : Q (.panicked c) w') (H : Has 19 [] a L) : bodyPost PP Tryz.f21 Q (.panic c) a w' := e_panic H h
 refine enter (n := 19) Tryz.func21 rfl rfl (le_ rfl) fun a H => sr fun K5 hK5 => ww H <| bx h rfl rfl rfl rfl fun b6 w7 n8 h => bx h rfl rfl rfl rfl fun b9 w10 n11 h => ag rfl rfl <| fun a H => nk hK5 <| c_seq fun K12 hK12 => sr fun K13 hK13 => ww H <| fd rfl fld_27_0 rfl <| fun a H => s_load (v := (.i C1)) H rfl rfl one_2 (n11.old (n8.cell (i := 0) rfl)) (lt_ rfl) fun a H => ww H <| fd rfl fld_27_0 rfl <| fun a H => s_load (v := (.i C3)) H rfl rfl one_2 (n11.cell (i := 0) rfl) (lt_ rfl) fun a H => ww H <| cl1 h body_56 rfl rfl eP fun i15 w14 h => ag rfl rfl <| fun a H => nk hK13 <| sr fun K16 hK16 => ww H <| mv rfl rfl <| bn rfl rfl r_neq rfl <| fun a H => nk hK16 <| cd H rfl h (fun h17 h => ?_) (fun h17 h => ?_)
 ·exact sr fun K18 hK18 => ww H <| mv rfl rfl <| ag rfl rfl <| fun a H => nk hK18 <| c_ret <| e_ret1 H rfl rfl h
 ·obtain ⟨l20, hc21, l22, hc23, h⟩ := h
  exact c_skip <| hK12 _ _ <| sr fun K19 hK19 => ww H <| fd rfl fld_27_1 rfl <| ld rfl one_3 hc21 rfl <| fd rfl fld_27_1 rfl <| ld rfl one_3 hc23 rfl <| cl1 h body_57 rfl rfl eP fun i25 w24 h => ag rfl rfl <| fun a H => nk hK19 <| c_ret <| e_ret1 H rfl rfl h

theorem sim_client_Client_Get (c1 : Option Addr) (k2 : ByteArray) (w : World) (Q : Ending → World → Prop) (h : vc_client_Client_Get c1 k2 w Q) : Calls PP F_client_Client_Get #[(.pointer c1), (.string k2)] w Q := by
 unfold vc_client_Client_Get at h
 have eP {L : List (Nat × Value)} (c : List PanicEntry) (w' : World) (a : Act) (h : Q (.panicked c) w') (H : Has 15 [] a L) : bodyPost PP Tryz.f22 Q (.panic c) a w' := e_panic H h
 refine enter (n := 15) Tryz.func22 rfl rfl (le_ rfl) fun a H => sr fun K3 hK3 => ww H <| ag rfl rfl <| ag rfl rfl <| ag rfl rfl <| fun a H => nk hK3 <| c_seq fun K4 hK4 => sr fun K5 hK5 => ww H <| mv rfl rfl <| bn rfl rfl (r_eqP0 ptr_30) rfl <| fun a H => nk hK5 <| cd H rfl h (fun h6 h => ?_) (fun h6 h => ?_)
 ·exact sr fun K7 hK7 => ww H <| ag rfl rfl <| ag rfl rfl <| ag rfl rfl <| fun a H => nk hK7 <| c_ret <| e_ret3 H rfl rfl rfl rfl h
 ·exact c_skip <| hK4 _ _ <| sr fun K8 hK8 => ww H <| mv rfl rfl <| mv rfl rfl <| cl3 h body_38 rfl rfl eP fun b10 b11 b12 w9 h => ex rfl rfl rfl <| ex rfl rfl rfl <| ex rfl rfl rfl <| ag rfl rfl <| ag rfl rfl <| ag rfl rfl <| fun a H => nk hK8 <| c_ret <| e_ret3 H rfl rfl rfl rfl h

theorem sim_client_Client_Now (c1 : Option Addr) (w : World) (Q : Ending → World → Prop) (h : vc_client_Client_Now c1 w Q) : Calls PP F_client_Client_Now #[(.pointer c1)] w Q := by
 unfold vc_client_Client_Now at h
 have eP {L : List (Nat × Value)} (c : List PanicEntry) (w' : World) (a : Act) (h : Q (.panicked c) w') (H : Has 45 [] a L) : bodyPost PP Tryz.f24 Q (.panic c) a w' := e_panic H h
 refine enter (n := 45) Tryz.func24 rfl rfl (le_ rfl) fun a H => sr fun K2 hK2 => ww H <| ag rfl rfl <| ag rfl rfl <| ag rfl rfl <| al h zero_27 rfl rfl rfl fun b3 w4 n5 h => ag rfl rfl <| ag rfl rfl <| fun a H => nk hK2 <| c_seq fun K6 hK6 => c_block <| sr fun K7 hK7 => ww H <| mv rfl rfl <| bn rfl rfl (r_eqP0 ptr_30) rfl <| ag rfl rfl <| fun a H => nk hK7 <| cd H rfl h (fun h8 h => ?_) (fun h8 h => ?_)
 ·refine sr fun K9 hK9 => s_build H rfl (by rw [H.parts (vs := []) rfl]; exact bd_27 _) (lt_ rfl) fun a H => ww H <| ag rfl rfl <| ag rfl rfl <| ag rfl rfl <| sN h rfl rfl agg_27 rfl rfl fun w10 h => ag rfl rfl <| ag rfl rfl <| fun a H => nk hK9 <| c_ret ?_
  obtain ⟨C11, hc12, C13, hc14, h⟩ := h
  exact e_ret6 H rfl rfl rfl rfl ⟨_, rfl, run_loadN (l := [(.i C11), (.i C13)]) agg_27 rfl ⟨hc12, hc14, trivial⟩⟩ rfl rfl h
 ·obtain ⟨a16, h59, h⟩ := h
  refine sr fun K15 hK15 => ww H <| mv rfl rfl <| fun a H => ?_
  revert H
  revert h
  subst h59
  intro h H
  obtain ⟨l17, hc18, h⟩ := h
  refine ww H <| nl rfl rfl <| fd rfl fld_102_5 rfl <| ld rfl one_100 hc18 rfl <| bn rfl rfl (r_eqP0 ptr_100) rfl <| ag rfl rfl <| fun a H => nk hK15 <| cd H rfl h (fun h19 h => ?_) (fun h19 h => ?_)
  ·refine sr fun K20 hK20 => s_build H rfl (by rw [H.parts (vs := []) rfl]; exact bd_27 _) (lt_ rfl) fun a H => ww H <| ag rfl rfl <| ag rfl rfl <| ag rfl rfl <| sN h rfl rfl agg_27 rfl rfl fun w21 h => ag rfl rfl <| ag rfl rfl <| fun a H => nk hK20 <| c_ret ?_
   obtain ⟨C22, hc23, C24, hc25, h⟩ := h
   exact e_ret6 H rfl rfl rfl rfl ⟨_, rfl, run_loadN (l := [(.i C22), (.i C24)]) agg_27 rfl ⟨hc23, hc25, trivial⟩⟩ rfl rfl h
  ·obtain ⟨l27, hc28, h⟩ := h
   refine c_skip <| hK6 _ _ <| sr fun K26 hK26 => ww H <| mv rfl rfl <| nl rfl rfl <| fd rfl fld_102_5 rfl <| ld rfl one_100 hc28 rfl <| ag rfl rfl <| fun a H => nk hK26 <| c_seq fun K29 hK29 => ?_
   replace H := H.weaken (L' := [(2, (.i 0)), (3, (.bool false)), (4, (.string (ByteArray.mk #[]))), (5, (.pointer (some (blk b3)))), (6, (.i 0)), (7, (.i 0)), (8, (.pointer l27))]) ⟨rfl, rfl, rfl, rfl, rfl, rfl, rfl, trivial⟩
   obtain ⟨a30, h31, h⟩ := h
   revert H
   revert h
   subst h31
   intro h H
   obtain ⟨l32, hc33, l34, hc35, l36, hc37, C38, hc39, C40, hc41, l42, hc43, h⟩ := h
   refine c_any (V := [(0, (.pointer (some a30))), (1, (.pointer (some a30))), (2, (.pointer (some (a30.add 0)))), (3, (.i l32)), (4, (.pointer (some a30))), (5, (.pointer (some a30))), (6, (.pointer (some (a30.add 1)))), (7, (.bool l34)), (8, (.pointer (some a30))), (9, (.pointer (some a30))), (10, (.pointer (some (a30.add 2)))), (11, (.string l36)), (12, (.pointer (some a30))), (13, (.pointer (some a30))), (14, (.pointer (some (a30.add 5)))), (15, (.agg #[(.i C38), (.i C40)])), (16, (.pointer (some a30))), (17, (.pointer (some a30))), (18, (.pointer (some (a30.add 4)))), (19, l42)]) (⟨[[], [0], [1], [2], [], [4], [5], [6], [], [8], [9], [10], [], [12], [13], [14], [], [16], [17], [18], [19], [0, 1, 2, 3, 20], [0, 1, 2, 3, 4, 5, 6, 7, 21], [0, 1, 2, 3, 4, 5, 6, 7, 8, 9, 10, 11, 21, 22], [0, 1, 2, 3, 4, 5, 6, 7, 8, 9, 10, 11, 12, 13, 14, 15, 21, 22, 23], [0, 1, 2, 3, 4, 5, 6, 7, 8, 9, 10, 11, 12, 13, 14, 15, 16, 17, 18, 19, 20, 21, 22, 23, 24], [0, 1, 2, 3, 4, 5, 6, 7, 8, 9, 10, 11, 12, 13, 14, 15, 16, 17, 18, 19, 20, 21, 22, 23, 24, 25]], [some 24, some 25, some 26, some 27, some 28, some 29, some 30, some 31, some 32, some 33, some 34, some 35, some 36, some 37, some 38, some 39, some 40, some 41, some 42, some 43, some 44, some 2, some 3, some 4, none, some 6, some 7], [20, 24], [0, 0, 0, 0, 0, 0, 0, 0, 0, 0, 0, 0, 0, 0, 0, 0, 0, 0, 0, 0, 0, 1, 1, 1, 1, 2, 2], [1, 1, 1, 1, 1, 1, 1, 1, 1, 1, 1, 1, 1, 1, 1, 1, 0, 0, 0, 0, 1, 1, 1, 1, 2, 2, 2]⟩ : Rg) [(2, (.i 0)), (3, (.bool false)), (4, (.string (ByteArray.mk #[]))), (5, (.pointer (some (blk b3)))), (6, (.i 0)), (7, (.i 0)), (8, (.pointer (some a30)))] mixed (by kernel_rfl) H ?_
   refine Stg.eff [0, 1, 2, 3, 4, 5, 6, 7, 8, 9, 10, 11, 12, 13, 14, 15, 16, 17, 18, 19] (by kernel_rfl) rfl (.cons ?_ (.cons ?_ (.cons ?_ (.cons ?_ (.cons ?_ (.cons ?_ (.cons ?_ (.cons ?_ (.cons ?_ (.cons ?_ (.cons ?_ (.cons ?_ (.cons ?_ (.cons ?_ (.cons ?_ (.cons ?_ (.cons ?_ (.cons ?_ (.cons ?_ (.cons ?_ .nil)))))))))))))))))))) ?_
   ·exact Aw rfl rfl <| mv rfl rfl <| An rfl
   ·exact Aw rfl rfl <| nl rfl rfl <| An rfl
   ·exact Aw rfl rfl <| fd rfl fld_116_0 rfl <| An rfl
   ·exact Aw rfl rfl <| ld rfl one_2 hc33 rfl <| An rfl
   ·exact Aw rfl rfl <| mv rfl rfl <| An rfl
   ·exact Aw rfl rfl <| nl rfl rfl <| An rfl
   ·exact Aw rfl rfl <| fd rfl fld_116_1 rfl <| An rfl
   ·exact Aw rfl rfl <| ld rfl one_4 hc35 rfl <| An rfl
   ·exact Aw rfl rfl <| mv rfl rfl <| An rfl
   ·exact Aw rfl rfl <| nl rfl rfl <| An rfl
   ·exact Aw rfl rfl <| fd rfl fld_116_2 rfl <| An rfl
   ·exact Aw rfl rfl <| ld rfl one_9 hc37 rfl <| An rfl
   ·exact Aw rfl rfl <| mv rfl rfl <| An rfl
   ·exact Aw rfl rfl <| nl rfl rfl <| An rfl
   ·exact Aw rfl rfl <| fd rfl fld_116_5 rfl <| An rfl
   ·exact Aw rfl rfl <| lN (l := [(.i C38), (.i C40)]) rfl agg_27 rfl ⟨hc39, hc41, trivial⟩ rfl <| An rfl
   ·exact Aw rfl rfl <| mv rfl rfl <| An rfl
   ·exact Aw rfl rfl <| nl rfl rfl <| An rfl
   ·exact Aw rfl rfl <| fd rfl fld_116_4 rfl <| An rfl
   ·exact Aw rfl rfl <| ld rfl one_113 hc43 rfl <| An rfl
   ·intro a H
    replace H := H.weaken (L' := [(43, l42)]) ⟨rfl, trivial⟩
    refine s_callI H rfl rfl (H.args (vs := []) rfl) (lt_ rfl) h ?_ (fun c w' => eP c w' _)
    clear H h a
    rintro _ w44 a ⟨r45, rfl, h⟩ H
    obtain ⟨hc46, hc47, hc48, hc49, hc50, h⟩ := h
    refine c_nil <| effQ.go [(21, (.i l32)), (22, (.bool l34)), (23, (.string l36))] H rfl rfl <| Stg.eff [0, 1, 2, 3, 4, 5, 6, 7, 8, 9, 10, 11, 12, 13, 14, 15, 21, 22, 23] (by kernel_rfl) rfl (.cons ?_ (.cons ?_ (.cons ?_ (.cons ?_ (.cons ?_ (.cons ?_ (.cons ?_ (.cons ?_ (.cons ?_ (.cons ?_ (.cons ?_ (.cons ?_ (.cons ?_ (.cons ?_ (.cons ?_ (.cons ?_ (.cons ?_ (.cons ?_ (.cons ?_ .nil))))))))))))))))))) ?_
    ·exact Aw rfl rfl <| mv rfl rfl <| An rfl
    ·exact Aw rfl rfl <| nl rfl rfl <| An rfl
    ·exact Aw rfl rfl <| fd rfl fld_116_0 rfl <| An rfl
    ·exact Aw rfl rfl <| ld rfl one_2 hc46 rfl <| An rfl
    ·exact Aw rfl rfl <| mv rfl rfl <| An rfl
    ·exact Aw rfl rfl <| nl rfl rfl <| An rfl
    ·exact Aw rfl rfl <| fd rfl fld_116_1 rfl <| An rfl
    ·exact Aw rfl rfl <| ld rfl one_4 hc47 rfl <| An rfl
    ·exact Aw rfl rfl <| mv rfl rfl <| An rfl
    ·exact Aw rfl rfl <| nl rfl rfl <| An rfl
    ·exact Aw rfl rfl <| fd rfl fld_116_2 rfl <| An rfl
    ·exact Aw rfl rfl <| ld rfl one_9 hc48 rfl <| An rfl
    ·exact Aw rfl rfl <| mv rfl rfl <| An rfl
    ·exact Aw rfl rfl <| nl rfl rfl <| An rfl
    ·exact Aw rfl rfl <| fd rfl fld_116_5 rfl <| An rfl
    ·exact Aw rfl rfl <| lN (l := [(.i C38), (.i C40)]) rfl agg_27 rfl ⟨hc49, hc50, trivial⟩ rfl <| An rfl
    ·exact Aw rfl rfl <| ag rfl rfl <| An rfl
    ·exact Aw rfl rfl <| ag rfl rfl <| An rfl
    ·exact Aw rfl rfl <| ag rfl rfl <| An rfl
    ·refine sN h rfl rfl agg_27 rfl rfl fun w51 h => fun a H => c_nil <| effQ.go0 [(25, (.i r45)), (26, (.i 0))] H rfl rfl <| Stg.fin [25, 26] (by kernel_rfl) (.cons ?_ (.cons ?_ .nil)) ?_
     ·exact Aw rfl rfl <| ag rfl rfl <| An rfl
     ·exact Aw rfl rfl <| ag rfl rfl <| An rfl
     ·intro a H
      replace H := H.weaken (L' := [(2, (.i l32)), (3, (.bool l34)), (4, (.string l36)), (5, (.pointer (some (blk b3)))), (6, (.i r45)), (7, (.i 0))]) ⟨rfl, rfl, rfl, rfl, rfl, rfl, trivial⟩
      refine hK29 _ _ <| c_ret ?_
      obtain ⟨C52, hc53, C54, hc55, h⟩ := h
      exact e_ret6 H rfl rfl rfl rfl ⟨_, rfl, run_loadN (l := [(.i C52), (.i C54)]) agg_27 rfl ⟨hc53, hc55, trivial⟩⟩ rfl rfl h

theorem sim_sherdlaw18_sameResult (O1 : Int) (P2 : Bool) (S3 C4 C5 : Int) (V6 : Slc) (O7 : Int) (P8 : Bool) (S9 C10 C11 : Int) (V12 : Slc) (w : World) (Q : Ending → World → Prop) (h : vc_sherdlaw18_sameResult O1 P2 S3 C4 C5 V6 O7 P8 S9 C10 C11 V12 w Q) : Calls PP F_sherdlaw18_sameResult #[(.agg #[(.i O1), (.bool P2), (.i S3), (.i C4), (.i C5), V6.v]), (.agg #[(.i O7), (.bool P8), (.i S9), (.i C10), (.i C11), V12.v])] w Q := by
 unfold vc_sherdlaw18_sameResult at h
 refine enter (n := 40) Tryz.func25 rfl rfl (le_ rfl) fun a H => sr fun K13 hK13 => ww H <| bx h rfl rfl rfl rfl fun b14 w15 n16 h => bx h rfl rfl rfl rfl fun b17 w18 n19 h => ag rfl rfl <| fun a H => nk hK13 <| sr fun K20 hK20 => ww H <| fd rfl fld_60_0 rfl <| fun a H => s_load (v := (.i O1)) H rfl rfl one_2 (n19.old (n16.cell (i := 0) rfl)) (lt_ rfl) fun a H => ww H <| fd rfl fld_60_0 rfl <| fun a H => s_load (v := (.i O7)) H rfl rfl one_2 (n19.cell (i := 0) rfl) (lt_ rfl) fun a H => ww H <| bn rfl rfl r_eql rfl <| mv rfl rfl <| fun a H => g_join (n := 40) [(16, (.bool ((decide (O1 = O7)) && (decide (P2 = P8))))), (2, (.pointer (some (blk b14)))), (3, (.pointer (some (blk b17))))] (.succ (.succ (.succ (.succ (.succ (.succ (.zero _))))))) ?_ ?_
 ·intro h22
  try clear h
  rcases Bool.eq_false_or_eq_true (decide (O1 = O7)) with h21 | h21
  ·replace H := H.ch (t := 10) (b := true) rfl h21
   exact ww H <| gfd rfl rfl rfl fld_60_1 rfl <| fun a H => s_load (v := (.bool P2)) H (wantG H rfl rfl) rfl one_4 (n19.old (n16.cell (i := 1) rfl)) (lt_ rfl) fun a H => ww H <| gfd rfl rfl rfl fld_60_1 rfl <| fun a H => s_load (v := (.bool P8)) H (wantG H rfl rfl) rfl one_4 (n19.cell (i := 1) rfl) (lt_ rfl) fun a H => ww H <| gbn rfl rfl rfl rfl (r_eqB bool_4) rfl <| pT rfl rfl rfl <| fun a H => h22 _ (H.weaken ⟨by rw [h21]; rfl, rfl, rfl, trivial⟩)
  ·replace H := H.ch (t := 10) (b := false) rfl h21
   exact ww H <| sk rfl rfl rfl rfl <| sk rfl rfl rfl rfl <| sk rfl rfl rfl rfl <| sk rfl rfl rfl rfl <| sk rfl rfl rfl rfl <| pF rfl rfl rfl <| fun a H => h22 _ (H.weaken ⟨by rw [h21]; rfl, rfl, rfl, trivial⟩)
 ·clear H a
  intro a H
  refine ww H <| mv rfl rfl <| fun a H => g_join (n := 40) [(23, (.bool (((decide (O1 = O7)) && (decide (P2 = P8))) && (decide (S3 = S9))))), (2, (.pointer (some (blk b14)))), (3, (.pointer (some (blk b17))))] (.succ (.succ (.succ (.succ (.succ (.succ (.zero _))))))) ?_ ?_
  ·intro h24
   try clear h
   rcases Bool.eq_false_or_eq_true ((decide (O1 = O7)) && (decide (P2 = P8))) with h23 | h23
   ·replace H := H.ch (t := 17) (b := true) rfl h23
    exact ww H <| gfd rfl rfl rfl fld_60_2 rfl <| fun a H => s_load (v := (.i S3)) H (wantG H rfl rfl) rfl one_31 (n19.old (n16.cell (i := 2) rfl)) (lt_ rfl) fun a H => ww H <| gfd rfl rfl rfl fld_60_2 rfl <| fun a H => s_load (v := (.i S9)) H (wantG H rfl rfl) rfl one_31 (n19.cell (i := 2) rfl) (lt_ rfl) fun a H => ww H <| gbn rfl rfl rfl rfl r_eql rfl <| pT rfl rfl rfl <| fun a H => h24 _ (H.weaken ⟨by rw [h23]; rfl, rfl, rfl, trivial⟩)
   ·replace H := H.ch (t := 17) (b := false) rfl h23
    exact ww H <| sk rfl rfl rfl rfl <| sk rfl rfl rfl rfl <| sk rfl rfl rfl rfl <| sk rfl rfl rfl rfl <| sk rfl rfl rfl rfl <| pF rfl rfl rfl <| fun a H => h24 _ (H.weaken ⟨by rw [h23]; rfl, rfl, rfl, trivial⟩)
  ·clear H a
   intro a H
   refine ww H <| mv rfl rfl <| fun a H => g_join (n := 40) [(30, (.bool ((((decide (O1 = O7)) && (decide (P2 = P8))) && (decide (S3 = S9))) && (decide (C4 = C10) && (decide (C5 = C11)))))), (2, (.pointer (some (blk b14)))), (3, (.pointer (some (blk b17))))] (.succ (.succ (.succ (.succ (.succ (.succ (.zero _))))))) ?_ ?_
   ·intro h26
    try clear h
    rcases Bool.eq_false_or_eq_true (((decide (O1 = O7)) && (decide (P2 = P8))) && (decide (S3 = S9))) with h25 | h25
    ·replace H := H.ch (t := 24) (b := true) rfl h25
     exact ww H <| gfd rfl rfl rfl fld_60_3 rfl <| glN (l := [(.i C4), (.i C5)]) rfl rfl rfl agg_27 rfl ⟨(n19.old (n16.cell (i := 3) rfl)), (n19.old (n16.cell (i := 4) rfl)), trivial⟩ rfl <| gfd rfl rfl rfl fld_60_3 rfl <| glN (l := [(.i C10), (.i C11)]) rfl rfl rfl agg_27 rfl ⟨(n19.cell (i := 3) rfl), (n19.cell (i := 4) rfl), trivial⟩ rfl <| gbn rfl rfl rfl rfl (r_eqst eqg_27 (eqst_27 0) rfl) rfl <| pT rfl rfl rfl <| fun a H => h26 _ (H.weaken ⟨by rw [h25]; rfl, rfl, rfl, trivial⟩)
    ·replace H := H.ch (t := 24) (b := false) rfl h25
     exact ww H <| sk rfl rfl rfl rfl <| sk rfl rfl rfl rfl <| sk rfl rfl rfl rfl <| sk rfl rfl rfl rfl <| sk rfl rfl rfl rfl <| pF rfl rfl rfl <| fun a H => h26 _ (H.weaken ⟨by rw [h25]; rfl, rfl, rfl, trivial⟩)
   ·clear H a
    intro a H
    obtain ⟨x33, h34, h35, h⟩ := h
    refine ww H <| mv rfl rfl <| fun a H => g_join (n := 40) [(39, (.bool x33))] (.succ (.succ (.succ (.succ (.succ (.succ (.succ (.succ (.zero _))))))))) ?_ ?_
    ·intro h28
     try clear h
     rcases Bool.eq_false_or_eq_true ((((decide (O1 = O7)) && (decide (P2 = P8))) && (decide (S3 = S9))) && (decide (C4 = C10) && (decide (C5 = C11)))) with h27 | h27
     ·replace H := H.ch (t := 31) (b := true) rfl h27
      replace h := h34 h27
      refine ww H <| gfd rfl rfl rfl fld_60_4 rfl <| fun a H => s_load (v := V6.v) H (wantG H rfl rfl) rfl one_49 (n19.old (n16.cell (i := 5) rfl)) (lt_ rfl) fun a H => ?_
      obtain ⟨s29, h30, h⟩ := h
      refine s_cv H (wantG H rfl rfl) rfl h30 (lt_ rfl) ?_
      clear H a h30
      intro a H
      refine ww H <| gfd rfl rfl rfl fld_60_4 rfl <| fun a H => s_load (v := V12.v) H (wantG H rfl rfl) rfl one_49 (n19.cell (i := 5) rfl) (lt_ rfl) fun a H => ?_
      obtain ⟨s31, h32, h⟩ := h
      refine s_cv H (wantG H rfl rfl) rfl h32 (lt_ rfl) ?_
      clear H a h32
      intro a H
      refine ww H <| gbn rfl rfl rfl rfl r_eqlS rfl <| pT rfl rfl rfl <| fun a H => ?_
      subst h
      exact h28 _ (H.weaken ⟨rfl, trivial⟩)
     ·replace H := H.ch (t := 31) (b := false) rfl h27
      refine ww H <| sk rfl rfl rfl rfl <| sk rfl rfl rfl rfl <| sk rfl rfl rfl rfl <| sk rfl rfl rfl rfl <| sk rfl rfl rfl rfl <| sk rfl rfl rfl rfl <| sk rfl rfl rfl rfl <| pF rfl rfl rfl <| fun a H => ?_
      replace h := h35 h27
      subst h
      exact h28 _ (H.weaken ⟨rfl, trivial⟩)
    ·clear H a
     clear h34 h35
     intro a H
     exact ww H <| ag rfl rfl <| fun a H => nk hK20 <| c_ret <| e_ret1 H rfl rfl h
end Go.Proofs.YtabifopphhpciaaGreatDoor

namespace Go.Proofs.YtabifopphhpciaaGreatDoor
open Go Go.Vc
set_option maxRecDepth 100000
set_option maxHeartbeats 4000000
theorem sim_sherdlaw18_Plain_answer (p1 : Option Addr) (K2 C3 S4 O5 : Int) (K6 : ByteArray) (C7 C8 C9 C10 : Int) (H11 : Bool) (D12 : Slc) (w : World) (Q : Ending → World → Prop) (h : vc_sherdlaw18_Plain_answer p1 K2 C3 S4 O5 K6 C7 C8 C9 C10 H11 D12 w Q) : Calls PP F_sherdlaw18_Plain_answer #[(.pointer p1), (.agg #[(.i K2), (.i C3), (.i S4), (.i O5), (.string K6), (.i C7), (.i C8), (.i C9), (.i C10), (.bool H11), D12.v])] w Q := by
 unfold vc_sherdlaw18_Plain_answer at h
 have eP {L : List (Nat × Value)} (c : List PanicEntry) (w' : World) (a : Act) (h : Q (.panicked c) w') (H : Has 97 [] a L) : bodyPost PP Tryz.f26 Q (.panic c) a w' := e_panic H h
 refine enter (n := 97) Tryz.func26 rfl rfl (le_ rfl) fun a H => sr fun K13 hK13 => ww H <| bx h rfl rfl rfl rfl fun b14 w15 n16 h => al h zero_56 rfl rfl rfl fun b17 w18 n19 h => fun a H => nk hK13 <| sr fun K20 hK20 => ww H <| fd rfl fld_56_0 rfl <| fun a H => s_load (v := (.i K2)) H rfl rfl one_3 (n19.old (n16.cell (i := 0) rfl)) (lt_ rfl) fun a H => ww H <| bn rfl rfl r_add rfl <| fd rfl fld_56_1 rfl <| fun a H => s_load (v := (.i C3)) H rfl rfl one_3 (n19.old (n16.cell (i := 1) rfl)) (lt_ rfl) fun a H => ww H <| fd rfl fld_56_2 rfl <| fun a H => s_load (v := (.i S4)) H rfl rfl one_3 (n19.old (n16.cell (i := 2) rfl)) (lt_ rfl) fun a H => ww H <| fd rfl fld_56_3 rfl <| fun a H => s_load (v := (.i O5)) H rfl rfl one_2 (n19.old (n16.cell (i := 3) rfl)) (lt_ rfl) fun a H => ww H <| fd rfl fld_56_4 rfl <| fun a H => s_load (v := (.string K6)) H rfl rfl one_9 (n19.old (n16.cell (i := 4) rfl)) (lt_ rfl) fun a H => ww H <| fd rfl fld_56_5 rfl <| lN (l := [(.i C7), (.i C8)]) rfl agg_27 rfl ⟨(n19.old (n16.cell (i := 5) rfl)), (n19.old (n16.cell (i := 6) rfl)), trivial⟩ rfl <| fun a H => ?_
 refine s_build H rfl (by rw [H.parts (vs := [(0, (.i (wr .i64 (K2 + 1)))), (1, (.i C3)), (2, (.i S4)), (3, (.i O5)), (4, (.string K6)), (5, (.agg #[(.i C7), (.i C8)]))]) rfl]; exact bd_56_ii640_ii641_ii642_ii643_s4_ii64ii645 _ (wr .i64 (K2 + 1)) C3 S4 O5 K6 C7 C8) (lt_ rfl) fun a H => ww H <| al h zero_56 rfl rfl rfl fun b21 w22 n23 h => sN h rfl rfl agg_56 rfl rfl fun w24 h => fun a H => ?_
 obtain ⟨l27, hc28, h⟩ := h
 refine nk hK20 <| c_seq fun K25 hK25 => sr fun K26 hK26 => ww H <| fd rfl fld_56_0 rfl <| ld rfl one_3 hc28 rfl <| bn rfl rfl r_eql rfl <| fun a H => nk hK26 <| cd H rfl h (fun h29 h => ?_) (fun h29 h => ?_)
 ·refine sr fun K30 hK30 => ww H <| mv rfl rfl <| cl2 h body_58 rfl rfl eP fun C32 C33 w31 h => fd rfl fld_56_6 rfl <| sN h rfl rfl agg_27 rfl rfl fun w34 h => fun a H => ?_
  obtain ⟨K36, hc37, C38, hc39, S40, hc41, O42, hc43, K44, hc45, C46, hc47, C48, hc49, C50, hc51, C52, hc53, H54, hc55, D56, hc57, h⟩ := h
  refine nk hK30 <| sr fun K35 hK35 => ww H <| lN (l := [(.i K36), (.i C38), (.i S40), (.i O42), (.string K44), (.i C46), (.i C48), (.i C50), (.i C52), (.bool H54), D56.v]) rfl agg_56 rfl ⟨hc37, hc39, hc41, hc43, hc45, hc47, hc49, hc51, hc53, hc55, hc57, trivial⟩ rfl <| sN h rfl rfl agg_56 rfl rfl fun w58 h => fun a H => nk hK35 <| c_ret ?_
  obtain ⟨K59, hc60, C61, hc62, S63, hc64, O65, hc66, K67, hc68, C69, hc70, C71, hc72, C73, hc74, C75, hc76, H77, hc78, D79, hc80, h⟩ := h
  exact e_ret1 H rfl ⟨_, rfl, run_loadN (l := [(.i K59), (.i C61), (.i S63), (.i O65), (.string K67), (.i C69), (.i C71), (.i C73), (.i C75), (.bool H77), D79.v]) agg_56 rfl ⟨hc60, hc62, hc64, hc66, hc68, hc70, hc72, hc74, hc76, hc78, hc80, trivial⟩⟩ h
 ·obtain ⟨C86, hc87, C88, hc89, h⟩ := h
  refine c_skip <| hK25 _ _ <| sr fun K85 hK85 => ww H <| mv rfl rfl <| fd rfl fld_56_5 rfl <| lN (l := [(.i C86), (.i C88)]) rfl agg_27 rfl ⟨hc87, hc89, trivial⟩ rfl <| cl1 h body_59 rfl rfl eP fun f91 w90 h => fun a H => ?_
  obtain ⟨l94, hc95, h⟩ := h
  refine ww H <| ag rfl rfl <| fun a H => nk hK85 <| c_seq fun K92 hK92 => sr fun K93 hK93 => ww H <| fd rfl fld_56_0 rfl <| ld rfl one_3 hc95 rfl <| bn rfl rfl r_eql rfl <| fun a H => nk hK93 <| cd H rfl h (fun h96 h => ?_) (fun h96 h => ?_)
  ·refine c_seq fun K97 hK97 => ?_
   obtain ⟨R98, h, h189⟩ := h
   have h146 : ∀ (a : Act) (w99 : World), R98 w99 → Has 97 [] a [(4, (.pointer (some (blk b17)))), (5, (.pointer (some (blk b21))))] → K97 a w99 := by
    clear h
    intro a w99 h H
    replace h := h189 w99 h
    obtain ⟨K101, hc102, C103, hc104, S105, hc106, O107, hc108, K109, hc110, C111, hc112, C113, hc114, C115, hc116, C117, hc118, H119, hc120, D121, hc122, h⟩ := h
    refine hK97 _ _ <| sr fun K100 hK100 => ww H <| lN (l := [(.i K101), (.i C103), (.i S105), (.i O107), (.string K109), (.i C111), (.i C113), (.i C115), (.i C117), (.bool H119), D121.v]) rfl agg_56 rfl ⟨hc102, hc104, hc106, hc108, hc110, hc112, hc114, hc116, hc118, hc120, hc122, trivial⟩ rfl <| sN h rfl rfl agg_56 rfl rfl fun w123 h => fun a H => nk hK100 <| c_ret ?_
    obtain ⟨K124, hc125, C126, hc127, S128, hc129, O130, hc131, K132, hc133, C134, hc135, C136, hc137, C138, hc139, C140, hc141, H142, hc143, D144, hc145, h⟩ := h
    exact e_ret1 H rfl ⟨_, rfl, run_loadN (l := [(.i K124), (.i C126), (.i S128), (.i O130), (.string K132), (.i C134), (.i C136), (.i C138), (.i C140), (.bool H142), D144.v]) agg_56 rfl ⟨hc125, hc127, hc129, hc131, hc133, hc135, hc137, hc139, hc141, hc143, hc145, trivial⟩⟩ h
   clear h189
   obtain ⟨a148, h188, h⟩ := h
   refine sr fun K147 hK147 => ww H <| mv rfl rfl <| fun a H => ?_
   revert H
   revert h
   subst h188
   intro h H
   obtain ⟨l149, hc150, a151, h152, h153, h154, h⟩ := h
   refine ww H <| nl rfl rfl <| fd rfl fld_97_0 rfl <| ld rfl one_95 hc150 rfl <| mv rfl rfl <| fun a H => s_idxS (s := l149) H rfl rfl rfl slc_95 h152 h153 h154 (lt_ rfl) fun a H => ?_
   obtain ⟨l155, hc156, h⟩ := h
   refine ww H <| fd rfl fld_139_2 rfl <| ld rfl one_4 hc156 rfl <| fun a H => s_un H rfl rfl r_not (lt_ rfl) fun a H => nk hK147 <| cd H rfl h (fun h157 h => ?_) (fun h157 h => ?_)
   ·obtain ⟨l159, hc160, a161, h162, h163, h164, h⟩ := h
    refine sr fun K158 hK158 => ww H <| mv rfl rfl <| nl rfl rfl <| fd rfl fld_97_0 rfl <| ld rfl one_95 hc160 rfl <| mv rfl rfl <| fun a H => s_idxS (s := l159) H rfl rfl rfl slc_95 h162 h163 h164 (lt_ rfl) fun a H => ww H <| fd rfl fld_139_2 rfl <| st h rfl rfl one_4 rfl fun w165 w165S h => fun a H => nk hK158 <| ?_
    replace H := H.weaken (L' := [(0, (.pointer (some a148))), (3, (.pointer (some (blk b14)))), (4, (.pointer (some (blk b17)))), (5, (.pointer (some (blk b21)))), (6, (.i f91))]) ⟨rfl, rfl, rfl, rfl, rfl, trivial⟩
    obtain ⟨l168, hc169, l170, hc171, h⟩ := h
    refine c_any (V := [(0, (.pointer (some a148))), (1, (.pointer (some a148))), (2, (.pointer (some (a148.add 0)))), (3, l168.v), (4, (.i f91)), (6, (.pointer (some ((blk b14).add 10)))), (7, l170.v)]) (⟨[[], [0], [1], [2], [], [], [], [6], [5, 7], [0, 1, 2, 3, 4, 5, 6, 7, 8], [0, 1, 2, 3, 4, 5, 6, 7, 8, 9], [0, 1, 2, 3, 4, 5, 6, 7, 8, 10]], [some 51, some 52, some 53, some 54, some 55, some 56, some 57, some 58, some 59, some 60, some 61, none], [5, 8, 11], [0, 0, 0, 0, 0, 0, 0, 0, 1, 2, 2, 2], [2, 2, 2, 2, 2, 1, 1, 1, 2, 2, 2, 3]⟩ : Rg) [(0, (.pointer (some a148))), (3, (.pointer (some (blk b14)))), (4, (.pointer (some (blk b17)))), (5, (.pointer (some (blk b21)))), (6, (.i f91))] mixed (by kernel_rfl) H <| Stg.eff [0, 1, 2, 3, 4, 6, 7] (by kernel_rfl) rfl (.cons ?_ (.cons ?_ (.cons ?_ (.cons ?_ (.cons ?_ (.cons ?_ (.cons ?_ .nil))))))) ?_
    ·exact Aw rfl rfl <| mv rfl rfl <| An rfl
    ·exact Aw rfl rfl <| nl rfl rfl <| An rfl
    ·exact Aw rfl rfl <| fd rfl fld_97_0 rfl <| An rfl
    ·exact Aw rfl rfl <| ld rfl one_95 hc169 rfl <| An rfl
    ·exact Aw rfl rfl <| mv rfl rfl <| An rfl
    ·exact Aw rfl rfl <| fd rfl fld_56_8 rfl <| An rfl
    ·exact Aw rfl rfl <| ld rfl one_49 hc171 rfl <| An rfl
    ·intro a H
     replace H := H.weaken (L' := []) trivial
     replace h := h.get
     obtain ⟨b172, w173, n174, h⟩ := h
     refine s_bslc H rfl (by rw [H.parts (vs := []) rfl]; exact bs_49_0 (w165.drewN 1)) (lt_ rfl) ?_
     rw [← n174.at_]
     clear H a
     intro a H
     refine n174.go ?_
     obtain ⟨hc175, hc176, h⟩ := h
     refine c_nil <| effQ.go [] H rfl rfl <| Stg.eff [0, 1, 2, 3, 4, 6, 7] (by kernel_rfl) rfl (.cons ?_ (.cons ?_ (.cons ?_ (.cons ?_ (.cons ?_ (.cons ?_ (.cons ?_ .nil))))))) ?_
     ·exact Aw rfl rfl <| mv rfl rfl <| An rfl
     ·exact Aw rfl rfl <| nl rfl rfl <| An rfl
     ·exact Aw rfl rfl <| fd rfl fld_97_0 rfl <| An rfl
     ·exact Aw rfl rfl <| ld rfl one_95 hc175 rfl <| An rfl
     ·exact Aw rfl rfl <| mv rfl rfl <| An rfl
     ·exact Aw rfl rfl <| fd rfl fld_56_8 rfl <| An rfl
     ·exact Aw rfl rfl <| ld rfl one_49 hc176 rfl <| An rfl
     ·intro a H
      replace H := H.weaken (L' := [(56, (Slc.v (Slc.mk (some (blk b172)) 0 0))), (58, l170.v)]) ⟨rfl, rfl, trivial⟩
      obtain ⟨s177, w178, h179, h⟩ := h
      refine s_blt H rfl (H.args (vs := [(Slc.v (Slc.mk (some (blk b172)) 0 0)), l170.v]) rfl) (lt_ rfl) (fun cs => b_app (z := s177) h179) ?_
      clear H a h179
      intro a H
      obtain ⟨hc180, a181, h182, h183, h184, h⟩ := h
      refine c_nil <| effQ.go [(9, (.pointer (some (a181.add (Int.toNat (f91) * 5))))), (10, (.pointer (some ((a181.add (Int.toNat (f91) * 5)).add 4))))] H rfl rfl <| Stg.eff [0, 1, 2, 3, 4, 9, 10] (by kernel_rfl) rfl (.cons ?_ (.cons ?_ (.cons ?_ (.cons ?_ (.cons ?_ (.cons ?_ (.cons ?_ .nil))))))) ?_
      ·exact Aw rfl rfl <| mv rfl rfl <| An rfl
      ·exact Aw rfl rfl <| nl rfl rfl <| An rfl
      ·exact Aw rfl rfl <| fd rfl fld_97_0 rfl <| An rfl
      ·exact Aw rfl rfl <| ld rfl one_95 hc180 rfl <| An rfl
      ·exact Aw rfl rfl <| mv rfl rfl <| An rfl
      ·exact Ans.mk rfl rfl fun a H => s_idxS (s := l168) H rfl rfl rfl slc_95 h182 h183 h184 (lt_ rfl) fun a H => Ans.fin H rfl
      ·exact Aw rfl rfl <| fd rfl fld_139_3 rfl <| An rfl
      ·refine st h rfl rfl one_49 rfl fun w185 w185S h => fun a H => c_nil <| effQ.go0 [] H rfl rfl <| Stg.fin [] (by kernel_rfl) .nil ?_
       ·intro a H
        replace H := H.weaken (L' := [(4, (.pointer (some (blk b17)))), (5, (.pointer (some (blk b21))))]) ⟨rfl, rfl, trivial⟩
        exact h146 _ _ h (H.weaken ⟨rfl, rfl, trivial⟩)
   ·exact c_skip <| h146 _ _ h (H.weaken ⟨rfl, rfl, trivial⟩)
  ·obtain ⟨a191, h294, h⟩ := h
   refine c_skip <| hK92 _ _ <| sr fun K190 hK190 => ww H <| mv rfl rfl <| fun a H => ?_
   revert H
   revert h
   subst h294
   intro h H
   obtain ⟨l192, hc193, a194, h195, h196, h197, h⟩ := h
   refine ww H <| nl rfl rfl <| fd rfl fld_97_0 rfl <| ld rfl one_95 hc193 rfl <| mv rfl rfl <| fun a H => s_idxS (s := l192) H rfl rfl rfl slc_95 h195 h196 h197 (lt_ rfl) fun a H => ww H <| fd rfl fld_139_1 rfl <| st h rfl rfl one_4 rfl fun w198 w198S h => fun a H => nk hK190 <| c_seq fun K201 hK201 => ?_
   obtain ⟨R202, h, h293⟩ := h
   have h250 : ∀ (a : Act) (w203 : World), R202 w203 → Has 97 [] a [(4, (.pointer (some (blk b17)))), (5, (.pointer (some (blk b21))))] → K201 a w203 := by
    clear h
    intro a w203 h H
    replace h := h293 w203 h
    obtain ⟨K205, hc206, C207, hc208, S209, hc210, O211, hc212, K213, hc214, C215, hc216, C217, hc218, C219, hc220, C221, hc222, H223, hc224, D225, hc226, h⟩ := h
    refine hK201 _ _ <| sr fun K204 hK204 => ww H <| lN (l := [(.i K205), (.i C207), (.i S209), (.i O211), (.string K213), (.i C215), (.i C217), (.i C219), (.i C221), (.bool H223), D225.v]) rfl agg_56 rfl ⟨hc206, hc208, hc210, hc212, hc214, hc216, hc218, hc220, hc222, hc224, hc226, trivial⟩ rfl <| sN h rfl rfl agg_56 rfl rfl fun w227 h => fun a H => nk hK204 <| c_ret ?_
    obtain ⟨K228, hc229, C230, hc231, S232, hc233, O234, hc235, K236, hc237, C238, hc239, C240, hc241, C242, hc243, C244, hc245, H246, hc247, D248, hc249, h⟩ := h
    exact e_ret1 H rfl ⟨_, rfl, run_loadN (l := [(.i K228), (.i C230), (.i S232), (.i O234), (.string K236), (.i C238), (.i C240), (.i C242), (.i C244), (.bool H246), D248.v]) agg_56 rfl ⟨hc229, hc231, hc233, hc235, hc237, hc239, hc241, hc243, hc245, hc247, hc249, trivial⟩⟩ h
   clear h293
   obtain ⟨l252, hc253, h⟩ := h
   refine sr fun K251 hK251 => ww H <| fd rfl fld_56_0 rfl <| ld rfl one_3 hc253 rfl <| bn rfl rfl r_eql rfl <| fun a H => nk hK251 <| cd H rfl h (fun h254 h => ?_) (fun h254 h => ?_)
   ·refine sr fun K255 hK255 => ww H <| mv rfl rfl <| cl2 h body_58 rfl rfl eP fun C257 C258 w256 h => fd rfl fld_56_6 rfl <| sN h rfl rfl agg_27 rfl rfl fun w259 h => fun a H => ?_
    obtain ⟨l261, hc262, a263, h264, h265, h266, h⟩ := h
    refine nk hK255 <| sr fun K260 hK260 => ww H <| mv rfl rfl <| nl rfl rfl <| fd rfl fld_97_0 rfl <| ld rfl one_95 hc262 rfl <| mv rfl rfl <| fun a H => s_idxS (s := l261) H rfl rfl rfl slc_95 h264 h265 h266 (lt_ rfl) fun a H => ?_
    obtain ⟨l267, hc268, h⟩ := h
    refine ww H <| fd rfl fld_139_2 rfl <| ld rfl one_4 hc268 rfl <| fd rfl fld_56_7 rfl <| st h rfl rfl one_4 rfl fun w269 w269S h => fun a H => nk hK260 <| c_reg ?_
    replace h := h.get
    obtain ⟨b272, w273, n274, h⟩ := h
    refine s_bslc H rfl (by rw [H.parts (vs := []) rfl]; exact bs_49_0 w269) (lt_ rfl) ?_
    rw [← n274.at_]
    clear H a
    intro a H
    refine n274.go ?_
    obtain ⟨l275, hc276, a277, h278, h279, h280, h⟩ := h
    refine ww H <| mv rfl rfl <| nl rfl rfl <| fd rfl fld_97_0 rfl <| ld rfl one_95 hc276 rfl <| mv rfl rfl <| fun a H => s_idxS (s := l275) H rfl rfl rfl slc_95 h278 h279 h280 (lt_ rfl) fun a H => ?_
    obtain ⟨l281, hc282, s283, w284, h285, h⟩ := h
    refine ww H <| fd rfl fld_139_3 rfl <| ld rfl one_49 hc282 rfl <| fun a H => s_blt H rfl (H.args (vs := [(Slc.v (Slc.mk (some (blk b272)) 0 0)), l281.v]) rfl) (lt_ rfl) (fun cs => b_app (z := s283) h285) ?_
    clear H a h285
    intro a H
    exact ww H <| fd rfl fld_56_8 rfl <| st h rfl rfl one_49 rfl fun w286 w286S h => fun a H => c_nil <| h250 _ _ h (H.weaken ⟨rfl, rfl, trivial⟩)
   ·exact c_skip <| h250 _ _ h (H.weaken ⟨rfl, rfl, trivial⟩)

theorem sim_sherdlaw18_sameMessages (a1 b2 : Slc) (w : World) (Q : Ending → World → Prop) (h : vc_sherdlaw18_sameMessages a1 b2 w Q) : Calls PP F_sherdlaw18_sameMessages #[a1.v, b2.v] w Q := by
 unfold vc_sherdlaw18_sameMessages at h
 have eP {L : List (Nat × Value)} (c : List PanicEntry) (w' : World) (a : Act) (h : Q (.panicked c) w') (H : Has 27 [] a L) : bodyPost PP Tryz.f27 Q (.panic c) a w' := e_panic H h
 refine enter (n := 27) Tryz.func27 rfl rfl (le_ rfl) fun a H => sr fun K3 hK3 => ww H <| ag rfl rfl <| fun a H => nk hK3 <| c_seq fun K4 hK4 => sr fun K5 hK5 => ww H <| mv rfl rfl <| bl (vs := [a1.v]) rfl rfl (fun cs => b_lenS (z := a1) sl_46) <| mv rfl rfl <| bl (vs := [b2.v]) rfl rfl (fun cs => b_lenS (z := b2) sl_46) <| bn rfl rfl r_neq rfl <| fun a H => nk hK5 <| cd H rfl h (fun h6 h => ?_) (fun h6 h => ?_)
 ·exact sr fun K7 hK7 => ww H <| ag rfl rfl <| fun a H => nk hK7 <| c_ret <| e_ret1 H rfl rfl h
 ·refine c_skip <| hK4 _ _ <| c_seq fun K8 hK8 => sr fun K9 hK9 => ww H <| ag rfl rfl <| fun a H => nk hK9 <| c_block ?_
  obtain ⟨I12, m13, h80, h81⟩ := h
  refine c_loop (σ := Int) (fun z w => I12 z w) (fun z w => m13 z w) (fun z => [(0, a1.v), (1, b2.v), (5, (.i z))]) 0 h80 (H.weaken ⟨rfl, rfl, rfl, trivial⟩) ?_
  clear H h80
  rintro i10 a w11 h H
  replace h := h81 i10 w11 h
  clear h81
  replace H : Has 27 [] a [(0, a1.v), (1, b2.v), (5, (.i i10))] := H
  refine c_seq fun K14 hK14 => sr fun K15 hK15 => ww H <| mv rfl rfl <| mv rfl rfl <| bl (vs := [a1.v]) rfl rfl (fun cs => b_lenS (z := a1) sl_46) <| bn rfl rfl r_lss rfl <| fun a H => nk hK15 <| cd H rfl h (fun h16 h => ?_) (fun h16 h => ?_)
  ·refine c_skip <| hK14 _ _ <| c_seq fun K17 hK17 => c_block <| c_seq fun K18 hK18 => ?_
   replace H := H.weaken (L' := [(0, a1.v), (1, b2.v), (5, (.i i10))]) ⟨rfl, rfl, rfl, trivial⟩
   obtain ⟨a19, h20, h21, h22, K23, hc24, C25, hc26, S27, hc28, O29, hc30, K31, hc32, C33, hc34, C35, hc36, C37, hc38, C39, hc40, H41, hc42, D43, hc44, a45, h46, h47, h48, K49, hc50, C51, hc52, S53, hc54, O55, hc56, K57, hc58, C59, hc60, C61, hc62, C63, hc64, C65, hc66, H67, hc68, D69, hc70, h⟩ := h
   refine c_any (V := [(0, a1.v), (1, (.i i10)), (2, (.pointer (some (a19.add (Int.toNat (i10) * 11))))), (3, (.agg #[(.i K23), (.i C25), (.i S27), (.i O29), (.string K31), (.i C33), (.i C35), (.i C37), (.i C39), (.bool H41), D43.v])), (4, b2.v), (5, (.i i10)), (6, (.pointer (some (a45.add (Int.toNat (i10) * 11))))), (7, (.agg #[(.i K49), (.i C51), (.i S53), (.i O55), (.string K57), (.i C59), (.i C61), (.i C63), (.i C65), (.bool H67), D69.v]))]) (⟨[[], [], [0, 1], [2], [], [], [4, 5], [6], [3, 7], [8]], [some 17, some 18, some 19, some 20, some 21, some 22, some 23, some 24, some 25, some 26], [8], [0, 0, 0, 0, 0, 0, 0, 0, 0, 1], [0, 0, 0, 0, 0, 0, 0, 0, 1, 1]⟩ : Rg) [(0, a1.v), (1, b2.v), (5, (.i i10))] mixed (by kernel_rfl) H <| Stg.eff [0, 1, 2, 3, 4, 5, 6, 7] (by kernel_rfl) rfl (.cons ?_ (.cons ?_ (.cons ?_ (.cons ?_ (.cons ?_ (.cons ?_ (.cons ?_ (.cons ?_ .nil)))))))) ?_
   ·exact Aw rfl rfl <| mv rfl rfl <| An rfl
   ·exact Aw rfl rfl <| mv rfl rfl <| An rfl
   ·exact Ans.mk rfl rfl fun a H => s_idxS (s := a1) H rfl rfl rfl slc_46 h20 h21 h22 (lt_ rfl) fun a H => Ans.fin H rfl
   ·exact Aw rfl rfl <| lN (l := [(.i K23), (.i C25), (.i S27), (.i O29), (.string K31), (.i C33), (.i C35), (.i C37), (.i C39), (.bool H41), D43.v]) rfl agg_56 rfl ⟨hc24, hc26, hc28, hc30, hc32, hc34, hc36, hc38, hc40, hc42, hc44, trivial⟩ rfl <| An rfl
   ·exact Aw rfl rfl <| mv rfl rfl <| An rfl
   ·exact Aw rfl rfl <| mv rfl rfl <| An rfl
   ·exact Ans.mk rfl rfl fun a H => s_idxS (s := b2) H rfl rfl rfl slc_46 h46 h47 h48 (lt_ rfl) fun a H => Ans.fin H rfl
   ·exact Aw rfl rfl <| lN (l := [(.i K49), (.i C51), (.i S53), (.i O55), (.string K57), (.i C59), (.i C61), (.i C63), (.i C65), (.bool H67), D69.v]) rfl agg_56 rfl ⟨hc50, hc52, hc54, hc56, hc58, hc60, hc62, hc64, hc66, hc68, hc70, trivial⟩ rfl <| An rfl
   ·refine cl1 h body_60 rfl rfl eP fun s72 w71 h => fun a H => c_nil <| effQ.go [(9, (.bool (!s72)))] H rfl rfl <| Stg.fin [9] (by kernel_rfl) (.cons ?_ .nil) ?_
    ·exact Ans.mk rfl rfl fun a H => s_un H rfl rfl r_not (lt_ rfl) fun a H => Ans.fin H rfl
    ·intro a H
     replace H := H.weaken (L' := [(0, a1.v), (1, b2.v), (5, (.i i10)), (26, (.bool (!s72)))]) ⟨rfl, rfl, rfl, rfl, trivial⟩
     refine hK18 _ _ <| cd H rfl h (fun h73 h => ?_) (fun h73 h => ?_)
     ·exact sr fun K74 hK74 => ww H <| ag rfl rfl <| fun a H => nk hK74 <| c_ret <| e_ret1 H rfl rfl h
     ·refine c_skip <| hK17 _ _ <| c_reg <| ww H <| mv rfl rfl <| bn rfl rfl r_add rfl <| ag rfl rfl <| fun a H => c_nil <| Exists.intro (wr .i64 (i10 + 1)) ⟨h.1, h.2, H.weaken ⟨rfl, rfl, rfl, trivial⟩⟩
  ·refine c_exit ?_
   first | (simp only [Exit.then, Exit.inBlock, ↓reduceIte]; fail_if_success simp only [Nat.reduceEqDiff]) | simp only [Exit.then, Exit.inBlock, ↓reduceIte, Nat.reduceEqDiff]
   exact hK8 _ _ <| sr fun K79 hK79 => ww H <| ag rfl rfl <| fun a H => nk hK79 <| c_ret <| e_ret1 H rfl rfl h

theorem sim_sherdlaw18_mod (k1 n2 : Int) (w : World) (Q : Ending → World → Prop) (h : vc_sherdlaw18_mod k1 n2 w Q) : Calls PP F_sherdlaw18_mod #[(.i k1), (.i n2)] w Q := by
 unfold vc_sherdlaw18_mod at h
 refine enter (n := 15) Tryz.func34 rfl rfl (le_ rfl) fun a H => ?_
 obtain ⟨h5, h⟩ := h
 refine sr fun K3 hK3 => ww H <| ag rfl rfl <| fun a H => nk hK3 <| sr fun K4 hK4 => ww H <| mv rfl rfl <| mv rfl rfl <| bn rfl rfl (r_rem h5) rfl <| ag rfl rfl <| fun a H => nk hK4 <| c_seq fun K6 hK6 => ?_
 obtain ⟨R8, h, h14⟩ := h
 have h11 : ∀ (a : Act) (r7 : Int) (w9 : World), R8 r7 w9 → Has 15 [] a [(5, (.i r7))] → K6 a w9 := by
  clear h
  intro a r7 w9 h H
  replace h := h14 r7 w9 h
  exact hK6 _ _ <| sr fun K10 hK10 => ww H <| mv rfl rfl <| ag rfl rfl <| fun a H => nk hK10 <| c_ret <| e_ret1 H rfl rfl h
 clear h14
 refine sr fun K12 hK12 => ww H <| mv rfl rfl <| bn rfl rfl r_lss rfl <| fun a H => nk hK12 <| cd H rfl h (fun h13 h => ?_) (fun h13 h => ?_)
 ·exact c_reg <| ww H <| mv rfl rfl <| mv rfl rfl <| bn rfl rfl r_add rfl <| ag rfl rfl <| fun a H => c_nil <| h11 _ _ _ h (H.weaken ⟨rfl, trivial⟩)
 ·exact c_skip <| h11 _ _ _ h (H.weaken ⟨rfl, trivial⟩)

theorem sim_quorum_Check (N1 K2 D3 : Int) (w : World) (Q : Ending → World → Prop) (h : vc_quorum_Check N1 K2 D3 w Q) : Calls PP F_quorum_Check #[(.agg #[(.i N1), (.i K2), (.i D3)])] w Q := by
 unfold vc_quorum_Check at h
 refine enter (n := 28) Tryz.func35 rfl rfl (le_ rfl) fun a H => sr fun K4 hK4 => ww H <| bx h rfl rfl rfl rfl fun b5 w6 n7 h => ag rfl rfl <| fun a H => nk hK4 <| c_seq fun K8 hK8 => sr fun K9 hK9 => ww H <| fd rfl fld_35_1 rfl <| fun a H => s_load (v := (.i K2)) H rfl rfl one_3 (n7.cell (i := 1) rfl) (lt_ rfl) fun a H => ww H <| bn rfl rfl r_lss rfl <| mv rfl rfl <| fun a H => g_join (n := 28) [(12, (.bool ((decide (K2 < 1)) || (decide (N1 < K2))))), (1, (.pointer (some (blk b5))))] (.succ (.succ (.succ (.succ (.succ (.succ (.zero _))))))) ?_ ?_
 ·intro h11
  try clear h
  rcases Bool.eq_false_or_eq_true (decide (K2 < 1)) with h10 | h10
  ·replace H := H.ch (t := 6) (b := true) rfl h10
   exact ww H <| sk rfl rfl rfl rfl <| sk rfl rfl rfl rfl <| sk rfl rfl rfl rfl <| sk rfl rfl rfl rfl <| sk rfl rfl rfl rfl <| pT rfl rfl rfl <| fun a H => h11 _ (H.weaken ⟨by rw [h10]; rfl, rfl, trivial⟩)
  ·replace H := H.ch (t := 6) (b := false) rfl h10
   exact ww H <| gfd rfl rfl rfl fld_35_1 rfl <| fun a H => s_load (v := (.i K2)) H (wantG H rfl rfl) rfl one_3 (n7.cell (i := 1) rfl) (lt_ rfl) fun a H => ww H <| gfd rfl rfl rfl fld_35_0 rfl <| fun a H => s_load (v := (.i N1)) H (wantG H rfl rfl) rfl one_3 (n7.cell (i := 0) rfl) (lt_ rfl) fun a H => ww H <| gbn rfl rfl rfl rfl r_gtr rfl <| pF rfl rfl rfl <| fun a H => h11 _ (H.weaken ⟨by rw [h10]; rfl, rfl, trivial⟩)
 ·clear H a
  intro a H
  refine ww H <| mv rfl rfl <| fun a H => g_join (n := 28) [(17, (.bool (((decide (K2 < 1)) || (decide (N1 < K2))) || (decide (255 < N1))))), (1, (.pointer (some (blk b5))))] (.succ (.succ (.succ (.succ (.zero _))))) ?_ ?_
  ·intro h13
   try clear h
   rcases Bool.eq_false_or_eq_true ((decide (K2 < 1)) || (decide (N1 < K2))) with h12 | h12
   ·replace H := H.ch (t := 13) (b := true) rfl h12
    exact ww H <| sk rfl rfl rfl rfl <| sk rfl rfl rfl rfl <| sk rfl rfl rfl rfl <| pT rfl rfl rfl <| fun a H => h13 _ (H.weaken ⟨by rw [h12]; rfl, rfl, trivial⟩)
   ·replace H := H.ch (t := 13) (b := false) rfl h12
    exact ww H <| gfd rfl rfl rfl fld_35_0 rfl <| fun a H => s_load (v := (.i N1)) H (wantG H rfl rfl) rfl one_3 (n7.cell (i := 0) rfl) (lt_ rfl) fun a H => ww H <| gbn rfl rfl rfl rfl r_gtr rfl <| pF rfl rfl rfl <| fun a H => h13 _ (H.weaken ⟨by rw [h12]; rfl, rfl, trivial⟩)
  ·clear H a
   intro a H
   refine ww H <| mv rfl rfl <| fun a H => g_join (n := 28) [(22, (.bool ((((decide (K2 < 1)) || (decide (N1 < K2))) || (decide (255 < N1))) || (decide (D3 < 0))))), (1, (.pointer (some (blk b5))))] (.succ (.succ (.succ (.succ (.zero _))))) ?_ ?_
   ·intro h15
    try clear h
    rcases Bool.eq_false_or_eq_true (((decide (K2 < 1)) || (decide (N1 < K2))) || (decide (255 < N1))) with h14 | h14
    ·replace H := H.ch (t := 18) (b := true) rfl h14
     exact ww H <| sk rfl rfl rfl rfl <| sk rfl rfl rfl rfl <| sk rfl rfl rfl rfl <| pT rfl rfl rfl <| fun a H => h15 _ (H.weaken ⟨by rw [h14]; rfl, rfl, trivial⟩)
    ·replace H := H.ch (t := 18) (b := false) rfl h14
     exact ww H <| gfd rfl rfl rfl fld_35_2 rfl <| fun a H => s_load (v := (.i D3)) H (wantG H rfl rfl) rfl one_3 (n7.cell (i := 2) rfl) (lt_ rfl) fun a H => ww H <| gbn rfl rfl rfl rfl r_lss rfl <| pF rfl rfl rfl <| fun a H => h15 _ (H.weaken ⟨by rw [h14]; rfl, rfl, trivial⟩)
   ·clear H a
    intro a H
    refine ww H <| mv rfl rfl <| fun a H => g_join (n := 28) [(27, (.bool (((((decide (K2 < 1)) || (decide (N1 < K2))) || (decide (255 < N1))) || (decide (D3 < 0))) || (decide (4611686018427387903 < D3)))))] (.succ (.succ (.succ (.succ (.zero _))))) ?_ ?_
    ·intro h17
     try clear h
     rcases Bool.eq_false_or_eq_true ((((decide (K2 < 1)) || (decide (N1 < K2))) || (decide (255 < N1))) || (decide (D3 < 0))) with h16 | h16
     ·replace H := H.ch (t := 23) (b := true) rfl h16
      exact ww H <| sk rfl rfl rfl rfl <| sk rfl rfl rfl rfl <| sk rfl rfl rfl rfl <| pT rfl rfl rfl <| fun a H => h17 _ (H.weaken ⟨by rw [h16]; rfl, trivial⟩)
     ·replace H := H.ch (t := 23) (b := false) rfl h16
      exact ww H <| gfd rfl rfl rfl fld_35_2 rfl <| fun a H => s_load (v := (.i D3)) H (wantG H rfl rfl) rfl one_3 (n7.cell (i := 2) rfl) (lt_ rfl) fun a H => ww H <| gbn rfl rfl rfl rfl r_gtr rfl <| pF rfl rfl rfl <| fun a H => h17 _ (H.weaken ⟨by rw [h16]; rfl, trivial⟩)
    ·clear H a
     intro a H
     refine nk hK9 <| cd H rfl h (fun h18 h => ?_) (fun h18 h => ?_)
     ·exact sr fun K19 hK19 => ww H <| ag rfl rfl <| fun a H => nk hK19 <| c_ret <| e_ret1 H rfl rfl h
     ·exact c_skip <| hK8 _ _ <| sr fun K20 hK20 => ww H <| ag rfl rfl <| fun a H => nk hK20 <| c_ret <| e_ret1 H rfl rfl h

theorem sim_gf_Std (w : World) (Q : Ending → World → Prop) (h : vc_gf_Std w Q) : Calls PP F_gf_Std #[] w Q := by
 unfold vc_gf_Std at h
 have eP {L : List (Nat × Value)} (c : List PanicEntry) (w' : World) (a : Act) (h : Q (.panicked c) w') (H : Has 8 [] a L) : bodyPost PP Tryz.f36 Q (.panic c) a w' := e_panic H h
 exact enter (n := 8) Tryz.func36 rfl rfl (le_ rfl) fun a H => sr fun K1 hK1 => ww H <| ag rfl rfl <| fun a H => nk hK1 <| sr fun K2 hK2 => ww H <| cl2 h body_73 rfl rfl eP fun N4 N5 w3 h => mv rfl rfl <| ex rfl rfl rfl <| ex rfl rfl rfl <| ag rfl rfl <| ag rfl rfl <| fun a H => nk hK2 <| sr fun K6 hK6 => ww H <| mv rfl rfl <| ag rfl rfl <| fun a H => nk hK6 <| c_ret <| e_ret1 H rfl rfl h

theorem sim_code_generator (f1 : Option Addr) (n2 k3 : Int) (w : World) (Q : Ending → World → Prop) (h : vc_code_generator f1 n2 k3 w Q) : Calls PP F_code_generator #[(.pointer f1), (.i n2), (.i k3)] w Q := by
 unfold vc_code_generator at h
 have eP {L : List (Nat × Value)} (c : List PanicEntry) (w' : World) (a : Act) (h : Q (.panicked c) w') (H : Has 59 [] a L) : bodyPost PP Tryz.f37 Q (.panic c) a w' := e_panic H h
 refine enter (n := 59) Tryz.func37 rfl rfl (le_ rfl) fun a H => ?_
 obtain ⟨s6, w7, h8, h⟩ := h
 refine sr fun K4 hK4 => ww H <| ag rfl rfl <| fun a H => nk hK4 <| sr fun K5 hK5 => ww H <| mv rfl rfl <| fun a H => s_mk H rfl rfl rfl h8 (lt_ rfl) ?_
 clear H a h8
 intro a H
 refine ww H <| ag rfl rfl <| fun a H => nk hK5 <| c_seq fun K9 hK9 => sr fun K10 hK10 => ww H <| mv rfl rfl <| bl (vs := [s6.v]) rfl rfl (fun cs => b_lenS (z := s6) sl_49) <| mv rfl rfl <| fun a H => nk hK10 <| c_block ?_
 obtain ⟨I13, m14, h69, h70⟩ := h
 refine c_loop (σ := Int) (fun z w => I13 z w) (fun z w => m14 z w) (fun z => [(0, (.pointer f1)), (2, (.i k3)), (7, s6.v), (20, (.i (s6.l : Int))), (21, (.i z))]) 0 h69 (H.weaken ⟨rfl, rfl, rfl, rfl, rfl, trivial⟩) ?_
 clear H h69
 rintro s11 a w12 h H
 replace h := h70 s11 w12 h
 clear h70
 replace H : Has 59 [] a [(0, (.pointer f1)), (2, (.i k3)), (7, s6.v), (20, (.i (s6.l : Int))), (21, (.i s11))] := H
 refine sr fun K15 hK15 => ww H <| bn rfl rfl r_lss rfl <| fun a H => nk hK15 <| c_seq fun K16 hK16 => cd H rfl h (fun h17 h => ?_) (fun h17 h => ?_)
 ·refine c_skip <| hK16 _ _ <| c_seq fun K18 hK18 => c_block <| sr fun K19 hK19 => ww H <| mv rfl rfl <| ag rfl rfl <| fun a H => nk hK19 <| c_reg <| ww H <| mv rfl rfl <| mv rfl rfl <| mv rfl rfl <| fun a H => s_cv H rfl rfl (r_cvI some_3 int_5) (lt_ rfl) fun a H => ?_
  obtain ⟨a20, h21, h22, h23, h⟩ := h
  refine s_idxS (s := s6) H rfl rfl rfl slc_49 h21 h22 h23 (lt_ rfl) fun a H => ww H <| st h rfl rfl one_5 rfl fun w24 w24S h => fun a H => nk hK18 <| c_reg <| ww H <| bn rfl rfl r_add rfl <| mv rfl rfl <| fun a H => c_nil <| Exists.intro (wr .i64 (s11 + 1)) ⟨h.1, h.2, H.weaken ⟨rfl, rfl, rfl, rfl, rfl, trivial⟩⟩
 ·refine c_exit ?_
  first | (simp only [Exit.then, Exit.inBlock, ↓reduceIte]; fail_if_success simp only [Nat.reduceEqDiff]) | simp only [Exit.then, Exit.inBlock, ↓reduceIte, Nat.reduceEqDiff]
  refine hK9 _ _ <| sr fun K27 hK27 => ww H <| mv rfl rfl <| mv rfl rfl <| mv rfl rfl <| cl2 h body_74 rfl rfl eP fun V29 V30 w28 h => fun a H => ?_
  obtain ⟨h32, h33, h34, h⟩ := h
  refine ww H <| mv rfl rfl <| ex rfl rfl rfl <| ex rfl rfl rfl <| ag rfl rfl <| ag rfl rfl <| fun a H => nk hK27 <| sr fun K31 hK31 => ww H <| mv rfl rfl <| mv rfl rfl <| mv rfl rfl <| fun a H => s_slice (v := (Slc.v (s6.cut 1 (Int.toNat (0)) (Int.toNat (k3))))) H rfl rfl ⟨rfl, rfl⟩ ⟨rfl, rfl⟩ ⟨rfl, rfl⟩ (r_sliceSlc (lo := none) (hi := (some (.i64, k3))) slc_49 rfl rfl h32 h33 h34) (lt_ rfl) fun a H => ww H <| mv rfl rfl <| cl2 h body_74 rfl rfl eP fun V36 V37 w35 h => mv rfl rfl <| ex rfl rfl rfl <| ex rfl rfl rfl <| ag rfl rfl <| ag rfl rfl <| fun a H => nk hK31 <| sr fun K38 hK38 => ww H <| mv rfl rfl <| cl2 h body_75 rfl rfl eP fun I40 I41 w39 h => mv rfl rfl <| ex rfl rfl rfl <| ex rfl rfl rfl <| ag rfl rfl <| ag rfl rfl <| fun a H => nk hK38 <| sr fun K42 hK42 => ww H <| mv rfl rfl <| mv rfl rfl <| cl2 h body_76 rfl rfl eP fun M44 M45 w43 h => mv rfl rfl <| ex rfl rfl rfl <| ex rfl rfl rfl <| ag rfl rfl <| ag rfl rfl <| fun a H => nk hK42 <| sr fun K46 hK46 => ww H <| mv rfl rfl <| cl1 h body_77 rfl rfl eP fun R48 w47 h => ag rfl rfl <| fun a H => nk hK46 <| c_ret ?_
  exact e_ret1 H rfl rfl h

theorem sim_client_Client_begin (c1 : Option Addr) (p2 : Bool) (k3 : ByteArray) (v4 : Slc) (w : World) (Q : Ending → World → Prop) (h : vc_client_Client_begin c1 p2 k3 v4 w Q) : Calls PP F_client_Client_begin #[(.pointer c1), (.bool p2), (.string k3), v4.v] w Q := by
 unfold vc_client_Client_begin at h
 have eP {L : List (Nat × Value)} (c : List PanicEntry) (w' : World) (a : Act) (h : Q (.panicked c) w') (H : Has 65 [] a L) : bodyPost PP Tryz.f38 Q (.panic c) a w' := e_panic H h
 refine enter (n := 65) Tryz.func38 rfl rfl (le_ rfl) fun a H => ?_
 obtain ⟨a8, h58, h⟩ := h
 refine sr fun K5 hK5 => ww H <| ag rfl rfl <| ag rfl rfl <| ag rfl rfl <| fun a H => nk hK5 <| c_seq fun K6 hK6 => c_block <| sr fun K7 hK7 => ww H <| mv rfl rfl <| fun a H => ?_
 revert H
 revert h
 subst h58
 intro h H
 obtain ⟨l9, hc10, h⟩ := h
 refine ww H <| nl rfl rfl <| fd rfl fld_102_5 rfl <| ld rfl one_100 hc10 rfl <| bn rfl rfl (r_neP0 ptr_100) rfl <| ag rfl rfl <| fun a H => nk hK7 <| cd H rfl h (fun h11 h => ?_) (fun h11 h => ?_)
 ·exact sr fun K12 hK12 => ww H <| ag rfl rfl <| ag rfl rfl <| ag rfl rfl <| fun a H => nk hK12 <| c_ret <| e_ret3 H rfl rfl rfl rfl h
 ·refine sr fun K13 hK13 => ww H <| mv rfl rfl <| bl (vs := [(.string k3)]) rfl rfl (fun cs => b_lenT str_9) <| bn rfl rfl r_lss rfl <| mv rfl rfl <| fun a H => g_join (n := 65) [(25, (.bool ((decide ((k3.size : Int) < 1)) || (decide (64 < (k3.size : Int)))))), (0, (.pointer (some a8))), (1, (.bool p2)), (2, (.string k3)), (3, v4.v)] (.succ (.succ (.succ (.succ (.zero _))))) ?_ ?_
  ·intro h15
   try clear h
   rcases Bool.eq_false_or_eq_true (decide ((k3.size : Int) < 1)) with h14 | h14
   ·replace H := H.ch (t := 21) (b := true) rfl h14
    exact ww H <| sk rfl rfl rfl rfl <| sk rfl rfl rfl rfl <| sk rfl rfl rfl rfl <| pT rfl rfl rfl <| fun a H => h15 _ (H.weaken ⟨by rw [h14]; rfl, rfl, rfl, rfl, rfl, trivial⟩)
   ·replace H := H.ch (t := 21) (b := false) rfl h14
    exact ww H <| gmv rfl rfl rfl rfl <| fun a H => s_blt H (wantG H rfl rfl) (H.args (vs := [(.string k3)]) rfl) (lt_ rfl) (fun cs => b_lenT str_9) fun a H => ww H <| gbn rfl rfl rfl rfl r_gtr rfl <| pF rfl rfl rfl <| fun a H => h15 _ (H.weaken ⟨by rw [h14]; rfl, rfl, rfl, rfl, rfl, trivial⟩)
  ·clear H a
   intro a H
   refine ww H <| ag rfl rfl <| fun a H => nk hK13 <| cd H rfl h (fun h16 h => ?_) (fun h16 h => ?_)
   ·exact sr fun K17 hK17 => ww H <| ag rfl rfl <| ag rfl rfl <| ag rfl rfl <| fun a H => nk hK17 <| c_ret <| e_ret3 H rfl rfl rfl rfl h
   ·refine sr fun K18 hK18 => ww H <| mv rfl rfl <| bl (vs := [v4.v]) rfl rfl (fun cs => b_lenS (z := v4) sl_49) <| bn rfl rfl r_gtr rfl <| ag rfl rfl <| fun a H => nk hK18 <| cd H rfl h (fun h19 h => ?_) (fun h19 h => ?_)
    ·exact sr fun K20 hK20 => ww H <| ag rfl rfl <| ag rfl rfl <| ag rfl rfl <| fun a H => nk hK20 <| c_ret <| e_ret3 H rfl rfl rfl rfl h
    ·obtain ⟨l22, hc23, h⟩ := h
     refine sr fun K21 hK21 => ww H <| mv rfl rfl <| nl rfl rfl <| fd rfl fld_102_3 rfl <| ld rfl one_2 hc23 rfl <| bn rfl rfl r_geq rfl <| ag rfl rfl <| fun a H => nk hK21 <| cd H rfl h (fun h24 h => ?_) (fun h24 h => ?_)
     ·exact sr fun K25 hK25 => ww H <| ag rfl rfl <| ag rfl rfl <| ag rfl rfl <| fun a H => nk hK25 <| c_ret <| e_ret3 H rfl rfl rfl rfl h
     ·obtain ⟨l27, hc28, h⟩ := h
      refine c_skip <| hK6 _ _ <| sr fun K26 hK26 => ww H <| mv rfl rfl <| nl rfl rfl <| fd rfl fld_102_3 rfl <| ld rfl one_2 hc28 rfl <| bn rfl rfl r_add rfl <| nl rfl rfl <| fd rfl fld_102_3 rfl <| st h rfl rfl one_2 rfl fun w29 w29S h => fun a H => nk hK26 <| c_seq fun K32 hK32 => ?_
      replace H := H.weaken (L' := [(0, (.pointer (some a8))), (1, (.bool p2)), (2, (.string k3)), (3, v4.v)]) ⟨rfl, rfl, rfl, rfl, trivial⟩
      obtain ⟨l33, hc34, h⟩ := h
      refine c_any (V := [(0, (.pointer (some a8))), (1, (.pointer (some a8))), (2, (.pointer (some a8))), (3, (.pointer (some (a8.add 5)))), (4, (.i l33)), (5, (.bool p2)), (6, (.string k3)), (7, v4.v)]) (⟨[[], [], [1], [2], [3], [], [], [], [7], [4, 5, 6, 8], [9], [0, 1, 2, 3, 4, 5, 6, 7, 8, 9, 10], [0, 1, 2, 3, 4, 5, 6, 7, 8, 9, 10, 11], [0, 1, 2, 3, 4, 5, 6, 7, 8, 9, 10, 12]], [some 43, some 44, some 45, some 46, some 47, some 48, some 49, some 50, some 51, some 52, some 53, some 54, some 55, none], [8, 10, 13], [0, 0, 0, 0, 0, 0, 0, 0, 0, 1, 1, 2, 2, 2], [2, 1, 1, 1, 1, 1, 1, 0, 1, 1, 2, 2, 2, 3]⟩ : Rg) [(0, (.pointer (some a8))), (1, (.bool p2)), (2, (.string k3)), (3, v4.v)] mixed (by kernel_rfl) H <| Stg.eff [0, 1, 2, 3, 4, 5, 6, 7] (by kernel_rfl) rfl (.cons ?_ (.cons ?_ (.cons ?_ (.cons ?_ (.cons ?_ (.cons ?_ (.cons ?_ (.cons ?_ .nil)))))))) ?_
      ·exact Aw rfl rfl <| mv rfl rfl <| An rfl
      ·exact Aw rfl rfl <| mv rfl rfl <| An rfl
      ·exact Aw rfl rfl <| nl rfl rfl <| An rfl
      ·exact Aw rfl rfl <| fd rfl fld_102_3 rfl <| An rfl
      ·exact Aw rfl rfl <| ld rfl one_2 hc34 rfl <| An rfl
      ·exact Aw rfl rfl <| mv rfl rfl <| An rfl
      ·exact Aw rfl rfl <| mv rfl rfl <| An rfl
      ·exact Aw rfl rfl <| mv rfl rfl <| An rfl
      ·refine cl1 h body_52 rfl rfl eP fun C36 w35 h => fun a H => ?_
       obtain ⟨hc37, h⟩ := h
       refine c_nil <| effQ.go [(9, (.agg #[(.i l33), (.bool p2), (.string k3), C36.v, .nilIface, (.i 0), (.i 0), (.pointer none)]))] H rfl rfl <| Stg.eff [0, 1, 2, 3, 4, 5, 6, 9] (by kernel_rfl) rfl (.cons ?_ (.cons ?_ (.cons ?_ (.cons ?_ (.cons ?_ (.cons ?_ (.cons ?_ (.cons ?_ .nil)))))))) ?_
       ·exact Aw rfl rfl <| mv rfl rfl <| An rfl
       ·exact Aw rfl rfl <| mv rfl rfl <| An rfl
       ·exact Aw rfl rfl <| nl rfl rfl <| An rfl
       ·exact Aw rfl rfl <| fd rfl fld_102_3 rfl <| An rfl
       ·exact Aw rfl rfl <| ld rfl one_2 hc37 rfl <| An rfl
       ·exact Aw rfl rfl <| mv rfl rfl <| An rfl
       ·exact Aw rfl rfl <| mv rfl rfl <| An rfl
       ·exact Ans.mk rfl rfl fun a H => s_build H rfl (by rw [H.parts (vs := [(0, (.i l33)), (1, (.bool p2)), (2, (.string k3)), (3, C36.v)]) rfl]; exact bd_116_ii640_b1_s2_s3 _ l33 p2 k3 C36) (lt_ rfl) fun a H => Ans.fin H rfl
       ·refine bx h rfl rfl rfl rfl fun b38 w39 n40 h => fun a H => c_nil <| effQ.go [(11, (.pointer (some a8))), (12, (.pointer (some (a8.add 7))))] H rfl rfl <| Stg.eff [0, 11, 12] (by kernel_rfl) rfl (.cons ?_ (.cons ?_ (.cons ?_ .nil))) ?_
        ·exact Aw rfl rfl <| mv rfl rfl <| An rfl
        ·exact Aw rfl rfl <| nl rfl rfl <| An rfl
        ·exact Aw rfl rfl <| fd rfl fld_102_5 rfl <| An rfl
        ·refine st h rfl rfl one_100 rfl fun w41 w41S h => fun a H => c_nil <| effQ.go0 [] H rfl rfl <| Stg.fin [] (by kernel_rfl) .nil ?_
         ·intro a H
          replace H := H.weaken (L' := [(0, (.pointer (some a8)))]) ⟨rfl, trivial⟩
          refine hK32 _ _ <| c_seq fun K44 hK44 => ?_
          replace H := H.weaken (L' := [(0, (.pointer (some a8)))]) ⟨rfl, trivial⟩
          obtain ⟨l45, hc46, h⟩ := h
          refine c_any (V := [(0, (.pointer (some a8))), (1, (.pointer (some a8))), (2, (.pointer (some (a8.add 5)))), (3, (.i l45)), (4, (.pointer (some a8))), (5, (.agg #[])), (6, (.iface 130 (.agg #[]))), (7, (.agg #[(.i 0), (.i 0)]))]) (⟨[[], [0], [1], [2], [], [], [5], [], [4, 6, 7], [0, 1, 2, 3, 8], [0, 1, 2, 3, 4, 5, 6, 7, 8, 9], [0, 1, 2, 3, 4, 5, 6, 7, 8, 9, 10]], [some 56, some 57, some 58, some 59, some 60, some 61, some 62, some 63, some 64, some 8, some 9, some 10], [8], [0, 0, 0, 0, 0, 0, 0, 0, 0, 1, 1, 1], [1, 1, 1, 1, 0, 0, 0, 0, 1, 1, 1, 1]⟩ : Rg) [(0, (.pointer (some a8)))] mixed (by kernel_rfl) H <| Stg.eff [0, 1, 2, 3, 4, 5, 6, 7] (by kernel_rfl) rfl (.cons ?_ (.cons ?_ (.cons ?_ (.cons ?_ (.cons ?_ (.cons ?_ (.cons ?_ (.cons ?_ .nil)))))))) ?_
          ·exact Aw rfl rfl <| mv rfl rfl <| An rfl
          ·exact Aw rfl rfl <| nl rfl rfl <| An rfl
          ·exact Aw rfl rfl <| fd rfl fld_102_3 rfl <| An rfl
          ·exact Aw rfl rfl <| ld rfl one_2 hc46 rfl <| An rfl
          ·exact Aw rfl rfl <| mv rfl rfl <| An rfl
          ·exact Ans.mk rfl rfl fun a H => s_build H rfl (by rw [H.parts (vs := []) rfl]; exact bd_130 _) (lt_ rfl) fun a H => Ans.fin H rfl
          ·exact Ans.mk rfl rfl fun a H => s_iface H rfl rfl ni_130 (lt_ rfl) fun a H => Ans.fin H rfl
          ·exact Ans.mk rfl rfl fun a H => s_build H rfl (by rw [H.parts (vs := []) rfl]; exact bd_27 _) (lt_ rfl) fun a H => Ans.fin H rfl
          ·refine cl1 h body_78 rfl rfl eP fun e48 w47 h => fun a H => ?_
           obtain ⟨hc49, h⟩ := h
           refine c_nil <| effQ.go [(9, (.i l45)), (10, e48.v), (11, (.i 0))] H rfl rfl <| Stg.fin [0, 1, 2, 3, 9, 10, 11] (by kernel_rfl) (.cons ?_ (.cons ?_ (.cons ?_ (.cons ?_ (.cons ?_ (.cons ?_ (.cons ?_ .nil))))))) ?_
           ·exact Aw rfl rfl <| mv rfl rfl <| An rfl
           ·exact Aw rfl rfl <| nl rfl rfl <| An rfl
           ·exact Aw rfl rfl <| fd rfl fld_102_3 rfl <| An rfl
           ·exact Aw rfl rfl <| ld rfl one_2 hc49 rfl <| An rfl
           ·exact Aw rfl rfl <| ag rfl rfl <| An rfl
           ·exact Aw rfl rfl <| ag rfl rfl <| An rfl
           ·exact Aw rfl rfl <| ag rfl rfl <| An rfl
           ·intro a H
            replace H := H.weaken (L' := [(8, (.i l45)), (9, e48.v), (10, (.i 0))]) ⟨rfl, rfl, rfl, trivial⟩
            exact hK44 _ _ <| c_ret <| e_ret3 H rfl rfl rfl rfl h

theorem sim_tag_Zero (C1 C2 : Int) (w : World) (Q : Ending → World → Prop) (h : vc_tag_Zero C1 C2 w Q) : Calls PP F_tag_Zero #[(.agg #[(.i C1), (.i C2)])] w Q := by
 unfold vc_tag_Zero at h
 exact enter (n := 6) Tryz.func39 rfl rfl (le_ rfl) fun a H => sr fun K3 hK3 => ww H <| bx h rfl rfl rfl rfl fun b4 w5 n6 h => ag rfl rfl <| fun a H => nk hK3 <| sr fun K7 hK7 => ww H <| lN (l := [(.i C1), (.i C2)]) rfl agg_27 rfl ⟨(n6.cell (i := 0) rfl), (n6.cell (i := 1) rfl), trivial⟩ rfl <| fun a H => s_build H rfl (by rw [H.parts (vs := []) rfl]; exact bd_27 _) (lt_ rfl) fun a H => ww H <| bn rfl rfl (r_eqst eqg_27 (eqst_27 0) rfl) rfl <| ag rfl rfl <| fun a H => nk hK7 <| c_ret <| e_ret1 H rfl rfl h

theorem sim_tag_proper (C1 C2 : Int) (w : World) (Q : Ending → World → Prop) (h : vc_tag_proper C1 C2 w Q) : Calls PP F_tag_proper #[(.agg #[(.i C1), (.i C2)])] w Q := by
 unfold vc_tag_proper at h
 refine enter (n := 21) Tryz.func40 rfl rfl (le_ rfl) fun a H => sr fun K3 hK3 => ww H <| bx h rfl rfl rfl rfl fun b4 w5 n6 h => ag rfl rfl <| fun a H => nk hK3 <| sr fun K7 hK7 => ww H <| fd rfl fld_27_0 rfl <| fun a H => s_load (v := (.i C1)) H rfl rfl one_2 (n6.cell (i := 0) rfl) (lt_ rfl) fun a H => ww H <| bn rfl rfl r_geq rfl <| mv rfl rfl <| fun a H => g_join (n := 21) [(10, (.bool ((decide (1 ≤ C1)) && (decide (C1 ≤ 4611686018427387903))))), (1, (.pointer (some (blk b4))))] (.succ (.succ (.succ (.succ (.zero _))))) ?_ ?_
 ·intro h9
  try clear h
  rcases Bool.eq_false_or_eq_true (decide (1 ≤ C1)) with h8 | h8
  ·replace H := H.ch (t := 6) (b := true) rfl h8
   exact ww H <| gfd rfl rfl rfl fld_27_0 rfl <| fun a H => s_load (v := (.i C1)) H (wantG H rfl rfl) rfl one_2 (n6.cell (i := 0) rfl) (lt_ rfl) fun a H => ww H <| gbn rfl rfl rfl rfl r_leq rfl <| pT rfl rfl rfl <| fun a H => h9 _ (H.weaken ⟨by rw [h8]; rfl, rfl, trivial⟩)
  ·replace H := H.ch (t := 6) (b := false) rfl h8
   exact ww H <| sk rfl rfl rfl rfl <| sk rfl rfl rfl rfl <| sk rfl rfl rfl rfl <| pF rfl rfl rfl <| fun a H => h9 _ (H.weaken ⟨by rw [h8]; rfl, rfl, trivial⟩)
 ·clear H a
  intro a H
  refine ww H <| mv rfl rfl <| fun a H => g_join (n := 21) [(15, (.bool (((decide (1 ≤ C1)) && (decide (C1 ≤ 4611686018427387903))) && (decide (1 ≤ C2))))), (1, (.pointer (some (blk b4))))] (.succ (.succ (.succ (.succ (.zero _))))) ?_ ?_
  ·intro h11
   try clear h
   rcases Bool.eq_false_or_eq_true ((decide (1 ≤ C1)) && (decide (C1 ≤ 4611686018427387903))) with h10 | h10
   ·replace H := H.ch (t := 11) (b := true) rfl h10
    exact ww H <| gfd rfl rfl rfl fld_27_1 rfl <| fun a H => s_load (v := (.i C2)) H (wantG H rfl rfl) rfl one_3 (n6.cell (i := 1) rfl) (lt_ rfl) fun a H => ww H <| gbn rfl rfl rfl rfl r_geq rfl <| pT rfl rfl rfl <| fun a H => h11 _ (H.weaken ⟨by rw [h10]; rfl, rfl, trivial⟩)
   ·replace H := H.ch (t := 11) (b := false) rfl h10
    exact ww H <| sk rfl rfl rfl rfl <| sk rfl rfl rfl rfl <| sk rfl rfl rfl rfl <| pF rfl rfl rfl <| fun a H => h11 _ (H.weaken ⟨by rw [h10]; rfl, rfl, trivial⟩)
  ·clear H a
   intro a H
   refine ww H <| mv rfl rfl <| fun a H => g_join (n := 21) [(20, (.bool ((((decide (1 ≤ C1)) && (decide (C1 ≤ 4611686018427387903))) && (decide (1 ≤ C2))) && (decide (C2 ≤ 65535)))))] (.succ (.succ (.succ (.succ (.zero _))))) ?_ ?_
   ·intro h13
    try clear h
    rcases Bool.eq_false_or_eq_true (((decide (1 ≤ C1)) && (decide (C1 ≤ 4611686018427387903))) && (decide (1 ≤ C2))) with h12 | h12
    ·replace H := H.ch (t := 16) (b := true) rfl h12
     exact ww H <| gfd rfl rfl rfl fld_27_1 rfl <| fun a H => s_load (v := (.i C2)) H (wantG H rfl rfl) rfl one_3 (n6.cell (i := 1) rfl) (lt_ rfl) fun a H => ww H <| gbn rfl rfl rfl rfl r_leq rfl <| pT rfl rfl rfl <| fun a H => h13 _ (H.weaken ⟨by rw [h12]; rfl, trivial⟩)
    ·replace H := H.ch (t := 16) (b := false) rfl h12
     exact ww H <| sk rfl rfl rfl rfl <| sk rfl rfl rfl rfl <| sk rfl rfl rfl rfl <| pF rfl rfl rfl <| fun a H => h13 _ (H.weaken ⟨by rw [h12]; rfl, trivial⟩)
   ·clear H a
    intro a H
    exact ww H <| ag rfl rfl <| fun a H => nk hK7 <| c_ret <| e_ret1 H rfl rfl h

theorem sim_stripe_cut (v1 : Slc) (k2 : Int) (w : World) (Q : Ending → World → Prop) (h : vc_stripe_cut v1 k2 w Q) : Calls PP F_stripe_cut #[v1.v, (.i k2)] w Q := by
 unfold vc_stripe_cut at h
 have eP {L : List (Nat × Value)} (c : List PanicEntry) (w' : World) (a : Act) (h : Q (.panicked c) w') (H : Has 59 [] a L) : bodyPost PP Tryz.f42 Q (.panic c) a w' := e_panic H h
 refine enter (n := 59) Tryz.func42 rfl rfl (le_ rfl) fun a H => sr fun K3 hK3 => ww H <| ag rfl rfl <| fun a H => nk hK3 <| sr fun K4 hK4 => ww H <| mv rfl rfl <| bl (vs := [v1.v]) rfl rfl (fun cs => b_lenS (z := v1) sl_49) <| mv rfl rfl <| cl1 h body_81 rfl rfl eP fun s6 w5 h => fun a H => ?_
 obtain ⟨s8, w9, h10, h⟩ := h
 refine ww H <| ag rfl rfl <| fun a H => nk hK4 <| sr fun K7 hK7 => ww H <| mv rfl rfl <| mv rfl rfl <| bn rfl rfl r_mul rfl <| fun a H => s_mk H rfl rfl rfl h10 (lt_ rfl) ?_
 clear H a h10
 intro a H
 refine ww H <| ag rfl rfl <| fun a H => nk hK7 <| sr fun K11 hK11 => ww H <| mv rfl rfl <| bl (vs := [v1.v]) rfl rfl (fun cs => b_lenS (z := v1) sl_49) <| ag rfl rfl <| fun a H => nk hK11 <| sr fun K12 hK12 => ww H <| mv rfl rfl <| mv rfl rfl <| fun a H => s_cv H rfl rfl (r_cvI some_3 int_5) (lt_ rfl) fun a H => ww H <| mv rfl rfl <| bn rfl rfl (r_shr (by decide)) rfl <| fun a H => s_cv H rfl rfl (r_cvI some_3 int_5) (lt_ rfl) fun a H => ww H <| mv rfl rfl <| bn rfl rfl (r_shr (by decide)) rfl <| fun a H => s_cv H rfl rfl (r_cvI some_3 int_5) (lt_ rfl) fun a H => ww H <| mv rfl rfl <| bn rfl rfl (r_shr (by decide)) rfl <| fun a H => s_cv H rfl rfl (r_cvI some_3 int_5) (lt_ rfl) fun a H => ?_
 replace h := h.get
 obtain ⟨b13, w14, n15, h⟩ := h
 refine s_bslc H rfl (by rw [H.parts (vs := [(0, (.int .u8 (wr .u8 (v1.l : Int)))), (1, (.int .u8 (wr .u8 (shrI .i64 (v1.l : Int) 8)))), (2, (.int .u8 (wr .u8 (shrI .i64 (v1.l : Int) 16)))), (3, (.int .u8 (wr .u8 (shrI .i64 (v1.l : Int) 24))))]) rfl]; exact bs_49_4_iu80_iu81_iu82_iu83 w9 (wr .u8 (v1.l : Int)) (wr .u8 (shrI .i64 (v1.l : Int) 8)) (wr .u8 (shrI .i64 (v1.l : Int) 16)) (wr .u8 (shrI .i64 (v1.l : Int) 24))) (lt_ rfl) ?_
 rw [← n15.at_]
 clear H a
 intro a H
 refine n15.go ?_
 obtain ⟨n16, w17, h18, h⟩ := h
 refine s_blt H rfl (H.args (vs := [s8.v, (Slc.v (Slc.mk (some (blk b13)) 4 4))]) rfl) (lt_ rfl) (fun cs => b_cpy (a := n16) h18) ?_
 clear H a h18
 intro a H
 obtain ⟨h20, h21, h22, h⟩ := h
 refine nk hK12 <| sr fun K19 hK19 => ww H <| mv rfl rfl <| fun a H => s_slice (v := (Slc.v (s8.cut 1 (Int.toNat (4)) (Int.toNat ((s8.l : Int)))))) H rfl rfl ⟨rfl, rfl⟩ ⟨rfl, rfl⟩ ⟨rfl, rfl⟩ (r_sliceSlc (lo := (some (.i64, 4))) (hi := none) slc_49 rfl rfl h20 h21 h22) (lt_ rfl) fun a H => ?_
 obtain ⟨n23, w24, h25, h⟩ := h
 refine ww H <| mv rfl rfl <| fun a H => s_blt H rfl (H.args (vs := [(Slc.v (s8.cut 1 (Int.toNat (4)) (Int.toNat ((s8.l : Int))))), v1.v]) rfl) (lt_ rfl) (fun cs => b_cpy (a := n23) h25) ?_
 clear H a h25
 intro a H
 obtain ⟨s27, w28, h29, h⟩ := h
 refine nk hK19 <| sr fun K26 hK26 => ww H <| mv rfl rfl <| fun a H => s_mk H rfl rfl rfl h29 (lt_ rfl) ?_
 clear H a h29
 intro a H
 refine ww H <| ag rfl rfl <| fun a H => nk hK26 <| c_seq fun K30 hK30 => sr fun K31 hK31 => ww H <| mv rfl rfl <| bl (vs := [s27.v]) rfl rfl (fun cs => b_lenS (z := s27) sl_22) <| mv rfl rfl <| fun a H => nk hK31 <| c_block ?_
 obtain ⟨I34, m35, h52, h53⟩ := h
 refine c_loop (σ := Int) (fun z w => I34 z w) (fun z w => m35 z w) (fun z => [(5, (.i s6)), (6, s8.v), (8, s27.v), (41, (.i (s27.l : Int))), (42, (.i z))]) 0 h52 (H.weaken ⟨rfl, rfl, rfl, rfl, rfl, trivial⟩) ?_
 clear H h52
 rintro s32 a w33 h H
 replace h := h53 s32 w33 h
 clear h53
 replace H : Has 59 [] a [(5, (.i s6)), (6, s8.v), (8, s27.v), (41, (.i (s27.l : Int))), (42, (.i s32))] := H
 refine sr fun K36 hK36 => ww H <| bn rfl rfl r_lss rfl <| fun a H => nk hK36 <| c_seq fun K37 hK37 => cd H rfl h (fun h38 h => ?_) (fun h38 h => ?_)
 ·obtain ⟨h41, h42, h43, h⟩ := h
  refine c_skip <| hK37 _ _ <| c_seq fun K39 hK39 => c_block <| sr fun K40 hK40 => ww H <| mv rfl rfl <| ag rfl rfl <| fun a H => nk hK40 <| c_reg <| ww H <| mv rfl rfl <| mv rfl rfl <| mv rfl rfl <| mv rfl rfl <| mv rfl rfl <| bn rfl rfl r_mul rfl <| mv rfl rfl <| bn rfl rfl r_add rfl <| mv rfl rfl <| bn rfl rfl r_mul rfl <| fun a H => s_slice (v := (Slc.v (s8.cut 1 (Int.toNat (wr .i64 (s32 * s6))) (Int.toNat (wr .i64 ((wr .i64 (s32 + 1)) * s6)))))) H rfl rfl ⟨rfl, rfl⟩ ⟨rfl, rfl⟩ ⟨rfl, rfl⟩ (r_sliceSlc (lo := (some (.i64, wr .i64 (s32 * s6)))) (hi := (some (.i64, wr .i64 ((wr .i64 (s32 + 1)) * s6)))) slc_49 rfl rfl h41 h42 h43) (lt_ rfl) fun a H => ?_
  obtain ⟨a44, h45, h46, h47, h⟩ := h
  refine s_idxS (s := s27) H rfl rfl rfl slc_22 h45 h46 h47 (lt_ rfl) fun a H => ww H <| st h rfl rfl one_49 rfl fun w48 w48S h => fun a H => nk hK39 <| c_reg <| ww H <| bn rfl rfl r_add rfl <| mv rfl rfl <| fun a H => c_nil <| Exists.intro (wr .i64 (s32 + 1)) ⟨h.1, h.2, H.weaken ⟨rfl, rfl, rfl, rfl, rfl, trivial⟩⟩
 ·refine c_exit ?_
  first | (simp only [Exit.then, Exit.inBlock, ↓reduceIte]; fail_if_success simp only [Nat.reduceEqDiff]) | simp only [Exit.then, Exit.inBlock, ↓reduceIte, Nat.reduceEqDiff]
  exact hK30 _ _ <| sr fun K51 hK51 => ww H <| mv rfl rfl <| ag rfl rfl <| fun a H => nk hK51 <| c_ret <| e_ret1 H rfl rfl h

theorem sim_code_Code_K (c1 : Option Addr) (w : World) (Q : Ending → World → Prop) (h : vc_code_Code_K c1 w Q) : Calls PP F_code_Code_K #[(.pointer c1)] w Q := by
 unfold vc_code_Code_K at h
 refine enter (n := 9) Tryz.func43 rfl rfl (le_ rfl) fun a H => sr fun K2 hK2 => ww H <| ag rfl rfl <| fun a H => nk hK2 <| c_seq fun K3 hK3 => sr fun K4 hK4 => ww H <| mv rfl rfl <| bn rfl rfl (r_eqP0 ptr_42) rfl <| fun a H => nk hK4 <| cd H rfl h (fun h5 h => ?_) (fun h5 h => ?_)
 ·exact sr fun K6 hK6 => ww H <| ag rfl rfl <| fun a H => nk hK6 <| c_ret <| e_ret1 H rfl rfl h
 ·obtain ⟨a8, h11, h⟩ := h
  refine c_skip <| hK3 _ _ <| sr fun K7 hK7 => ww H <| mv rfl rfl <| fun a H => ?_
  revert H
  revert h
  subst h11
  intro h H
  obtain ⟨l9, hc10, h⟩ := h
  exact ww H <| nl rfl rfl <| fd rfl fld_107_2 rfl <| ld rfl one_3 hc10 rfl <| ag rfl rfl <| fun a H => nk hK7 <| c_ret <| e_ret1 H rfl rfl h

theorem sim_client_reply_Missing (p1 : Option Addr) (w : World) (Q : Ending → World → Prop) (h : vc_client_reply_Missing p1 w Q) : Calls PP F_client_reply_Missing #[(.pointer p1)] w Q := by
 unfold vc_client_reply_Missing at h
 refine enter (n := 34) Tryz.func44 rfl rfl (le_ rfl) fun a H => sr fun K2 hK2 => ww H <| ag rfl rfl <| fun a H => nk hK2 <| sr fun K3 hK3 => ww H <| ag rfl rfl <| fun a H => nk hK3 <| c_seq fun K4 hK4 => sr fun K5 hK5 => ww H <| mv rfl rfl <| bn rfl rfl (r_eqP0 ptr_114) rfl <| fun a H => nk hK5 <| cd H rfl h (fun h6 h => ?_) (fun h6 h => ?_)
 ·exact sr fun K7 hK7 => ww H <| ag rfl rfl <| fun a H => nk hK7 <| c_ret <| e_ret1 H rfl rfl h
 ·obtain ⟨a10, h53, h⟩ := h
  refine c_skip <| hK4 _ _ <| c_seq fun K8 hK8 => sr fun K9 hK9 => ww H <| mv rfl rfl <| fun a H => ?_
  revert H
  revert h
  subst h53
  intro h H
  obtain ⟨l11, hc12, h⟩ := h
  refine ww H <| nl rfl rfl <| fd rfl fld_166_0 rfl <| fd rfl fld_35_0 rfl <| ld rfl one_3 hc12 rfl <| mv rfl rfl <| fun a H => nk hK9 <| c_block ?_
  obtain ⟨I16, m17, h51, h52⟩ := h
  refine c_loop (σ := Slc × Int) (fun z w => I16 z.1 z.2 w) (fun z w => m17 z.1 z.2 w) (fun z => [(0, (.pointer (some a10))), (3, z.1.v), (13, (.i l11)), (14, (.i z.2))]) (Slc.nil, 0) h51 (H.weaken ⟨rfl, rfl, rfl, rfl, trivial⟩) ?_
  clear H h51
  rintro ⟨l13, s14⟩ a w15 h H
  replace h := h52 l13 s14 w15 h
  clear h52
  replace H : Has 34 [] a [(0, (.pointer (some a10))), (3, l13.v), (13, (.i l11)), (14, (.i s14))] := H
  refine sr fun K18 hK18 => ww H <| bn rfl rfl r_lss rfl <| fun a H => nk hK18 <| c_seq fun K19 hK19 => cd H rfl h (fun h20 h => ?_) (fun h20 h => ?_)
  ·refine c_skip <| hK19 _ _ <| c_seq fun K21 hK21 => ?_
   obtain ⟨R23, h, h49⟩ := h
   have h25 : ∀ (a : Act) (l22 : Slc) (w24 : World), R23 l22 w24 → Has 34 [] a [(0, (.pointer (some a10))), (3, l22.v), (13, (.i l11)), (14, (.i s14))] → K21 a w24 := by
    clear h
    intro a l22 w24 h H
    replace h := h49 l22 w24 h
    refine hK21 _ _ <| c_reg <| ww H <| bn rfl rfl r_add rfl <| mv rfl rfl <| fun a H => c_nil <| Exists.intro (l22, wr .i64 (s14 + 1)) ⟨h.1, h.2, H.weaken ⟨rfl, rfl, rfl, rfl, trivial⟩⟩
   clear h49
   obtain ⟨l28, hc29, h⟩ := h
   refine c_block <| sr fun K26 hK26 => ww H <| mv rfl rfl <| ag rfl rfl <| fun a H => nk hK26 <| sr fun K27 hK27 => ww H <| mv rfl rfl <| nl rfl rfl <| fd rfl fld_166_1 rfl <| ld rfl one_164 hc29 rfl <| mv rfl rfl <| fun a H => ?_
   obtain ⟨_, h36, C30, C31, h32, d33, o34, rfl, h⟩ := h
   refine s_lkp H rfl rfl rfl h36 (lt_ rfl) ?_
   clear H a h36
   intro a H
   refine ww H <| mv rfl rfl <| ex rfl rfl rfl <| ex rfl rfl rfl <| al h zero_119 rfl rfl rfl fun b37 w38 n39 h => sN h rfl rfl agg_119 rfl rfl fun w40 h => ag rfl rfl <| fun a H => nk hK27 <| sr fun K41 hK41 => ww H <| mv rfl rfl <| fun a H => s_un H rfl rfl r_not (lt_ rfl) fun a H => nk hK41 <| cd H rfl h (fun h42 h => ?_) (fun h42 h => ?_)
   ·refine c_reg <| ww H <| mv rfl rfl <| mv rfl rfl <| fun a H => ?_
    replace h := h.get
    obtain ⟨b43, w44, n45, h⟩ := h
    refine s_bslc H rfl (by rw [H.parts (vs := [(0, (.i s14))]) rfl]; exact bs_23_1_ii640 w40 s14) (lt_ rfl) ?_
    rw [← n45.at_]
    clear H a
    intro a H
    refine n45.go ?_
    obtain ⟨s46, w47, h48, h⟩ := h
    refine s_blt H rfl (H.args (vs := [l13.v, (Slc.v (Slc.mk (some (blk b43)) 1 1))]) rfl) (lt_ rfl) (fun cs => b_app (z := s46) h48) ?_
    clear H a h48
    intro a H
    exact ww H <| ag rfl rfl <| fun a H => c_nil <| h25 _ _ _ h (H.weaken ⟨rfl, rfl, rfl, rfl, trivial⟩)
   ·exact c_skip <| h25 _ _ _ h (H.weaken ⟨rfl, rfl, rfl, rfl, trivial⟩)
  ·refine c_exit ?_
   first | (simp only [Exit.then, Exit.inBlock, ↓reduceIte]; fail_if_success simp only [Nat.reduceEqDiff]) | simp only [Exit.then, Exit.inBlock, ↓reduceIte, Nat.reduceEqDiff]
   exact hK8 _ _ <| sr fun K50 hK50 => ww H <| mv rfl rfl <| ag rfl rfl <| fun a H => nk hK50 <| c_ret <| e_ret1 H rfl rfl h

theorem sim_client_reply_Each (p1 : Option Addr) (y2 : Value) (w : World) (Q : Ending → World → Prop) (h : vc_client_reply_Each p1 y2 w Q) : Calls PP F_client_reply_Each #[(.pointer p1), y2] w Q := by
 unfold vc_client_reply_Each at h
 have eP {L : List (Nat × Value)} (c : List PanicEntry) (w' : World) (a : Act) (h : Q (.panicked c) w') (H : Has 49 [] a L) : bodyPost PP Tryz.f45 Q (.panic c) a w' := e_panic H h
 refine enter (n := 49) Tryz.func45 rfl rfl (le_ rfl) fun a H => ?_
 obtain ⟨x9, h10, h11, h⟩ := h
 refine c_seq fun K3 hK3 => sr fun K4 hK4 => ww H <| mv rfl rfl <| bn rfl rfl (r_eqP0 ptr_114) rfl <| mv rfl rfl <| fun a H => g_join (n := 49) [(14, (.bool x9)), (0, (.pointer p1)), (1, y2)] (.succ (.succ (.succ (.zero _)))) ?_ ?_
 ·intro h6
  try clear h
  rcases Bool.eq_false_or_eq_true p1.isNone with h5 | h5
  ·replace H := H.ch (t := 11) (b := true) rfl h5
   refine ww H <| sk rfl rfl rfl rfl <| sk rfl rfl rfl rfl <| pT rfl rfl rfl <| fun a H => ?_
   replace h := h11 h5
   subst h
   exact h6 _ (H.weaken ⟨rfl, rfl, rfl, trivial⟩)
  ·replace H := H.ch (t := 11) (b := false) rfl h5
   replace h := h10 h5
   obtain ⟨n8, h7, h⟩ := h
   refine ww H <| gmv rfl rfl rfl rfl <| gbn rfl rfl rfl rfl (r_eqF fnc_124 h7) rfl <| pF rfl rfl rfl <| fun a H => ?_
   subst h
   exact h6 _ (H.weaken ⟨rfl, rfl, rfl, trivial⟩)
 ·clear H a
  clear h10 h11
  intro a H
  refine nk hK4 <| cd H rfl h (fun h12 h => ?_) (fun h12 h => ?_)
  ·exact c_ret <| e_ret0 H rfl h
  ·obtain ⟨a16, h95, h⟩ := h
   refine c_skip <| hK3 _ _ <| sr fun K13 hK13 => ww H <| ag rfl rfl <| fun a H => nk hK13 <| c_seq fun K14 hK14 => sr fun K15 hK15 => ww H <| mv rfl rfl <| fun a H => ?_
   revert H
   revert h
   subst h95
   intro h H
   obtain ⟨l17, hc18, i19, w20, h21, h⟩ := h
   refine ww H <| nl rfl rfl <| fd rfl fld_166_1 rfl <| ld rfl one_164 hc18 rfl <| fun a H => s_rng H rfl rfl h21 (lt_ rfl) ?_
   clear H a h21
   intro a H
   refine nk hK15 <| c_block ?_
   obtain ⟨I24, m25, h93, h94⟩ := h
   refine c_loop (σ := Slc) (fun z w => I24 z w) (fun z w => m25 z w) (fun z => [(0, (.pointer (some a16))), (1, y2), (4, z.v), (19, (.pointer (some (blk i19))))]) Slc.nil h93 (H.weaken ⟨rfl, rfl, rfl, rfl, trivial⟩) ?_
   clear H h93
   rintro s22 a w23 h H
   replace h := h94 s22 w23 h
   clear h94
   replace H : Has 49 [] a [(0, (.pointer (some a16))), (1, y2), (4, s22.v), (19, (.pointer (some (blk i19))))] := H
   obtain ⟨b27, r28, w29, h30, h⟩ := h
   refine sr fun K26 hK26 => s_nxt H rfl rfl h30 (lt_ rfl) ?_
   clear H a h30
   intro a H
   refine ww H <| ex rfl rfl rfl <| fun a H => nk hK26 <| c_seq fun K31 hK31 => cd H rfl h (fun h32 h => ?_) (fun h32 h => ?_)
   ·refine c_skip <| hK31 _ _ <| c_block <| sr fun K33 hK33 => ?_
    obtain ⟨_, h40, k34, C35, C36, h37, d38, rfl, h⟩ := h
    refine s_etr H rfl rfl h40 (lt_ rfl) ?_
    clear H a h40
    intro a H
    refine ww H <| ex rfl rfl rfl <| ag rfl rfl <| fun a H => nk hK33 <| c_reg <| ww H <| mv rfl rfl <| mv rfl rfl <| fun a H => ?_
    replace h := h.get
    obtain ⟨b41, w42, n43, h⟩ := h
    refine s_bslc H rfl (by rw [H.parts (vs := [(0, (.i k34))]) rfl]; exact bs_23_1_ii640 w29 k34) (lt_ rfl) ?_
    rw [← n43.at_]
    clear H a
    intro a H
    refine n43.go ?_
    obtain ⟨s44, w45, h46, h⟩ := h
    refine s_blt H rfl (H.args (vs := [s22.v, (Slc.v (Slc.mk (some (blk b41)) 1 1))]) rfl) (lt_ rfl) (fun cs => b_app (z := s44) h46) ?_
    clear H a h46
    intro a H
    refine ww H <| ag rfl rfl <| fun a H => c_nil <| Exists.intro s44 ⟨h.1, h.2, H.weaken ⟨rfl, rfl, rfl, rfl, trivial⟩⟩
   ·refine c_exit ?_
    first | (simp only [Exit.then, Exit.inBlock, ↓reduceIte]; fail_if_success simp only [Nat.reduceEqDiff]) | simp only [Exit.then, Exit.inBlock, ↓reduceIte, Nat.reduceEqDiff]
    refine hK14 _ _ <| sr fun K47 hK47 => ww H <| mv rfl rfl <| fun a H => s_call H rfl body_47 (H.args (vs := [s22.v]) rfl) (lt_ rfl) h ?_ (fun c w' => eP c w' _)
    clear H h a
    rintro _ w48 a ⟨rfl, h⟩ H
    obtain ⟨l50, hc51, h⟩ := h
    refine nk hK47 <| sr fun K49 hK49 => ww H <| mv rfl rfl <| nl rfl rfl <| fd rfl fld_166_1 rfl <| ld rfl one_164 hc51 rfl <| cl1 h body_82 rfl rfl eP fun r53 w52 h => ag rfl rfl <| fun a H => nk hK49 <| sr fun K54 hK54 => ww H <| mv rfl rfl <| bl (vs := [s22.v]) rfl rfl (fun cs => b_lenS (z := s22) sl_23) <| mv rfl rfl <| fun a H => nk hK54 <| c_block ?_
    obtain ⟨I57, m58, h83, h84⟩ := h
    refine c_loop (σ := Int) (fun z w => I57 z w) (fun z w => m58 z w) (fun z => [(1, y2), (6, (.map r53)), (35, s22.v), (36, (.i (s22.l : Int))), (37, (.i z))]) 0 h83 (H.weaken ⟨rfl, rfl, rfl, rfl, rfl, trivial⟩) ?_
    clear H h83
    rintro s55 a w56 h H
    replace h := h84 s55 w56 h
    clear h84
    replace H : Has 49 [] a [(1, y2), (6, (.map r53)), (35, s22.v), (36, (.i (s22.l : Int))), (37, (.i s55))] := H
    refine sr fun K59 hK59 => ww H <| bn rfl rfl r_lss rfl <| fun a H => nk hK59 <| c_seq fun K60 hK60 => cd H rfl h (fun h61 h => ?_) (fun h61 h => ?_)
    ·obtain ⟨a64, h65, h66, h67, h⟩ := h
     refine c_skip <| hK60 _ _ <| c_seq fun K62 hK62 => c_block <| sr fun K63 hK63 => s_idxS (s := s22) H rfl rfl rfl slc_23 h65 h66 h67 (lt_ rfl) fun a H => ?_
     obtain ⟨l68, hc69, h⟩ := h
     refine ww H <| ld rfl one_3 hc69 rfl <| ag rfl rfl <| fun a H => nk hK63 <| sr fun K70 hK70 => ww H <| mv rfl rfl <| mv rfl rfl <| mv rfl rfl <| mv rfl rfl <| fun a H => ?_
     obtain ⟨_, h76, C71, C72, h73, d74, rfl, h⟩ := h
     refine s_lkp H rfl rfl rfl h76 (lt_ rfl) ?_
     clear H a h76
     intro a H
     refine s_callV H rfl rfl (H.args (vs := [(.i l68), (.agg #[(.i C71), (.i C72), (.bool h73), d74.v])]) rfl) (lt_ rfl) h ?_ (fun c w' => eP c w' _)
     clear H h a
     rintro _ w77 a ⟨r78, rfl, h⟩ H
     refine s_un H rfl rfl r_not (lt_ rfl) fun a H => nk hK70 <| cd H rfl h (fun h79 h => ?_) (fun h79 h => ?_)
     ·exact c_ret <| e_ret0 H rfl h
     ·refine c_skip <| hK62 _ _ <| c_reg <| ww H <| bn rfl rfl r_add rfl <| mv rfl rfl <| fun a H => c_nil <| Exists.intro (wr .i64 (s55 + 1)) ⟨h.1, h.2, H.weaken ⟨rfl, rfl, rfl, rfl, rfl, trivial⟩⟩
    ·refine c_exit ?_
     first | (simp only [Exit.then, Exit.inBlock, ↓reduceIte]; fail_if_success simp only [Nat.reduceEqDiff]) | simp only [Exit.then, Exit.inBlock, ↓reduceIte, Nat.reduceEqDiff]
     exact e_ret0 H rfl h

end Go.Proofs.YtabifopphhpciaaGreatDoor
