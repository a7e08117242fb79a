/-
  The conditions give the machine's calls; printed by vcgen.py.
-/
import Derived.Test.YtabifopphhpciaaGreatRecVc
namespace Go.Proofs.YtabifopphhpciaaGreat
open Go Go.Vc
set_option maxRecDepth 100000
set_option maxHeartbeats 4000000
theorem sim_matrix_eliminate (f1 : Option Addr) (r2 : Slc) (c3 : Int) (w : World) (Q : Ending → World → Prop) (h : vc_matrix_eliminate f1 r2 c3 w Q) : Calls PP F_matrix_eliminate #[(.pointer f1), r2.v, (.i c3)] w Q := by
 unfold vc_matrix_eliminate at h
 have eP {L : List (Nat × Value)} (c : List PanicEntry) (w' : World) (a : Act) (h : Q (.panicked c) w') (H : Has 87 [] a L) : bodyPost PP Tryz.f77 Q (.panic c) a w' := e_panic H h
 refine enter (n := 87) Tryz.func77 rfl rfl (le_ rfl) fun a H => sr fun K4 hK4 => ww H <| bx h rfl rfl rfl rfl fun b5 w6 n7 h => bx h rfl rfl rfl rfl fun b8 w9 n10 h => ag rfl rfl <| fun a H => nk hK4 <| c_scope <| sr fun K11 hK11 => ww H <| ag rfl rfl <| fun a H => nk hK11 <| sr fun K12 hK12 => s_mkf H rfl (H.args (vs := [(.pointer (some (blk b8)))]) rfl) (lt_ rfl) fun a H => ww H <| ag rfl rfl <| fun a H => nk hK12 <| sr fun K13 hK13 => s_mkf H rfl (H.args (vs := [(.pointer (some (blk b5))), (.pointer (some (blk b8)))]) rfl) (lt_ rfl) fun a H => ww H <| ag rfl rfl <| fun a H => nk hK13 <| sr fun K14 hK14 => s_mkf H rfl (H.args (vs := [(.pointer (some (blk b8))), (.pointer (some (blk b5)))]) rfl) (lt_ rfl) fun a H => ww H <| ag rfl rfl <| fun a H => nk hK14 <| c_seq fun K15 hK15 => c_label <| hK15 _ _ <| c_seq fun K16 hK16 => sr fun K17 hK17 => ww H <| mv rfl rfl <| mv rfl rfl <| fun a H => nk hK17 <| c_block ?_
 obtain ⟨I21, m22, h144, h145⟩ := h
 refine c_loop (σ := Slc × Int) (fun z w => I21 z.1 z.2 w) (fun z w => m22 z.1 z.2 w) (fun z => [(3, (.pointer (some (blk b5)))), (4, (.pointer (some (blk b8)))), (7, z.1.v), (8, (.func (.func F_matrix_eliminate_c1) #[] #[(.pointer (some (blk b8)))])), (9, (.func (.func F_matrix_eliminate_c2) #[] #[(.pointer (some (blk b5))), (.pointer (some (blk b8)))])), (10, (.func (.func F_matrix_eliminate_c3) #[] #[(.pointer (some (blk b8))), (.pointer (some (blk b5)))])), (20, (.i c3)), (21, (.i z.2))]) (Slc.nil, 0) h144 (H.weaken ⟨rfl, rfl, rfl, rfl, rfl, rfl, rfl, rfl, trivial⟩) ?_
 clear H h144
 rintro ⟨p18, s19⟩ a w20 h H
 replace h := h145 p18 s19 w20 h
 clear h145
 replace H : Has 87 [] a [(3, (.pointer (some (blk b5)))), (4, (.pointer (some (blk b8)))), (7, p18.v), (8, (.func (.func F_matrix_eliminate_c1) #[] #[(.pointer (some (blk b8)))])), (9, (.func (.func F_matrix_eliminate_c2) #[] #[(.pointer (some (blk b5))), (.pointer (some (blk b8)))])), (10, (.func (.func F_matrix_eliminate_c3) #[] #[(.pointer (some (blk b8))), (.pointer (some (blk b5)))])), (20, (.i c3)), (21, (.i s19))] := H
 refine sr fun K23 hK23 => ww H <| bn rfl rfl r_lss rfl <| fun a H => nk hK23 <| c_seq fun K24 hK24 => cd H rfl h (fun h25 h => ?_) (fun h25 h => ?_)
 ·refine c_skip <| hK24 _ _ <| c_seq fun K26 hK26 => ?_
  obtain ⟨R28, h, h142⟩ := h
  have h30 : ∀ (a : Act) (p27 : Slc) (w29 : World), R28 p27 w29 → Has 87 [] a [(3, (.pointer (some (blk b5)))), (4, (.pointer (some (blk b8)))), (7, p27.v), (8, (.func (.func F_matrix_eliminate_c1) #[] #[(.pointer (some (blk b8)))])), (9, (.func (.func F_matrix_eliminate_c2) #[] #[(.pointer (some (blk b5))), (.pointer (some (blk b8)))])), (10, (.func (.func F_matrix_eliminate_c3) #[] #[(.pointer (some (blk b8))), (.pointer (some (blk b5)))])), (20, (.i c3)), (21, (.i s19))] → K26 a w29 := by
   clear h
   intro a p27 w29 h H
   replace h := h142 p27 w29 h
   refine hK26 _ _ <| c_reg <| ww H <| bn rfl rfl r_add rfl <| mv rfl rfl <| fun a H => c_nil <| Exists.intro (p27, wr .i64 (s19 + 1)) ⟨h.1, h.2, H.weaken ⟨rfl, rfl, rfl, rfl, rfl, rfl, rfl, rfl, trivial⟩⟩
  clear h142
  refine c_block <| sr fun K31 hK31 => ww H <| mv rfl rfl <| ag rfl rfl <| fun a H => nk hK31 <| sr fun K32 hK32 => ww H <| mv rfl rfl <| bl (vs := [p18.v]) rfl rfl (fun cs => b_lenS (z := p18) sl_23) <| ag rfl rfl <| fun a H => nk hK32 <| c_seq fun K33 hK33 => sr fun K34 hK34 => ww H <| mv rfl rfl <| ag rfl rfl <| fun a H => nk hK34 <| c_block ?_
  obtain ⟨I37, m38, h140, h141⟩ := h
  refine c_loop (σ := Int) (fun z w => I37 z w) (fun z w => m38 z w) (fun z => [(3, (.pointer (some (blk b5)))), (4, (.pointer (some (blk b8)))), (7, p18.v), (8, (.func (.func F_matrix_eliminate_c1) #[] #[(.pointer (some (blk b8)))])), (9, (.func (.func F_matrix_eliminate_c2) #[] #[(.pointer (some (blk b5))), (.pointer (some (blk b8)))])), (10, (.func (.func F_matrix_eliminate_c3) #[] #[(.pointer (some (blk b8))), (.pointer (some (blk b5)))])), (11, (.i s19)), (12, (.i (p18.l : Int))), (13, (.i z)), (20, (.i c3)), (21, (.i s19))]) (p18.l : Int) h140 (H.weaken ⟨rfl, rfl, rfl, rfl, rfl, rfl, rfl, rfl, rfl, rfl, rfl, trivial⟩) ?_
  clear H h140
  rintro i35 a w36 h H
  replace h := h141 i35 w36 h
  clear h141
  replace H : Has 87 [] a [(3, (.pointer (some (blk b5)))), (4, (.pointer (some (blk b8)))), (7, p18.v), (8, (.func (.func F_matrix_eliminate_c1) #[] #[(.pointer (some (blk b8)))])), (9, (.func (.func F_matrix_eliminate_c2) #[] #[(.pointer (some (blk b5))), (.pointer (some (blk b8)))])), (10, (.func (.func F_matrix_eliminate_c3) #[] #[(.pointer (some (blk b8))), (.pointer (some (blk b5)))])), (11, (.i s19)), (12, (.i (p18.l : Int))), (13, (.i i35)), (20, (.i c3)), (21, (.i s19))] := H
  obtain ⟨l42, hc43, h⟩ := h
  refine c_seq fun K39 hK39 => c_block <| c_seq fun K40 hK40 => sr fun K41 hK41 => ww H <| mv rfl rfl <| ld rfl one_27 hc43 rfl <| bl (vs := [l42.v]) rfl rfl (fun cs => b_lenS (z := l42) sl_27) <| bn rfl rfl r_geq rfl <| fun a H => nk hK41 <| cd H rfl h (fun h44 h => ?_) (fun h44 h => ?_)
  ·refine c_exit ?_
   first | (simp only [Exit.then, Exit.inBlock, ↓reduceIte]; fail_if_success simp only [Nat.reduceEqDiff]) | simp only [Exit.then, Exit.inBlock, ↓reduceIte, Nat.reduceEqDiff]
   exact h30 _ _ _ h (H.weaken ⟨rfl, rfl, rfl, rfl, rfl, rfl, rfl, rfl, trivial⟩)
  ·obtain ⟨l46, hc47, a48, h49, h50, h51, h⟩ := h
   refine c_skip <| hK40 _ _ <| sr fun K45 hK45 => ww H <| ld rfl one_27 hc47 rfl <| mv rfl rfl <| fun a H => s_idxS (s := l46) H rfl rfl rfl slc_27 h49 h50 h51 (lt_ rfl) fun a H => ?_
   obtain ⟨l52, hc53, a54, h55, h56, h57, h⟩ := h
   refine ww H <| ld rfl one_22 hc53 rfl <| mv rfl rfl <| fun a H => s_idxS (s := l52) H rfl rfl rfl slc_22 h55 h56 h57 (lt_ rfl) fun a H => ?_
   obtain ⟨l58, hc59, h⟩ := h
   refine ww H <| ld rfl one_5 hc59 rfl <| bn rfl rfl r_neq rfl <| fun a H => nk hK45 <| cd H rfl h (fun h60 h => ?_) (fun h60 h => ?_)
   ·refine sr fun K61 hK61 => ww H <| mv rfl rfl <| mv rfl rfl <| mv rfl rfl <| fun a H => s_callV H rfl rfl (H.args (vs := [(.i (p18.l : Int)), (.i i35)]) rfl) (lt_ rfl) ⟨_, _, rfl, body_99, h⟩ ?_ (fun c w' => eP c w' _)
    clear H h a
    rintro _ w62 a ⟨rfl, h⟩ H
    refine nk hK61 <| c_exit ?_
    first | (simp only [Exit.then, Exit.inBlock, ↓reduceIte]; fail_if_success simp only [Nat.reduceEqDiff]) | simp only [Exit.then, Exit.inBlock, ↓reduceIte, Nat.reduceEqDiff]
    refine hK33 _ _ <| c_seq fun K63 hK63 => ?_
    replace H := H.weaken (L' := [(3, (.pointer (some (blk b5)))), (4, (.pointer (some (blk b8)))), (7, p18.v), (8, (.func (.func F_matrix_eliminate_c1) #[] #[(.pointer (some (blk b8)))])), (9, (.func (.func F_matrix_eliminate_c2) #[] #[(.pointer (some (blk b5))), (.pointer (some (blk b8)))])), (10, (.func (.func F_matrix_eliminate_c3) #[] #[(.pointer (some (blk b8))), (.pointer (some (blk b5)))])), (11, (.i s19)), (12, (.i (p18.l : Int))), (20, (.i c3)), (21, (.i s19))]) ⟨rfl, rfl, rfl, rfl, rfl, rfl, rfl, rfl, rfl, rfl, trivial⟩
    obtain ⟨l64, hc65, l66, hc67, a68, h69, h70, h71, l72, hc73, a74, h75, h76, h77, l78, hc79, h⟩ := h
    refine c_any (V := [(0, (.pointer l64)), (1, l66.v), (2, (.i (p18.l : Int))), (3, (.pointer (some (a68.add (Int.toNat ((p18.l : Int)) * 1))))), (4, l72.v), (5, (.i s19)), (6, (.pointer (some (a74.add (Int.toNat (s19) * 1))))), (7, (.int .u8 l78))]) (⟨[[], [], [], [1, 2], [3], [], [4, 5], [6], [0, 7], [8], [9], [9], [0, 1, 2, 3, 4, 5, 6, 7, 8, 9, 10], [0, 1, 2, 3, 4, 5, 6, 7, 8, 9, 10, 11, 12]], [some 46, some 47, some 48, some 49, some 50, some 51, some 52, some 53, some 54, some 45, some 55, some 56, some 14, some 15], [8], [0, 0, 0, 0, 0, 0, 0, 0, 0, 1, 1, 1, 1, 1], [0, 0, 0, 0, 0, 0, 0, 0, 1, 1, 1, 1, 1, 1]⟩ : Rg) [(3, (.pointer (some (blk b5)))), (4, (.pointer (some (blk b8)))), (7, p18.v), (8, (.func (.func F_matrix_eliminate_c1) #[] #[(.pointer (some (blk b8)))])), (9, (.func (.func F_matrix_eliminate_c2) #[] #[(.pointer (some (blk b5))), (.pointer (some (blk b8)))])), (10, (.func (.func F_matrix_eliminate_c3) #[] #[(.pointer (some (blk b8))), (.pointer (some (blk b5)))])), (11, (.i s19)), (12, (.i (p18.l : Int))), (20, (.i c3)), (21, (.i s19))] mixed (by kernel_rfl) H ?_
    refine Stg.eff [0, 1, 2, 3, 4, 5, 6, 7] (by kernel_rfl) rfl (.cons ?_ (.cons ?_ (.cons ?_ (.cons ?_ (.cons ?_ (.cons ?_ (.cons ?_ (.cons ?_ .nil)))))))) ?_
    ·exact Aw rfl rfl <| ld rfl one_44 hc65 rfl <| An rfl
    ·exact Aw rfl rfl <| ld rfl one_27 hc67 rfl <| An rfl
    ·exact Aw rfl rfl <| mv rfl rfl <| An rfl
    ·exact Ans.mk rfl rfl fun a H => s_idxS (s := l66) H rfl rfl rfl slc_27 h69 h70 h71 (lt_ rfl) fun a H => Ans.fin H rfl
    ·exact Aw rfl rfl <| ld rfl one_22 hc73 rfl <| An rfl
    ·exact Aw rfl rfl <| mv rfl rfl <| An rfl
    ·exact Ans.mk rfl rfl fun a H => s_idxS (s := l72) H rfl rfl rfl slc_22 h75 h76 h77 (lt_ rfl) fun a H => Ans.fin H rfl
    ·exact Aw rfl rfl <| ld rfl one_5 hc79 rfl <| An rfl
    ·refine cl2 h body_102 rfl rfl eP fun I81 I82 w80 h => fun a H => c_nil <| effQ.go [(9, (.tuple #[(.int .u8 I81), (.i I82)])), (10, (.int .u8 I81)), (11, (.i I82)), (12, (.int .u8 I81)), (13, (.i I82))] H rfl rfl <| Stg.fin [9, 10, 11, 12, 13] (by kernel_rfl) (.cons ?_ (.cons ?_ (.cons ?_ (.cons ?_ (.cons ?_ .nil))))) ?_
     ·exact Aw rfl rfl <| mv rfl rfl <| An rfl
     ·exact Aw rfl rfl <| ex rfl rfl rfl <| An rfl
     ·exact Aw rfl rfl <| ex rfl rfl rfl <| An rfl
     ·exact Aw rfl rfl <| ag rfl rfl <| An rfl
     ·exact Aw rfl rfl <| ag rfl rfl <| An rfl
     ·intro a H
      replace H := H.weaken (L' := [(3, (.pointer (some (blk b5)))), (4, (.pointer (some (blk b8)))), (7, p18.v), (8, (.func (.func F_matrix_eliminate_c1) #[] #[(.pointer (some (blk b8)))])), (9, (.func (.func F_matrix_eliminate_c2) #[] #[(.pointer (some (blk b5))), (.pointer (some (blk b8)))])), (10, (.func (.func F_matrix_eliminate_c3) #[] #[(.pointer (some (blk b8))), (.pointer (some (blk b5)))])), (11, (.i s19)), (12, (.i (p18.l : Int))), (14, (.int .u8 I81)), (20, (.i c3)), (21, (.i s19))]) ⟨rfl, rfl, rfl, rfl, rfl, rfl, rfl, rfl, rfl, rfl, rfl, trivial⟩
      refine hK63 _ _ <| sr fun K83 hK83 => ww H <| mv rfl rfl <| mv rfl rfl <| mv rfl rfl <| fun a H => s_callV H rfl rfl (H.args (vs := [(.i (p18.l : Int)), (.int .u8 I81)]) rfl) (lt_ rfl) ⟨_, _, rfl, body_101, h⟩ ?_ (fun c w' => eP c w' _)
      clear H h a
      rintro _ w84 a ⟨rfl, h⟩ H
      obtain ⟨l87, hc88, h⟩ := h
      refine nk hK83 <| c_seq fun K85 hK85 => sr fun K86 hK86 => ww H <| ld rfl one_27 hc88 rfl <| bl (vs := [l87.v]) rfl rfl (fun cs => b_lenS (z := l87) sl_27) <| mv rfl rfl <| fun a H => nk hK86 <| c_block ?_
      obtain ⟨I91, m92, h128, h129⟩ := h
      refine c_loop (σ := Int) (fun z w => I91 z w) (fun z w => m92 z w) (fun z => [(3, (.pointer (some (blk b5)))), (4, (.pointer (some (blk b8)))), (7, p18.v), (8, (.func (.func F_matrix_eliminate_c1) #[] #[(.pointer (some (blk b8)))])), (9, (.func (.func F_matrix_eliminate_c2) #[] #[(.pointer (some (blk b5))), (.pointer (some (blk b8)))])), (10, (.func (.func F_matrix_eliminate_c3) #[] #[(.pointer (some (blk b8))), (.pointer (some (blk b5)))])), (11, (.i s19)), (12, (.i (p18.l : Int))), (20, (.i c3)), (21, (.i s19)), (62, (.i (l87.l : Int))), (63, (.i z))]) 0 h128 (H.weaken ⟨rfl, rfl, rfl, rfl, rfl, rfl, rfl, rfl, rfl, rfl, rfl, rfl, trivial⟩) ?_
      clear H h128
      rintro s89 a w90 h H
      replace h := h129 s89 w90 h
      clear h129
      replace H : Has 87 [] a [(3, (.pointer (some (blk b5)))), (4, (.pointer (some (blk b8)))), (7, p18.v), (8, (.func (.func F_matrix_eliminate_c1) #[] #[(.pointer (some (blk b8)))])), (9, (.func (.func F_matrix_eliminate_c2) #[] #[(.pointer (some (blk b5))), (.pointer (some (blk b8)))])), (10, (.func (.func F_matrix_eliminate_c3) #[] #[(.pointer (some (blk b8))), (.pointer (some (blk b5)))])), (11, (.i s19)), (12, (.i (p18.l : Int))), (20, (.i c3)), (21, (.i s19)), (62, (.i (l87.l : Int))), (63, (.i s89))] := H
      refine sr fun K93 hK93 => ww H <| bn rfl rfl r_lss rfl <| fun a H => nk hK93 <| c_seq fun K94 hK94 => cd H rfl h (fun h95 h => ?_) (fun h95 h => ?_)
      ·refine c_skip <| hK94 _ _ <| c_seq fun K96 hK96 => ?_
       obtain ⟨R97, h, h121⟩ := h
       have h99 : ∀ (a : Act) (w98 : World), R97 w98 → Has 87 [] a [(3, (.pointer (some (blk b5)))), (4, (.pointer (some (blk b8)))), (7, p18.v), (8, (.func (.func F_matrix_eliminate_c1) #[] #[(.pointer (some (blk b8)))])), (9, (.func (.func F_matrix_eliminate_c2) #[] #[(.pointer (some (blk b5))), (.pointer (some (blk b8)))])), (10, (.func (.func F_matrix_eliminate_c3) #[] #[(.pointer (some (blk b8))), (.pointer (some (blk b5)))])), (11, (.i s19)), (12, (.i (p18.l : Int))), (20, (.i c3)), (21, (.i s19)), (62, (.i (l87.l : Int))), (63, (.i s89))] → K96 a w98 := by
        clear h
        intro a w98 h H
        replace h := h121 w98 h
        refine hK96 _ _ <| c_reg <| ww H <| bn rfl rfl r_add rfl <| mv rfl rfl <| fun a H => c_nil <| Exists.intro (wr .i64 (s89 + 1)) ⟨h.1, h.2, H.weaken ⟨rfl, rfl, rfl, rfl, rfl, rfl, rfl, rfl, rfl, rfl, rfl, rfl, trivial⟩⟩
       clear h121
       refine c_block <| sr fun K100 hK100 => ww H <| mv rfl rfl <| ag rfl rfl <| fun a H => nk hK100 <| sr fun K101 hK101 => ww H <| mv rfl rfl <| mv rfl rfl <| bn rfl rfl r_neq rfl <| fun a H => nk hK101 <| cd H rfl h (fun h102 h => ?_) (fun h102 h => ?_)
       ·obtain ⟨l103, hc104, a105, h106, h107, h108, h⟩ := h
        refine c_reg <| ww H <| mv rfl rfl <| mv rfl rfl <| ld rfl one_27 hc104 rfl <| mv rfl rfl <| fun a H => s_idxS (s := l103) H rfl rfl rfl slc_27 h106 h107 h108 (lt_ rfl) fun a H => ?_
        obtain ⟨l109, hc110, a111, h112, h113, h114, h⟩ := h
        refine ww H <| ld rfl one_22 hc110 rfl <| mv rfl rfl <| fun a H => s_idxS (s := l109) H rfl rfl rfl slc_22 h112 h113 h114 (lt_ rfl) fun a H => ?_
        obtain ⟨l115, hc116, h⟩ := h
        refine ww H <| ld rfl one_5 hc116 rfl <| mv rfl rfl <| fun a H => s_callV H rfl rfl (H.args (vs := [(.i s89), (.int .u8 l115), (.i (p18.l : Int))]) rfl) (lt_ rfl) ⟨_, _, rfl, body_100, h⟩ ?_ (fun c w' => eP c w' _)
        clear H h a
        rintro _ w117 a ⟨rfl, h⟩ H
        exact c_nil <| h99 _ _ h (H.weaken ⟨rfl, rfl, rfl, rfl, rfl, rfl, rfl, rfl, rfl, rfl, rfl, rfl, trivial⟩)
       ·exact c_skip <| h99 _ _ h (H.weaken ⟨rfl, rfl, rfl, rfl, rfl, rfl, rfl, rfl, rfl, rfl, rfl, rfl, trivial⟩)
      ·refine c_exit ?_
       first | (simp only [Exit.then, Exit.inBlock, ↓reduceIte]; fail_if_success simp only [Nat.reduceEqDiff]) | simp only [Exit.then, Exit.inBlock, ↓reduceIte, Nat.reduceEqDiff]
       refine hK85 _ _ <| c_reg <| ww H <| mv rfl rfl <| mv rfl rfl <| fun a H => ?_
       replace h := h.get
       obtain ⟨b122, w123, n124, h⟩ := h
       refine s_bslc H rfl (by rw [H.parts (vs := [(0, (.i s19))]) rfl]; exact bs_23_1_ii640 w90 s19) (lt_ rfl) ?_
       rw [← n124.at_]
       clear H a
       intro a H
       refine n124.go ?_
       obtain ⟨s125, w126, h127, h⟩ := h
       refine s_blt H rfl (H.args (vs := [p18.v, (Slc.v (Slc.mk (some (blk b122)) 1 1))]) rfl) (lt_ rfl) (fun cs => b_app (z := s125) h127) ?_
       clear H a h127
       intro a H
       exact ww H <| ag rfl rfl <| fun a H => c_nil <| h30 _ _ _ h (H.weaken ⟨rfl, rfl, rfl, rfl, rfl, rfl, rfl, rfl, trivial⟩)
   ·refine c_skip <| hK39 _ _ <| c_reg <| ww H <| mv rfl rfl <| bn rfl rfl r_add rfl <| ag rfl rfl <| fun a H => c_nil <| Exists.intro (wr .i64 (i35 + 1)) ⟨h.1, h.2, H.weaken ⟨rfl, rfl, rfl, rfl, rfl, rfl, rfl, rfl, rfl, rfl, rfl, trivial⟩⟩
 ·refine c_exit ?_
  first | (simp only [Exit.then, Exit.inBlock, ↓reduceIte]; fail_if_success simp only [Nat.reduceEqDiff]) | simp only [Exit.then, Exit.inBlock, ↓reduceIte, Nat.reduceEqDiff]
  exact hK16 _ _ <| sr fun K143 hK143 => ww H <| mv rfl rfl <| ag rfl rfl <| fun a H => nk hK143 <| c_ret <| e_ret1 H rfl rfl h

theorem sim_gf_Field_Poly (f1 : Option Addr) (w : World) (Q : Ending → World → Prop) (h : vc_gf_Field_Poly f1 w Q) : Calls PP F_gf_Field_Poly #[(.pointer f1)] w Q := by
 unfold vc_gf_Field_Poly at h
 refine enter (n := 9) Tryz.func78 rfl rfl (le_ rfl) fun a H => sr fun K2 hK2 => ww H <| ag rfl rfl <| fun a H => nk hK2 <| c_seq fun K3 hK3 => sr fun K4 hK4 => ww H <| mv rfl rfl <| bn rfl rfl (r_eqP0 ptr_44) rfl <| fun a H => nk hK4 <| cd H rfl h (fun h5 h => ?_) (fun h5 h => ?_)
 ·exact sr fun K6 hK6 => ww H <| ag rfl rfl <| fun a H => nk hK6 <| c_ret <| e_ret1 H rfl rfl h
 ·obtain ⟨a8, h11, h⟩ := h
  refine c_skip <| hK3 _ _ <| sr fun K7 hK7 => ww H <| mv rfl rfl <| fun a H => ?_
  revert H
  revert h
  subst h11
  intro h H
  obtain ⟨l9, hc10, h⟩ := h
  exact ww H <| nl rfl rfl <| fd rfl fld_129_0 rfl <| ld rfl one_3 hc10 rfl <| ag rfl rfl <| fun a H => nk hK7 <| c_ret <| e_ret1 H rfl rfl h

theorem sim_slices_IndexFunc_byte_byte_79 (s1 : Slc) (f2 : Value) (w : World) (Q : Ending → World → Prop) (h : vc_slices_IndexFunc_byte_byte_79 s1 f2 w Q) : Calls PP F_slices_IndexFunc_byte_byte_79 #[s1.v, f2] w Q := by
 unfold vc_slices_IndexFunc_byte_byte_79 at h
 have eP {L : List (Nat × Value)} (c : List PanicEntry) (w' : World) (a : Act) (h : Q (.panicked c) w') (H : Has 19 [] a L) : bodyPost PP Tryz.f79 Q (.panic c) a w' := e_panic H h
 refine enter (n := 19) Tryz.func79 rfl rfl (le_ rfl) fun a H => sr fun K3 hK3 => ww H <| ag rfl rfl <| fun a H => nk hK3 <| c_seq fun K4 hK4 => sr fun K5 hK5 => ww H <| mv rfl rfl <| bl (vs := [s1.v]) rfl rfl (fun cs => b_lenS (z := s1) sl_27) <| mv rfl rfl <| fun a H => nk hK5 <| c_block ?_
 obtain ⟨I8, m9, h30, h31⟩ := h
 refine c_loop (σ := Int) (fun z w => I8 z w) (fun z w => m9 z w) (fun z => [(0, s1.v), (1, f2), (7, (.i (s1.l : Int))), (8, (.i z))]) 0 h30 (H.weaken ⟨rfl, rfl, rfl, rfl, trivial⟩) ?_
 clear H h30
 rintro s6 a w7 h H
 replace h := h31 s6 w7 h
 clear h31
 replace H : Has 19 [] a [(0, s1.v), (1, f2), (7, (.i (s1.l : Int))), (8, (.i s6))] := H
 refine sr fun K10 hK10 => ww H <| bn rfl rfl r_lss rfl <| fun a H => nk hK10 <| c_seq fun K11 hK11 => cd H rfl h (fun h12 h => ?_) (fun h12 h => ?_)
 ·obtain ⟨a16, h17, h18, h19, h⟩ := h
  refine c_skip <| hK11 _ _ <| c_seq fun K13 hK13 => c_block <| sr fun K14 hK14 => ww H <| mv rfl rfl <| ag rfl rfl <| fun a H => nk hK14 <| sr fun K15 hK15 => ww H <| mv rfl rfl <| mv rfl rfl <| mv rfl rfl <| fun a H => s_idxS (s := s1) H rfl rfl rfl slc_27 h17 h18 h19 (lt_ rfl) fun a H => ?_
  obtain ⟨l20, hc21, h⟩ := h
  refine ww H <| ld rfl one_22 hc21 rfl <| fun a H => s_callV H rfl rfl (H.args (vs := [l20.v]) rfl) (lt_ rfl) h ?_ (fun c w' => eP c w' _)
  clear H h a
  rintro _ w22 a ⟨r23, rfl, h⟩ H
  refine nk hK15 <| cd H rfl h (fun h24 h => ?_) (fun h24 h => ?_)
  ·exact sr fun K25 hK25 => ww H <| mv rfl rfl <| ag rfl rfl <| fun a H => nk hK25 <| c_ret <| e_ret1 H rfl rfl h
  ·refine c_skip <| hK13 _ _ <| c_reg <| ww H <| bn rfl rfl r_add rfl <| mv rfl rfl <| fun a H => c_nil <| Exists.intro (wr .i64 (s6 + 1)) ⟨h.1, h.2, H.weaken ⟨rfl, rfl, rfl, rfl, trivial⟩⟩
 ·refine c_exit ?_
  first | (simp only [Exit.then, Exit.inBlock, ↓reduceIte]; fail_if_success simp only [Nat.reduceEqDiff]) | simp only [Exit.then, Exit.inBlock, ↓reduceIte, Nat.reduceEqDiff]
  exact hK4 _ _ <| sr fun K29 hK29 => ww H <| ag rfl rfl <| fun a H => nk hK29 <| c_ret <| e_ret1 H rfl rfl h

theorem sim_code_Code_refused (c1 : Option Addr) (p2 : Slc) (w : World) (Q : Ending → World → Prop) (h : vc_code_Code_refused c1 p2 w Q) : Calls PP F_code_Code_refused #[(.pointer c1), p2.v] w Q := by
 unfold vc_code_Code_refused at h
 have eP {L : List (Nat × Value)} (c : List PanicEntry) (w' : World) (a : Act) (h : Q (.panicked c) w') (H : Has 53 [] a L) : bodyPost PP Tryz.f84 Q (.panic c) a w' := e_panic H h
 refine enter (n := 53) Tryz.func84 rfl rfl (le_ rfl) fun a H => sr fun K3 hK3 => ww H <| bx h rfl rfl rfl rfl fun b4 w5 n6 h => ag rfl rfl <| fun a H => nk hK3 <| sr fun K7 hK7 => s_build H rfl (by rw [H.parts (vs := []) rfl]; exact bd_158 w5) (lt_ rfl) fun a H => ww H <| al h zero_158 rfl rfl rfl fun b8 w9 n10 h => fun a H => ?_
 refine s_stoN (l := [(.bool false), (.bool false), (.bool false), (.bool false), (.bool false), (.bool false), (.bool false), (.bool false), (.bool false), (.bool false), (.bool false), (.bool false), (.bool false), (.bool false), (.bool false), (.bool false), (.bool false), (.bool false), (.bool false), (.bool false), (.bool false), (.bool false), (.bool false), (.bool false), (.bool false), (.bool false), (.bool false), (.bool false), (.bool false), (.bool false), (.bool false), (.bool false), (.bool false), (.bool false), (.bool false), (.bool false), (.bool false), (.bool false), (.bool false), (.bool false), (.bool false), (.bool false), (.bool false), (.bool false), (.bool false), (.bool false), (.bool false), (.bool false), (.bool false), (.bool false), (.bool false), (.bool false), (.bool false), (.bool false), (.bool false), (.bool false), (.bool false), (.bool false), (.bool false), (.bool false), (.bool false), (.bool false), (.bool false), (.bool false), (.bool false), (.bool false), (.bool false), (.bool false), (.bool false), (.bool false), (.bool false), (.bool false), (.bool false), (.bool false), (.bool false), (.bool false), (.bool false), (.bool false), (.bool false), (.bool false), (.bool false), (.bool false), (.bool false), (.bool false), (.bool false), (.bool false), (.bool false), (.bool false), (.bool false), (.bool false), (.bool false), (.bool false), (.bool false), (.bool false), (.bool false), (.bool false), (.bool false), (.bool false), (.bool false), (.bool false), (.bool false), (.bool false), (.bool false), (.bool false), (.bool false), (.bool false), (.bool false), (.bool false), (.bool false), (.bool false), (.bool false), (.bool false), (.bool false), (.bool false), (.bool false), (.bool false), (.bool false), (.bool false), (.bool false), (.bool false), (.bool false), (.bool false), (.bool false), (.bool false), (.bool false), (.bool false), (.bool false), (.bool false), (.bool false), (.bool false), (.bool false), (.bool false), (.bool false), (.bool false), (.bool false), (.bool false), (.bool false), (.bool false), (.bool false), (.bool false), (.bool false), (.bool false), (.bool false), (.bool false), (.bool false), (.bool false), (.bool false), (.bool false), (.bool false), (.bool false), (.bool false), (.bool false), (.bool false), (.bool false), (.bool false), (.bool false), (.bool false), (.bool false), (.bool false), (.bool false), (.bool false), (.bool false), (.bool false), (.bool false), (.bool false), (.bool false), (.bool false), (.bool false), (.bool false), (.bool false), (.bool false), (.bool false), (.bool false), (.bool false), (.bool false), (.bool false), (.bool false), (.bool false), (.bool false), (.bool false), (.bool false), (.bool false), (.bool false), (.bool false), (.bool false), (.bool false), (.bool false), (.bool false), (.bool false), (.bool false), (.bool false), (.bool false), (.bool false), (.bool false), (.bool false), (.bool false), (.bool false), (.bool false), (.bool false), (.bool false), (.bool false), (.bool false), (.bool false), (.bool false), (.bool false), (.bool false), (.bool false), (.bool false), (.bool false), (.bool false), (.bool false), (.bool false), (.bool false), (.bool false), (.bool false), (.bool false), (.bool false), (.bool false), (.bool false), (.bool false), (.bool false), (.bool false), (.bool false), (.bool false), (.bool false), (.bool false), (.bool false), (.bool false), (.bool false), (.bool false), (.bool false), (.bool false), (.bool false), (.bool false), (.bool false), (.bool false), (.bool false), (.bool false), (.bool false), (.bool false), (.bool false), (.bool false), (.bool false), (.bool false), (.bool false), (.bool false), (.bool false), (.bool false), (.bool false), (.bool false), (.bool false), (.bool false), (.bool false), (.bool false), (.bool false)]) H rfl rfl rfl rfl agg_158 (by kernel_rfl) (by kernel_rfl) (by exact h) ?_
 clear h H
 intro w11 h H
 obtain ⟨l15, hc16, h⟩ := h
 refine nk hK7 <| sr fun K12 hK12 => ww H <| ag rfl rfl <| fun a H => nk hK12 <| c_seq fun K13 hK13 => sr fun K14 hK14 => ww H <| ld rfl one_28 hc16 rfl <| bl (vs := [l15.v]) rfl rfl (fun cs => b_lenS (z := l15) sl_28) <| mv rfl rfl <| fun a H => nk hK14 <| c_block ?_
 obtain ⟨I20, m21, h102, h103⟩ := h
 refine c_loop (σ := Bool × Int) (fun z w => I20 z.1 z.2 w) (fun z w => m21 z.1 z.2 w) (fun z => [(0, (.pointer c1)), (3, (.pointer (some (blk b4)))), (5, (.pointer (some (blk b8)))), (6, (.bool z.1)), (10, l15.v), (11, (.i (l15.l : Int))), (12, (.i z.2))]) (false, 0) h102 (H.weaken ⟨rfl, rfl, rfl, rfl, rfl, rfl, rfl, trivial⟩) ?_
 clear H h102
 rintro ⟨t17, s18⟩ a w19 h H
 replace h := h103 t17 s18 w19 h
 clear h103
 replace H : Has 53 [] a [(0, (.pointer c1)), (3, (.pointer (some (blk b4)))), (5, (.pointer (some (blk b8)))), (6, (.bool t17)), (10, l15.v), (11, (.i (l15.l : Int))), (12, (.i s18))] := H
 refine sr fun K22 hK22 => ww H <| bn rfl rfl r_lss rfl <| fun a H => nk hK22 <| c_seq fun K23 hK23 => cd H rfl h (fun h24 h => ?_) (fun h24 h => ?_)
 ·obtain ⟨a27, h28, h29, h30, h⟩ := h
  refine c_skip <| hK23 _ _ <| c_seq fun K25 hK25 => c_block <| sr fun K26 hK26 => s_idxS (s := l15) H rfl rfl rfl slc_28 h28 h29 h30 (lt_ rfl) fun a H => ?_
  obtain ⟨I31, hc32, D33, hc34, h⟩ := h
  refine ww H <| lN (l := [(.i I31), D33.v]) rfl agg_34 rfl ⟨hc32, hc34, trivial⟩ rfl <| al h zero_34 rfl rfl rfl fun b35 w36 n37 h => sN h rfl rfl agg_34 rfl rfl fun w38 h => fun a H => nk hK26 <| c_seq fun K39 hK39 => c_seq fun K40 hK40 => c_regD mixed (by kernel_rfl) <| z_fld H rfl rfl fld_34_0 (lt_ rfl) fun a H => ?_
  obtain ⟨l42, hc43, h⟩ := h
  refine z_load (v := (.i l42)) H rfl rfl one_3 hc43 (lt_ rfl) fun a H => z_bin H rfl rfl rfl r_lss (lt_ rfl) fun a H => z_move H rfl rfl (lt_ rfl) fun a H => ?_
  obtain ⟨x52, h53, h54, h⟩ := h
  refine zg_join (n := 53) [(27, (.bool x52)), (0, (.pointer c1)), (3, (.pointer (some (blk b4)))), (5, (.pointer (some (blk b8)))), (6, (.bool t17)), (8, (.pointer (some (blk b35)))), (10, l15.v), (11, (.i (l15.l : Int))), (12, (.i s18))] (.succ (.succ (.succ (.succ (.succ (.succ (.succ (.succ (.zero _))))))))) ?_ ?_
  ·intro h45
   try clear h
   rcases Bool.eq_false_or_eq_true (decide (l42 < 0)) with h44 | h44
   ·replace H := H.ch (t := 19) (b := true) rfl h44
    iterate 7 refine z_skip H (wantN H rfl rfl rfl) rfl (lt_ rfl) fun a H => ?_
    refine z_pickT H rfl rfl rfl (lt_ rfl) fun a H => ?_
    replace h := h54 h44
    subst h
    exact h45 _ (H.weaken ⟨rfl, rfl, rfl, rfl, rfl, rfl, rfl, rfl, rfl, trivial⟩)
   ·replace H := H.ch (t := 19) (b := false) rfl h44
    replace h := h53 h44
    refine z_fld H (wantG H rfl rfl) rfl fld_34_0 (lt_ rfl) fun a H => ?_
    obtain ⟨l46, hc47, h⟩ := h
    refine z_load (v := (.i l46)) H (wantG H rfl rfl) rfl one_3 hc47 (lt_ rfl) fun a H => z_move H (wantG H rfl rfl) rfl (lt_ rfl) fun a H => ?_
    obtain ⟨a48, h51, h⟩ := h
    revert H
    revert h
    subst h51
    intro h H
    refine z_nil H (wantG H rfl rfl) rfl (lt_ rfl) fun a H => z_fld H (wantG H rfl rfl) rfl fld_46_1 (lt_ rfl) fun a H => ?_
    obtain ⟨l49, hc50, h⟩ := h
    refine z_load (v := (.i l49)) H (wantG H rfl rfl) rfl one_3 hc50 (lt_ rfl) fun a H => z_bin H (wantG H rfl rfl) rfl rfl r_geq (lt_ rfl) fun a H => z_pickF H rfl rfl rfl (lt_ rfl) fun a H => ?_
    subst h
    exact h45 _ (H.weaken ⟨rfl, rfl, rfl, rfl, rfl, rfl, rfl, rfl, rfl, trivial⟩)
  ·clear H a
   clear h53 h54
   intro a H
   refine wpQuiet_nil ?_
   rintro _ ⟨k41, rfl⟩
   replace h := h k41
   refine hK40 _ _ <| cd H rfl h (fun h55 h => ?_) (fun h55 h => ?_)
   ·exact sr fun K56 hK56 => ww H <| ag rfl rfl <| fun a H => nk hK56 <| c_ret <| e_ret1 H rfl rfl h
   ·obtain ⟨x66, h67, h68, h⟩ := h
    refine c_skip <| hK39 _ _ <| sr fun K57 hK57 => ww H <| mv rfl rfl <| mv rfl rfl <| fun a H => g_join (n := 53) [(34, (.bool x66)), (0, (.pointer c1)), (3, (.pointer (some (blk b4)))), (5, (.pointer (some (blk b8)))), (8, (.pointer (some (blk b35)))), (10, l15.v), (11, (.i (l15.l : Int))), (12, (.i s18))] (.succ (.succ (.succ (.succ (.succ (.zero _)))))) ?_ ?_
    ·intro h59
     try clear h
     rcases Bool.eq_false_or_eq_true t17 with h58 | h58
     ·replace H := H.ch (t := 29) (b := true) rfl h58
      refine ww H <| sk rfl rfl rfl rfl <| sk rfl rfl rfl rfl <| sk rfl rfl rfl rfl <| sk rfl rfl rfl rfl <| pT rfl rfl rfl <| fun a H => ?_
      replace h := h68 h58
      subst h
      exact h59 _ (H.weaken ⟨rfl, rfl, rfl, rfl, rfl, rfl, rfl, rfl, trivial⟩)
     ·replace H := H.ch (t := 29) (b := false) rfl h58
      replace h := h67 h58
      obtain ⟨l60, hc61, h62, h63, h⟩ := h
      refine ww H <| gfd rfl rfl rfl fld_34_0 rfl <| gld rfl rfl rfl one_3 hc61 rfl <| fun a H => s_idxA H (wantG H rfl rfl) rfl rfl arr_158 h62 h63 (lt_ rfl) fun a H => ?_
      obtain ⟨l64, hc65, h⟩ := h
      refine ww H <| gld rfl rfl rfl one_4 hc65 rfl <| pF rfl rfl rfl <| fun a H => ?_
      subst h
      exact h59 _ (H.weaken ⟨rfl, rfl, rfl, rfl, rfl, rfl, rfl, rfl, trivial⟩)
    ·clear H a
     clear h67 h68
     intro a H
     obtain ⟨l69, hc70, h71, h72, h⟩ := h
     refine ww H <| ag rfl rfl <| fun a H => nk hK57 <| c_reg <| ww H <| fd rfl fld_34_0 rfl <| ld rfl one_3 hc70 rfl <| fun a H => s_idxA H rfl rfl rfl arr_158 h71 h72 (lt_ rfl) fun a H => ww H <| st h rfl rfl one_4 rfl fun w73 w73S h => fun a H => nk hK25 <| c_reg <| ww H <| bn rfl rfl r_add rfl <| mv rfl rfl <| fun a H => c_nil <| Exists.intro (x66, wr .i64 (s18 + 1)) ⟨h.1, h.2, H.weaken ⟨rfl, rfl, rfl, rfl, rfl, rfl, rfl, trivial⟩⟩
 ·refine c_exit ?_
  first | (simp only [Exit.then, Exit.inBlock, ↓reduceIte]; fail_if_success simp only [Nat.reduceEqDiff]) | simp only [Exit.then, Exit.inBlock, ↓reduceIte, Nat.reduceEqDiff]
  refine hK13 _ _ <| c_seq fun K76 hK76 => c_block <| sr fun K77 hK77 => ww H <| mv rfl rfl <| ag rfl rfl <| fun a H => nk hK77 <| cd H rfl h (fun h78 h => ?_) (fun h78 h => ?_)
  ·exact sr fun K79 hK79 => ww H <| ag rfl rfl <| fun a H => nk hK79 <| c_ret <| e_ret1 H rfl rfl h
  ·obtain ⟨l81, hc82, h⟩ := h
   refine sr fun K80 hK80 => ww H <| ld rfl one_28 hc82 rfl <| fun a H => s_mkf H rfl (H.args (vs := [(.pointer (some (blk b4)))]) rfl) (lt_ rfl) fun a H => ww H <| cl1 h body_103 rfl rfl eP fun P84 w83 h => ag rfl rfl <| fun a H => nk hK80 <| cd H rfl h (fun h85 h => ?_) (fun h85 h => ?_)
   ·exact sr fun K86 hK86 => ww H <| ag rfl rfl <| fun a H => nk hK86 <| c_ret <| e_ret1 H rfl rfl h
   ·refine c_seq fun K87 hK87 => c_regD mixed (by kernel_rfl) ?_
    obtain ⟨l89, hc90, h⟩ := h
    refine z_load (v := l89.v) H rfl rfl one_28 hc90 (lt_ rfl) fun a H => z_blt H rfl (H.args (vs := [l89.v]) rfl) (lt_ rfl) (fun cs w => b_lenS (z := l89) sl_28) fun a H => z_move H rfl rfl (lt_ rfl) fun a H => ?_
    obtain ⟨a91, h97, h⟩ := h
    revert H
    revert h
    subst h97
    intro h H
    refine z_nil H rfl rfl (lt_ rfl) fun a H => z_fld H rfl rfl fld_46_2 (lt_ rfl) fun a H => ?_
    obtain ⟨l92, hc93, h⟩ := h
    refine z_load (v := (.i l92)) H rfl rfl one_3 hc93 (lt_ rfl) fun a H => z_bin H rfl rfl rfl r_lss (lt_ rfl) fun a H => z_assign H rfl rfl (lt_ rfl) fun a H => wpQuiet_nil ?_
    rintro _ ⟨k88, rfl⟩
    replace h := h k88
    refine hK87 _ _ <| cd H rfl h (fun h94 h => ?_) (fun h94 h => ?_)
    ·exact sr fun K95 hK95 => ww H <| ag rfl rfl <| fun a H => nk hK95 <| c_ret <| e_ret1 H rfl rfl h
    ·exact c_skip <| hK76 _ _ <| sr fun K96 hK96 => ww H <| ag rfl rfl <| fun a H => nk hK96 <| c_ret <| e_ret1 H rfl rfl h

theorem sim_slices_Equal (s1 s2 : Slc) (w : World) (Q : Ending → World → Prop) (h : vc_slices_Equal s1 s2 w Q) : Calls PP F_slices_Equal #[s1.v, s2.v] w Q := by
 unfold vc_slices_Equal at h
 refine enter (n := 26) Tryz.func85 rfl rfl (le_ rfl) fun a H => sr fun K3 hK3 => ww H <| ag rfl rfl <| fun a H => nk hK3 <| c_seq fun K4 hK4 => sr fun K5 hK5 => ww H <| mv rfl rfl <| bl (vs := [s1.v]) rfl rfl (fun cs => b_lenS (z := s1) sl_22) <| mv rfl rfl <| bl (vs := [s2.v]) rfl rfl (fun cs => b_lenS (z := s2) sl_22) <| bn rfl rfl r_neq rfl <| fun a H => nk hK5 <| cd H rfl h (fun h6 h => ?_) (fun h6 h => ?_)
 ·exact sr fun K7 hK7 => ww H <| ag rfl rfl <| fun a H => nk hK7 <| c_ret <| e_ret1 H rfl rfl h
 ·refine c_skip <| hK4 _ _ <| c_seq fun K8 hK8 => sr fun K9 hK9 => ww H <| mv rfl rfl <| bl (vs := [s1.v]) rfl rfl (fun cs => b_lenS (z := s1) sl_22) <| mv rfl rfl <| fun a H => nk hK9 <| c_block ?_
  obtain ⟨I12, m13, h36, h37⟩ := h
  refine c_loop (σ := Int) (fun z w => I12 z w) (fun z w => m13 z w) (fun z => [(0, s1.v), (1, s2.v), (12, (.i (s1.l : Int))), (13, (.i z))]) 0 h36 (H.weaken ⟨rfl, rfl, rfl, rfl, trivial⟩) ?_
  clear H h36
  rintro s10 a w11 h H
  replace h := h37 s10 w11 h
  clear h37
  replace H : Has 26 [] a [(0, s1.v), (1, s2.v), (12, (.i (s1.l : Int))), (13, (.i s10))] := H
  refine sr fun K14 hK14 => ww H <| bn rfl rfl r_lss rfl <| fun a H => nk hK14 <| c_seq fun K15 hK15 => cd H rfl h (fun h16 h => ?_) (fun h16 h => ?_)
  ·refine c_skip <| hK15 _ _ <| c_seq fun K17 hK17 => c_block <| sr fun K18 hK18 => ww H <| mv rfl rfl <| ag rfl rfl <| fun a H => nk hK18 <| c_seq fun K19 hK19 => c_regD mixed (by kernel_rfl) <| z_move H rfl rfl (lt_ rfl) fun a H => z_move H rfl rfl (lt_ rfl) fun a H => ?_
   obtain ⟨a21, h22, h23, h24, h⟩ := h
   refine z_idxS (s := s1) H rfl rfl rfl slc_22 h22 h23 h24 (lt_ rfl) fun a H => ?_
   obtain ⟨l25, hc26, h⟩ := h
   refine z_load (v := (.int .u8 l25)) H rfl rfl one_5 hc26 (lt_ rfl) fun a H => z_move H rfl rfl (lt_ rfl) fun a H => z_move H rfl rfl (lt_ rfl) fun a H => ?_
   obtain ⟨a27, h28, h29, h30, h⟩ := h
   refine z_idxS (s := s2) H rfl rfl rfl slc_22 h28 h29 h30 (lt_ rfl) fun a H => ?_
   obtain ⟨l31, hc32, h⟩ := h
   refine z_load (v := (.int .u8 l31)) H rfl rfl one_5 hc32 (lt_ rfl) fun a H => z_bin H rfl rfl rfl r_neq (lt_ rfl) fun a H => wpQuiet_nil ?_
   rintro _ ⟨k20, rfl⟩
   replace h := h k20
   refine hK19 _ _ <| cd H rfl h (fun h33 h => ?_) (fun h33 h => ?_)
   ·exact sr fun K34 hK34 => ww H <| ag rfl rfl <| fun a H => nk hK34 <| c_ret <| e_ret1 H rfl rfl h
   ·refine c_skip <| hK17 _ _ <| c_reg <| ww H <| bn rfl rfl r_add rfl <| mv rfl rfl <| fun a H => c_nil <| Exists.intro (wr .i64 (s10 + 1)) ⟨h.1, h.2, H.weaken ⟨rfl, rfl, rfl, rfl, trivial⟩⟩
  ·refine c_exit ?_
   first | (simp only [Exit.then, Exit.inBlock, ↓reduceIte]; fail_if_success simp only [Nat.reduceEqDiff]) | simp only [Exit.then, Exit.inBlock, ↓reduceIte, Nat.reduceEqDiff]
   exact hK8 _ _ <| sr fun K35 hK35 => ww H <| ag rfl rfl <| fun a H => nk hK35 <| c_ret <| e_ret1 H rfl rfl h

theorem sim_gf_turns (i1 : Int) (w : World) (Q : Ending → World → Prop) (h : vc_gf_turns i1 w Q) : Calls PP F_gf_turns #[(.i i1)] w Q := by
 unfold vc_gf_turns at h
 exact enter (n := 7) Tryz.func87 rfl rfl (le_ rfl) fun a H => sr fun K2 hK2 => ww H <| ag rfl rfl <| fun a H => nk hK2 <| sr fun K3 hK3 => ww H <| mv rfl rfl <| bn rfl rfl (r_rem (by decide)) rfl <| bn rfl rfl r_add rfl <| bn rfl rfl (r_rem (by decide)) rfl <| ag rfl rfl <| fun a H => nk hK3 <| c_ret <| e_ret1 H rfl rfl h

theorem sim_matrix_New_c1 (r1 : Slc) (c2 : Addr) (w : World) (Q : Ending → World → Prop) (h : vc_matrix_New_c1 r1 c2 w Q) : Calls PP F_matrix_New_c1 #[r1.v, (.pointer (some c2))] w Q := by
 unfold vc_matrix_New_c1 at h
 refine enter (n := 11) Tryz.func88 rfl rfl (le_ rfl) fun a H => ?_
 obtain ⟨l5, hc6, a7, h8, h9, h10, h⟩ := h
 refine sr fun K3 hK3 => ww H <| ag rfl rfl <| fun a H => nk hK3 <| sr fun K4 hK4 => ww H <| mv rfl rfl <| bl (vs := [r1.v]) rfl rfl (fun cs => b_lenS (z := r1) sl_22) <| ld rfl one_27 hc6 rfl <| fun a H => s_idxS (s := l5) H rfl rfl rfl slc_27 h8 h9 h10 (lt_ rfl) fun a H => ?_
 obtain ⟨l11, hc12, h⟩ := h
 exact ww H <| ld rfl one_22 hc12 rfl <| bl (vs := [l11.v]) rfl rfl (fun cs => b_lenS (z := l11) sl_22) <| bn rfl rfl r_neq rfl <| ag rfl rfl <| fun a H => nk hK4 <| c_ret <| e_ret1 H rfl rfl h

theorem sim_slices_Clone (s1 : Slc) (w : World) (Q : Ending → World → Prop) (h : vc_slices_Clone s1 w Q) : Calls PP F_slices_Clone #[s1.v] w Q := by
 unfold vc_slices_Clone at h
 refine enter (n := 8) Tryz.func89 rfl rfl (le_ rfl) fun a H => sr fun K2 hK2 => ww H <| ag rfl rfl <| fun a H => nk hK2 <| c_seq fun K3 hK3 => sr fun K4 hK4 => ww H <| mv rfl rfl <| bn rfl rfl (r_eqS0 (z := s1) sl_22) rfl <| fun a H => nk hK4 <| cd H rfl h (fun h5 h => ?_) (fun h5 h => ?_)
 ·exact sr fun K6 hK6 => ww H <| ag rfl rfl <| fun a H => nk hK6 <| c_ret <| e_ret1 H rfl rfl h
 ·refine c_skip <| hK3 _ _ <| sr fun K7 hK7 => ?_
  replace h := h.get
  obtain ⟨b8, w9, n10, h⟩ := h
  refine s_bslc H rfl (by rw [H.parts (vs := []) rfl]; exact bs_22_0 w) (lt_ rfl) ?_
  rw [← n10.at_]
  clear H a
  intro a H
  refine n10.go ?_
  obtain ⟨s11, w12, h13, h⟩ := h
  refine ww H <| mv rfl rfl <| fun a H => s_blt H rfl (H.args (vs := [(Slc.v (Slc.mk (some (blk b8)) 0 0)), s1.v]) rfl) (lt_ rfl) (fun cs => b_app (z := s11) h13) ?_
  clear H a h13
  intro a H
  exact ww H <| ag rfl rfl <| fun a H => nk hK7 <| c_ret <| e_ret1 H rfl rfl h

theorem sim_slices_ContainsFunc_byte_byte (s1 : Slc) (f2 : Value) (w : World) (Q : Ending → World → Prop) (h : vc_slices_ContainsFunc_byte_byte s1 f2 w Q) : Calls PP F_slices_ContainsFunc_byte_byte #[s1.v, f2] w Q := by
 unfold vc_slices_ContainsFunc_byte_byte at h
 have eP {L : List (Nat × Value)} (c : List PanicEntry) (w' : World) (a : Act) (h : Q (.panicked c) w') (H : Has 9 [] a L) : bodyPost PP Tryz.f90 Q (.panic c) a w' := e_panic H h
 exact enter (n := 9) Tryz.func90 rfl rfl (le_ rfl) fun a H => sr fun K3 hK3 => ww H <| ag rfl rfl <| fun a H => nk hK3 <| sr fun K4 hK4 => ww H <| mv rfl rfl <| mv rfl rfl <| cl1 h body_105 rfl rfl eP fun b6 w5 h => bn rfl rfl r_geq rfl <| ag rfl rfl <| fun a H => nk hK4 <| c_ret <| e_ret1 H rfl rfl h

theorem sim_mend_divided_c1 (c1 : Int) (w : World) (Q : Ending → World → Prop) (h : vc_mend_divided_c1 c1 w Q) : Calls PP F_mend_divided_c1 #[(.int .u8 c1)] w Q := by
 unfold vc_mend_divided_c1 at h
 exact enter (n := 5) Tryz.func91 rfl rfl (le_ rfl) fun a H => sr fun K2 hK2 => ww H <| ag rfl rfl <| fun a H => nk hK2 <| sr fun K3 hK3 => ww H <| mv rfl rfl <| bn rfl rfl r_neq rfl <| ag rfl rfl <| fun a H => nk hK3 <| c_ret <| e_ret1 H rfl rfl h

theorem sim_cmp_isNaN (x1 : Int) (w : World) (Q : Ending → World → Prop) (h : vc_cmp_isNaN x1 w Q) : Calls PP F_cmp_isNaN #[(.i x1)] w Q := by
 unfold vc_cmp_isNaN at h
 exact enter (n := 6) Tryz.func98 rfl rfl (le_ rfl) fun a H => sr fun K2 hK2 => ww H <| ag rfl rfl <| fun a H => nk hK2 <| sr fun K3 hK3 => ww H <| mv rfl rfl <| mv rfl rfl <| bn rfl rfl r_neq rfl <| ag rfl rfl <| fun a H => nk hK3 <| c_ret <| e_ret1 H rfl rfl h

theorem sim_matrix_eliminate_c1 (i1 j2 : Int) (c3 : Addr) (w : World) (Q : Ending → World → Prop) (h : vc_matrix_eliminate_c1 i1 j2 c3 w Q) : Calls PP F_matrix_eliminate_c1 #[(.i i1), (.i j2), (.pointer (some c3))] w Q := by
 unfold vc_matrix_eliminate_c1 at h
 refine enter (n := 19) Tryz.func99 rfl rfl (le_ rfl) fun a H => ?_
 replace H := H.weaken (L' := [(0, (.i i1)), (1, (.i j2)), (2, (.pointer (some c3)))]) ⟨rfl, rfl, rfl, trivial⟩
 obtain ⟨l4, hc5, l6, hc7, l8, hc9, a10, h11, h12, h13, l14, hc15, l16, hc17, a18, h19, h20, h21, l22, hc23, a24, h25, h26, h27, h⟩ := h
 refine c_any (V := [(0, l4.v), (1, (.i i1)), (2, l6.v), (3, (.i j2)), (4, l8.v), (5, (.i j2)), (6, (.pointer (some (a10.add (Int.toNat (j2) * 1))))), (7, l14.v), (8, l16.v), (9, (.i i1)), (10, (.pointer (some (a18.add (Int.toNat (i1) * 1))))), (11, l22.v), (12, (.pointer (some (a24.add (Int.toNat (i1) * 1)))))]) (⟨[[], [], [], [], [], [], [4, 5], [6], [], [], [8, 9], [10], [0, 1, 4, 5, 6, 7, 11], [0, 1, 4, 5, 6, 7, 11, 12], [0, 1, 2, 3, 4, 5, 6, 7, 8, 9, 10, 11, 12, 13], [0, 1, 2, 3, 4, 5, 6, 7, 8, 9, 10, 11, 12, 13, 14]], [some 5, some 6, some 7, some 8, some 9, some 10, some 11, some 12, some 13, some 14, some 15, some 16, some 17, none, some 18, none], [13, 15], [0, 0, 0, 0, 0, 0, 0, 0, 0, 0, 0, 0, 0, 0, 1, 1], [0, 0, 1, 1, 0, 0, 0, 0, 0, 0, 0, 0, 0, 1, 1, 2]⟩ : Rg) [(0, (.i i1)), (1, (.i j2)), (2, (.pointer (some c3)))] mixed (by kernel_rfl) H <| Stg.eff [0, 1, 2, 3, 4, 5, 6, 7, 8, 9, 10, 11, 12] (by kernel_rfl) rfl (.cons ?_ (.cons ?_ (.cons ?_ (.cons ?_ (.cons ?_ (.cons ?_ (.cons ?_ (.cons ?_ (.cons ?_ (.cons ?_ (.cons ?_ (.cons ?_ (.cons ?_ .nil))))))))))))) ?_
 ·exact Aw rfl rfl <| ld rfl one_27 hc5 rfl <| An rfl
 ·exact Aw rfl rfl <| mv rfl rfl <| An rfl
 ·exact Aw rfl rfl <| ld rfl one_27 hc7 rfl <| An rfl
 ·exact Aw rfl rfl <| mv rfl rfl <| An rfl
 ·exact Aw rfl rfl <| ld rfl one_27 hc9 rfl <| An rfl
 ·exact Aw rfl rfl <| mv rfl rfl <| An rfl
 ·exact Ans.mk rfl rfl fun a H => s_idxS (s := l8) H rfl rfl rfl slc_27 h11 h12 h13 (lt_ rfl) fun a H => Ans.fin H rfl
 ·exact Aw rfl rfl <| ld rfl one_22 hc15 rfl <| An rfl
 ·exact Aw rfl rfl <| ld rfl one_27 hc17 rfl <| An rfl
 ·exact Aw rfl rfl <| mv rfl rfl <| An rfl
 ·exact Ans.mk rfl rfl fun a H => s_idxS (s := l16) H rfl rfl rfl slc_27 h19 h20 h21 (lt_ rfl) fun a H => Ans.fin H rfl
 ·exact Aw rfl rfl <| ld rfl one_22 hc23 rfl <| An rfl
 ·exact Ans.mk rfl rfl fun a H => s_idxS (s := l4) H rfl rfl rfl slc_27 h25 h26 h27 (lt_ rfl) fun a H => Ans.fin H rfl
 ·refine st h rfl rfl one_22 rfl fun w28 w28S h => fun a H => ?_
  obtain ⟨hc31, a32, h33, h34, h35, h⟩ := h
  refine c_nil <| effQ.go0 [(14, (.pointer (some (a32.add (Int.toNat (j2) * 1)))))] H rfl rfl <| Stg.eff [2, 3, 14] (by kernel_rfl) rfl (.cons ?_ (.cons ?_ (.cons ?_ .nil))) ?_
  ·exact Aw rfl rfl <| ld rfl one_27 hc31 rfl <| An rfl
  ·exact Aw rfl rfl <| mv rfl rfl <| An rfl
  ·exact Ans.mk rfl rfl fun a H => s_idxS (s := l6) H rfl rfl rfl slc_27 h33 h34 h35 (lt_ rfl) fun a H => Ans.fin H rfl
  ·refine st h rfl rfl one_22 rfl fun w36 w36S h => fun a H => c_nil <| effQ.go0 [] H rfl rfl <| Stg.fin [] (by kernel_rfl) .nil ?_
   ·intro a H
    replace H := H.weaken (L' := []) trivial
    exact e_ret0 H rfl h

theorem sim_matrix_eliminate_c2 (t1 c2 f3 : Int) (c4 c5 : Addr) (w : World) (Q : Ending → World → Prop) (h : vc_matrix_eliminate_c2 t1 c2 f3 c4 c5 w Q) : Calls PP F_matrix_eliminate_c2 #[(.i t1), (.int .u8 c2), (.i f3), (.pointer (some c4)), (.pointer (some c5))] w Q := by
 unfold vc_matrix_eliminate_c2 at h
 have eP {L : List (Nat × Value)} (c : List PanicEntry) (w' : World) (a : Act) (h : Q (.panicked c) w') (H : Has 19 [] a L) : bodyPost PP Tryz.f100 Q (.panic c) a w' := e_panic H h
 refine enter (n := 19) Tryz.func100 rfl rfl (le_ rfl) fun a H => ?_
 replace H := H.weaken (L' := [(0, (.i t1)), (1, (.int .u8 c2)), (2, (.i f3)), (3, (.pointer (some c4))), (4, (.pointer (some c5)))]) ⟨rfl, rfl, rfl, rfl, rfl, trivial⟩
 obtain ⟨l6, hc7, l8, hc9, a10, h11, h12, h13, l14, hc15, l16, hc17, a18, h19, h20, h21, l22, hc23, h⟩ := h
 refine c_any (V := [(0, (.pointer l6)), (1, l8.v), (2, (.i t1)), (3, (.pointer (some (a10.add (Int.toNat (t1) * 1))))), (4, l14.v), (5, (.int .u8 c2)), (6, l16.v), (7, (.i f3)), (8, (.pointer (some (a18.add (Int.toNat (f3) * 1))))), (9, l22.v)]) (⟨[[], [], [], [1, 2], [3], [], [], [], [6, 7], [8], [0, 4, 5, 9]], [some 8, some 9, some 10, some 11, some 12, some 13, some 14, some 15, some 16, some 17, some 18], [10], [0, 0, 0, 0, 0, 0, 0, 0, 0, 0, 0], [0, 0, 0, 0, 0, 0, 0, 0, 0, 0, 1]⟩ : Rg) [(0, (.i t1)), (1, (.int .u8 c2)), (2, (.i f3)), (3, (.pointer (some c4))), (4, (.pointer (some c5)))] mixed (by kernel_rfl) H <| Stg.eff [0, 1, 2, 3, 4, 5, 6, 7, 8, 9] (by kernel_rfl) rfl (.cons ?_ (.cons ?_ (.cons ?_ (.cons ?_ (.cons ?_ (.cons ?_ (.cons ?_ (.cons ?_ (.cons ?_ (.cons ?_ .nil)))))))))) ?_
 ·exact Aw rfl rfl <| ld rfl one_44 hc7 rfl <| An rfl
 ·exact Aw rfl rfl <| ld rfl one_27 hc9 rfl <| An rfl
 ·exact Aw rfl rfl <| mv rfl rfl <| An rfl
 ·exact Ans.mk rfl rfl fun a H => s_idxS (s := l8) H rfl rfl rfl slc_27 h11 h12 h13 (lt_ rfl) fun a H => Ans.fin H rfl
 ·exact Aw rfl rfl <| ld rfl one_22 hc15 rfl <| An rfl
 ·exact Aw rfl rfl <| mv rfl rfl <| An rfl
 ·exact Aw rfl rfl <| ld rfl one_27 hc17 rfl <| An rfl
 ·exact Aw rfl rfl <| mv rfl rfl <| An rfl
 ·exact Ans.mk rfl rfl fun a H => s_idxS (s := l16) H rfl rfl rfl slc_27 h19 h20 h21 (lt_ rfl) fun a H => Ans.fin H rfl
 ·exact Aw rfl rfl <| ld rfl one_22 hc23 rfl <| An rfl
 ·refine cl1 h body_36 rfl rfl eP fun A25 w24 h => fun a H => c_nil <| effQ.go [] H rfl rfl <| Stg.fin [] (by kernel_rfl) .nil ?_
  ·intro a H
   replace H := H.weaken (L' := []) trivial
   exact e_ret0 H rfl h

theorem sim_matrix_eliminate_c3 (i1 c2 : Int) (c3 c4 : Addr) (w : World) (Q : Ending → World → Prop) (h : vc_matrix_eliminate_c3 i1 c2 c3 c4 w Q) : Calls PP F_matrix_eliminate_c3 #[(.i i1), (.int .u8 c2), (.pointer (some c3)), (.pointer (some c4))] w Q := by
 unfold vc_matrix_eliminate_c3 at h
 have eP {L : List (Nat × Value)} (c : List PanicEntry) (w' : World) (a : Act) (h : Q (.panicked c) w') (H : Has 29 [] a L) : bodyPost PP Tryz.f101 Q (.panic c) a w' := e_panic H h
 refine enter (n := 29) Tryz.func101 rfl rfl (le_ rfl) fun a H => ?_
 obtain ⟨l6, hc7, a8, h9, h10, h11, h⟩ := h
 refine sr fun K5 hK5 => ww H <| ld rfl one_27 hc7 rfl <| mv rfl rfl <| fun a H => s_idxS (s := l6) H rfl rfl rfl slc_27 h9 h10 h11 (lt_ rfl) fun a H => ?_
 obtain ⟨l12, hc13, h⟩ := h
 refine ww H <| ld rfl one_22 hc13 rfl <| bl (vs := [l12.v]) rfl rfl (fun cs => b_lenS (z := l12) sl_22) <| mv rfl rfl <| fun a H => nk hK5 <| c_block ?_
 obtain ⟨I16, m17, h54, h55⟩ := h
 refine c_loop (σ := Int) (fun z w => I16 z w) (fun z w => m17 z w) (fun z => [(0, (.i i1)), (1, (.int .u8 c2)), (2, (.pointer (some c3))), (3, (.pointer (some c4))), (11, l12.v), (12, (.i (l12.l : Int))), (13, (.i z))]) 0 h54 (H.weaken ⟨rfl, rfl, rfl, rfl, rfl, rfl, rfl, trivial⟩) ?_
 clear H h54
 rintro s14 a w15 h H
 replace h := h55 s14 w15 h
 clear h55
 replace H : Has 29 [] a [(0, (.i i1)), (1, (.int .u8 c2)), (2, (.pointer (some c3))), (3, (.pointer (some c4))), (11, l12.v), (12, (.i (l12.l : Int))), (13, (.i s14))] := H
 refine sr fun K18 hK18 => ww H <| bn rfl rfl r_lss rfl <| fun a H => nk hK18 <| c_seq fun K19 hK19 => cd H rfl h (fun h20 h => ?_) (fun h20 h => ?_)
 ·obtain ⟨a23, h24, h25, h26, h⟩ := h
  refine c_skip <| hK19 _ _ <| c_seq fun K21 hK21 => c_block <| sr fun K22 hK22 => ww H <| mv rfl rfl <| fun a H => s_idxS (s := l12) H rfl rfl rfl slc_22 h24 h25 h26 (lt_ rfl) fun a H => ?_
  obtain ⟨l27, hc28, h⟩ := h
  refine ww H <| ld rfl one_5 hc28 rfl <| ag rfl rfl <| ag rfl rfl <| fun a H => nk hK22 <| ?_
  replace H := H.weaken (L' := [(0, (.i i1)), (1, (.int .u8 c2)), (2, (.pointer (some c3))), (3, (.pointer (some c4))), (6, (.i s14)), (7, (.int .u8 l27)), (11, l12.v), (12, (.i (l12.l : Int))), (13, (.i s14))]) ⟨rfl, rfl, rfl, rfl, rfl, rfl, rfl, rfl, rfl, trivial⟩
  obtain ⟨l29, hc30, a31, h32, h33, h34, l35, hc36, l37, hc38, h⟩ := h
  refine c_any (V := [(0, l29.v), (1, (.i i1)), (2, (.pointer (some (a31.add (Int.toNat (i1) * 1))))), (3, l35.v), (4, (.i s14)), (5, (.pointer l37)), (6, (.int .u8 l27)), (7, (.int .u8 c2))]) (⟨[[], [], [0, 1], [2], [], [], [], [], [5, 6, 7], [0, 1, 2, 3, 4, 5, 6, 7, 8], [0, 1, 2, 3, 4, 5, 6, 7, 8, 9]], [some 18, some 19, some 20, some 21, some 22, some 23, some 24, some 25, some 26, some 27, none], [8, 10], [0, 0, 0, 0, 0, 0, 0, 0, 0, 1, 1], [1, 1, 1, 1, 1, 0, 0, 0, 1, 1, 2]⟩ : Rg) [(0, (.i i1)), (1, (.int .u8 c2)), (2, (.pointer (some c3))), (3, (.pointer (some c4))), (6, (.i s14)), (7, (.int .u8 l27)), (11, l12.v), (12, (.i (l12.l : Int))), (13, (.i s14))] mixed (by kernel_rfl) H <| Stg.eff [0, 1, 2, 3, 4, 5, 6, 7] (by kernel_rfl) rfl (.cons ?_ (.cons ?_ (.cons ?_ (.cons ?_ (.cons ?_ (.cons ?_ (.cons ?_ (.cons ?_ .nil)))))))) ?_
  ·exact Aw rfl rfl <| ld rfl one_27 hc30 rfl <| An rfl
  ·exact Aw rfl rfl <| mv rfl rfl <| An rfl
  ·exact Ans.mk rfl rfl fun a H => s_idxS (s := l29) H rfl rfl rfl slc_27 h32 h33 h34 (lt_ rfl) fun a H => Ans.fin H rfl
  ·exact Aw rfl rfl <| ld rfl one_22 hc36 rfl <| An rfl
  ·exact Aw rfl rfl <| mv rfl rfl <| An rfl
  ·exact Aw rfl rfl <| ld rfl one_44 hc38 rfl <| An rfl
  ·exact Aw rfl rfl <| mv rfl rfl <| An rfl
  ·exact Aw rfl rfl <| mv rfl rfl <| An rfl
  ·refine cl1 h body_52 rfl rfl eP fun M40 w39 h => fun a H => ?_
   obtain ⟨hc41, hc42, a43, h44, h45, h46, h⟩ := h
   refine c_nil <| effQ.go [(9, (.pointer (some (a43.add (Int.toNat (s14) * 1)))))] H rfl rfl <| Stg.eff [0, 1, 2, 3, 4, 9] (by kernel_rfl) rfl (.cons ?_ (.cons ?_ (.cons ?_ (.cons ?_ (.cons ?_ (.cons ?_ .nil)))))) ?_
   ·exact Aw rfl rfl <| ld rfl one_27 hc41 rfl <| An rfl
   ·exact Aw rfl rfl <| mv rfl rfl <| An rfl
   ·exact Ans.mk rfl rfl fun a H => s_idxS (s := l29) H rfl rfl rfl slc_27 h32 h33 h34 (lt_ rfl) fun a H => Ans.fin H rfl
   ·exact Aw rfl rfl <| ld rfl one_22 hc42 rfl <| An rfl
   ·exact Aw rfl rfl <| mv rfl rfl <| An rfl
   ·exact Ans.mk rfl rfl fun a H => s_idxS (s := l35) H rfl rfl rfl slc_22 h44 h45 h46 (lt_ rfl) fun a H => Ans.fin H rfl
   ·refine st h rfl rfl one_5 rfl fun w47 w47S h => fun a H => c_nil <| effQ.go0 [] H rfl rfl <| Stg.fin [] (by kernel_rfl) .nil ?_
    ·intro a H
     replace H := H.weaken (L' := [(0, (.i i1)), (1, (.int .u8 c2)), (2, (.pointer (some c3))), (3, (.pointer (some c4))), (11, l12.v), (12, (.i (l12.l : Int))), (13, (.i s14))]) ⟨rfl, rfl, rfl, rfl, rfl, rfl, rfl, trivial⟩
     refine hK21 _ _ <| c_reg <| ww H <| bn rfl rfl r_add rfl <| mv rfl rfl <| fun a H => c_nil <| Exists.intro (wr .i64 (s14 + 1)) ⟨h.1, h.2, H.weaken ⟨rfl, rfl, rfl, rfl, rfl, rfl, rfl, trivial⟩⟩
 ·refine c_exit ?_
  first | (simp only [Exit.then, Exit.inBlock, ↓reduceIte]; fail_if_success simp only [Nat.reduceEqDiff]) | simp only [Exit.then, Exit.inBlock, ↓reduceIte, Nat.reduceEqDiff]
  exact e_ret0 H rfl h

theorem sim_gf_Field_Inv (f1 : Option Addr) (a2 : Int) (w : World) (Q : Ending → World → Prop) (h : vc_gf_Field_Inv f1 a2 w Q) : Calls PP F_gf_Field_Inv #[(.pointer f1), (.int .u8 a2)] w Q := by
 unfold vc_gf_Field_Inv at h
 refine enter (n := 22) Tryz.func102 rfl rfl (le_ rfl) fun a H => sr fun K3 hK3 => ww H <| ag rfl rfl <| ag rfl rfl <| fun a H => nk hK3 <| c_seq fun K4 hK4 => sr fun K5 hK5 => ww H <| mv rfl rfl <| bn rfl rfl (r_eqP0 ptr_44) rfl <| fun a H => nk hK5 <| cd H rfl h (fun h6 h => ?_) (fun h6 h => ?_)
 ·exact sr fun K7 hK7 => ww H <| ag rfl rfl <| ag rfl rfl <| fun a H => nk hK7 <| c_ret <| e_ret2 H rfl rfl rfl h
 ·refine c_skip <| hK4 _ _ <| c_seq fun K8 hK8 => sr fun K9 hK9 => ww H <| mv rfl rfl <| bn rfl rfl r_eql rfl <| fun a H => nk hK9 <| cd H rfl h (fun h10 h => ?_) (fun h10 h => ?_)
  ·exact sr fun K11 hK11 => ww H <| ag rfl rfl <| ag rfl rfl <| fun a H => nk hK11 <| c_ret <| e_ret2 H rfl rfl rfl h
  ·refine c_skip <| hK8 _ _ <| c_seq fun K12 hK12 => c_regD mixed (by kernel_rfl) ?_
   iterate 3 refine z_move H rfl rfl (lt_ rfl) fun a H => ?_
   obtain ⟨a14, h23, h⟩ := h
   revert H
   revert h
   subst h23
   intro h H
   refine z_nil H rfl rfl (lt_ rfl) fun a H => z_fld H rfl rfl fld_129_2 (lt_ rfl) fun a H => ?_
   obtain ⟨h15, h16, h⟩ := h
   refine z_idxA H rfl rfl rfl arr_127 h15 h16 (lt_ rfl) fun a H => ?_
   obtain ⟨l17, hc18, h⟩ := h
   refine z_load (v := (.i l17)) H rfl rfl one_3 hc18 (lt_ rfl) fun a H => z_bin H rfl rfl rfl r_sub (lt_ rfl) fun a H => z_nil H rfl rfl (lt_ rfl) fun a H => z_fld H rfl rfl fld_129_1 (lt_ rfl) fun a H => ?_
   obtain ⟨h19, h20, h⟩ := h
   refine z_idxA H rfl rfl rfl arr_126 h19 h20 (lt_ rfl) fun a H => ?_
   obtain ⟨l21, hc22, h⟩ := h
   refine z_load (v := (.int .u8 l21)) H rfl rfl one_5 hc22 (lt_ rfl) fun a H => z_assign H rfl rfl (lt_ rfl) fun a H => z_assign H rfl rfl (lt_ rfl) fun a H => wpQuiet_nil ?_
   rintro _ ⟨k13, rfl⟩
   replace h := h k13
   exact hK12 _ _ <| c_ret <| e_ret2 H rfl rfl rfl h

theorem sim_slices_ContainsFunc_api_Part_api_Part (s1 : Slc) (f2 : Value) (w : World) (Q : Ending → World → Prop) (h : vc_slices_ContainsFunc_api_Part_api_Part s1 f2 w Q) : Calls PP F_slices_ContainsFunc_api_Part_api_Part #[s1.v, f2] w Q := by
 unfold vc_slices_ContainsFunc_api_Part_api_Part at h
 have eP {L : List (Nat × Value)} (c : List PanicEntry) (w' : World) (a : Act) (h : Q (.panicked c) w') (H : Has 9 [] a L) : bodyPost PP Tryz.f103 Q (.panic c) a w' := e_panic H h
 exact enter (n := 9) Tryz.func103 rfl rfl (le_ rfl) fun a H => sr fun K3 hK3 => ww H <| ag rfl rfl <| fun a H => nk hK3 <| sr fun K4 hK4 => ww H <| mv rfl rfl <| mv rfl rfl <| cl1 h body_107 rfl rfl eP fun P6 w5 h => bn rfl rfl r_geq rfl <| ag rfl rfl <| fun a H => nk hK4 <| c_ret <| e_ret1 H rfl rfl h

theorem sim_code_Code_refused_c1 (I1 : Int) (D2 : Slc) (c3 : Addr) (w : World) (Q : Ending → World → Prop) (h : vc_code_Code_refused_c1 I1 D2 c3 w Q) : Calls PP F_code_Code_refused_c1 #[(.agg #[(.i I1), D2.v]), (.pointer (some c3))] w Q := by
 unfold vc_code_Code_refused_c1 at h
 refine enter (n := 13) Tryz.func104 rfl rfl (le_ rfl) fun a H => sr fun K4 hK4 => ww H <| bx h rfl rfl rfl rfl fun b5 w6 n7 h => ag rfl rfl <| fun a H => nk hK4 <| c_seq fun K8 hK8 => c_regD mixed (by kernel_rfl) <| z_fld H rfl rfl fld_34_1 (lt_ rfl) fun a H => z_load (v := D2.v) H rfl rfl one_22 (n7.cell (i := 1) rfl) (lt_ rfl) fun a H => z_blt H rfl (H.args (vs := [D2.v]) rfl) (lt_ rfl) (fun cs w => b_lenS (z := D2) sl_22) fun a H => ?_
 obtain ⟨l10, hc11, h⟩ := h
 refine z_load (v := l10.v) H rfl rfl one_28 hc11 (lt_ rfl) fun a H => ?_
 obtain ⟨a12, h13, h14, h15, h⟩ := h
 refine z_idxS (s := l10) H rfl rfl rfl slc_28 h13 h14 h15 (lt_ rfl) fun a H => z_fld H rfl rfl fld_34_1 (lt_ rfl) fun a H => ?_
 obtain ⟨l16, hc17, h⟩ := h
 refine z_load (v := l16.v) H rfl rfl one_22 hc17 (lt_ rfl) fun a H => z_blt H rfl (H.args (vs := [l16.v]) rfl) (lt_ rfl) (fun cs w => b_lenS (z := l16) sl_22) fun a H => z_bin H rfl rfl rfl r_neq (lt_ rfl) fun a H => z_assign H rfl rfl (lt_ rfl) fun a H => wpQuiet_nil ?_
 rintro _ ⟨k9, rfl⟩
 replace h := h k9
 exact hK8 _ _ <| c_ret <| e_ret1 H rfl rfl h

theorem sim_slices_IndexFunc_byte_byte (s1 : Slc) (f2 : Value) (w : World) (Q : Ending → World → Prop) (h : vc_slices_IndexFunc_byte_byte s1 f2 w Q) : Calls PP F_slices_IndexFunc_byte_byte #[s1.v, f2] w Q := by
 unfold vc_slices_IndexFunc_byte_byte at h
 have eP {L : List (Nat × Value)} (c : List PanicEntry) (w' : World) (a : Act) (h : Q (.panicked c) w') (H : Has 19 [] a L) : bodyPost PP Tryz.f105 Q (.panic c) a w' := e_panic H h
 refine enter (n := 19) Tryz.func105 rfl rfl (le_ rfl) fun a H => sr fun K3 hK3 => ww H <| ag rfl rfl <| fun a H => nk hK3 <| c_seq fun K4 hK4 => sr fun K5 hK5 => ww H <| mv rfl rfl <| bl (vs := [s1.v]) rfl rfl (fun cs => b_lenS (z := s1) sl_22) <| mv rfl rfl <| fun a H => nk hK5 <| c_block ?_
 obtain ⟨I8, m9, h30, h31⟩ := h
 refine c_loop (σ := Int) (fun z w => I8 z w) (fun z w => m9 z w) (fun z => [(0, s1.v), (1, f2), (7, (.i (s1.l : Int))), (8, (.i z))]) 0 h30 (H.weaken ⟨rfl, rfl, rfl, rfl, trivial⟩) ?_
 clear H h30
 rintro s6 a w7 h H
 replace h := h31 s6 w7 h
 clear h31
 replace H : Has 19 [] a [(0, s1.v), (1, f2), (7, (.i (s1.l : Int))), (8, (.i s6))] := H
 refine sr fun K10 hK10 => ww H <| bn rfl rfl r_lss rfl <| fun a H => nk hK10 <| c_seq fun K11 hK11 => cd H rfl h (fun h12 h => ?_) (fun h12 h => ?_)
 ·obtain ⟨a16, h17, h18, h19, h⟩ := h
  refine c_skip <| hK11 _ _ <| c_seq fun K13 hK13 => c_block <| sr fun K14 hK14 => ww H <| mv rfl rfl <| ag rfl rfl <| fun a H => nk hK14 <| sr fun K15 hK15 => ww H <| mv rfl rfl <| mv rfl rfl <| mv rfl rfl <| fun a H => s_idxS (s := s1) H rfl rfl rfl slc_22 h17 h18 h19 (lt_ rfl) fun a H => ?_
  obtain ⟨l20, hc21, h⟩ := h
  refine ww H <| ld rfl one_5 hc21 rfl <| fun a H => s_callV H rfl rfl (H.args (vs := [(.int .u8 l20)]) rfl) (lt_ rfl) h ?_ (fun c w' => eP c w' _)
  clear H h a
  rintro _ w22 a ⟨r23, rfl, h⟩ H
  refine nk hK15 <| cd H rfl h (fun h24 h => ?_) (fun h24 h => ?_)
  ·exact sr fun K25 hK25 => ww H <| mv rfl rfl <| ag rfl rfl <| fun a H => nk hK25 <| c_ret <| e_ret1 H rfl rfl h
  ·refine c_skip <| hK13 _ _ <| c_reg <| ww H <| bn rfl rfl r_add rfl <| mv rfl rfl <| fun a H => c_nil <| Exists.intro (wr .i64 (s6 + 1)) ⟨h.1, h.2, H.weaken ⟨rfl, rfl, rfl, rfl, trivial⟩⟩
 ·refine c_exit ?_
  first | (simp only [Exit.then, Exit.inBlock, ↓reduceIte]; fail_if_success simp only [Nat.reduceEqDiff]) | simp only [Exit.then, Exit.inBlock, ↓reduceIte, Nat.reduceEqDiff]
  exact hK4 _ _ <| sr fun K29 hK29 => ww H <| ag rfl rfl <| fun a H => nk hK29 <| c_ret <| e_ret1 H rfl rfl h

theorem sim_slices_IndexFunc_api_Part_api_Part (s1 : Slc) (f2 : Value) (w : World) (Q : Ending → World → Prop) (h : vc_slices_IndexFunc_api_Part_api_Part s1 f2 w Q) : Calls PP F_slices_IndexFunc_api_Part_api_Part #[s1.v, f2] w Q := by
 unfold vc_slices_IndexFunc_api_Part_api_Part at h
 have eP {L : List (Nat × Value)} (c : List PanicEntry) (w' : World) (a : Act) (h : Q (.panicked c) w') (H : Has 19 [] a L) : bodyPost PP Tryz.f107 Q (.panic c) a w' := e_panic H h
 refine enter (n := 19) Tryz.func107 rfl rfl (le_ rfl) fun a H => sr fun K3 hK3 => ww H <| ag rfl rfl <| fun a H => nk hK3 <| c_seq fun K4 hK4 => sr fun K5 hK5 => ww H <| mv rfl rfl <| bl (vs := [s1.v]) rfl rfl (fun cs => b_lenS (z := s1) sl_28) <| mv rfl rfl <| fun a H => nk hK5 <| c_block ?_
 obtain ⟨I8, m9, h32, h33⟩ := h
 refine c_loop (σ := Int) (fun z w => I8 z w) (fun z w => m9 z w) (fun z => [(0, s1.v), (1, f2), (7, (.i (s1.l : Int))), (8, (.i z))]) 0 h32 (H.weaken ⟨rfl, rfl, rfl, rfl, trivial⟩) ?_
 clear H h32
 rintro s6 a w7 h H
 replace h := h33 s6 w7 h
 clear h33
 replace H : Has 19 [] a [(0, s1.v), (1, f2), (7, (.i (s1.l : Int))), (8, (.i s6))] := H
 refine sr fun K10 hK10 => ww H <| bn rfl rfl r_lss rfl <| fun a H => nk hK10 <| c_seq fun K11 hK11 => cd H rfl h (fun h12 h => ?_) (fun h12 h => ?_)
 ·obtain ⟨a16, h17, h18, h19, h⟩ := h
  refine c_skip <| hK11 _ _ <| c_seq fun K13 hK13 => c_block <| sr fun K14 hK14 => ww H <| mv rfl rfl <| ag rfl rfl <| fun a H => nk hK14 <| sr fun K15 hK15 => ww H <| mv rfl rfl <| mv rfl rfl <| mv rfl rfl <| fun a H => s_idxS (s := s1) H rfl rfl rfl slc_28 h17 h18 h19 (lt_ rfl) fun a H => ?_
  obtain ⟨I20, hc21, D22, hc23, h⟩ := h
  refine ww H <| lN (l := [(.i I20), D22.v]) rfl agg_34 rfl ⟨hc21, hc23, trivial⟩ rfl <| fun a H => s_callV H rfl rfl (H.args (vs := [(.agg #[(.i I20), D22.v])]) rfl) (lt_ rfl) h ?_ (fun c w' => eP c w' _)
  clear H h a
  rintro _ w24 a ⟨r25, rfl, h⟩ H
  refine nk hK15 <| cd H rfl h (fun h26 h => ?_) (fun h26 h => ?_)
  ·exact sr fun K27 hK27 => ww H <| mv rfl rfl <| ag rfl rfl <| fun a H => nk hK27 <| c_ret <| e_ret1 H rfl rfl h
  ·refine c_skip <| hK13 _ _ <| c_reg <| ww H <| bn rfl rfl r_add rfl <| mv rfl rfl <| fun a H => c_nil <| Exists.intro (wr .i64 (s6 + 1)) ⟨h.1, h.2, H.weaken ⟨rfl, rfl, rfl, rfl, trivial⟩⟩
 ·refine c_exit ?_
  first | (simp only [Exit.then, Exit.inBlock, ↓reduceIte]; fail_if_success simp only [Nat.reduceEqDiff]) | simp only [Exit.then, Exit.inBlock, ↓reduceIte, Nat.reduceEqDiff]
  exact hK4 _ _ <| sr fun K31 hK31 => ww H <| ag rfl rfl <| fun a H => nk hK31 <| c_ret <| e_ret1 H rfl rfl h
end Go.Proofs.YtabifopphhpciaaGreat
