/-
  flog.Log.anew, which ends with a deferred closure: its condition and the machine's call; printed by tools/defer.py.
-/
import Derived.Test.YtflcdgkckfcofaaGreatDoorFlogA
import Derived.Test.YtflcdgkckfcofaaGreatDoorCaught
namespace Go.Vc
open Go
theorem enterU {P : Program} {u : FrameMode} {f : FuncId} {fn : Func} {c : Code} {l : List Value} {w : World} {R : Ending → World → Prop} (hf : P.funcs[f]? = some fn) (hb : fn.body = some c) {n : Nat} (hn : fn.ntmps = n) (hl : l.length ≤ n)
    (h : ∀ a, Has n [] a (number 0 l) → c.wp P (bodyPost P fn R) a w) : CallsD P f l.toArray u w fun e u' w' => u' = u ∧ R e w' := by
  refine callsD_of_wp hf hb (h _ ⟨?_, rfl, ?_⟩)
  · simp [hn]; omega
  · intro t v hv
    obtain ⟨_, h2⟩ := get_number l 0 t v hv
    have hlt := (List.getElem?_eq_some_iff.1 h2).1
    rw [Nat.sub_zero] at h2
    simp only [Nat.sub_zero] at hlt
    rw [Array.getElem?_append_left (by simpa using hlt)]
    simpa using h2
def DK (Q : Ending → World → Prop) (v : Value) : Ending → World → Prop := CallK (fun _ w' => Q (.returned v) w') (fun _ _ => False)
theorem e_retD {P : Program} {fn : Func} {n : Nat} {a : Act} {L : List (Nat × Value)} {f1 : FuncId} {cap : Array Value} {k : Nat} {v0 : Value} {w : World} {R : Ending → World → Prop} (H : Has n [{ target := .fn (.func f1) cap, args := #[] }] a L) (hf : fn.results = #[.tmp k]) (h0 : ev L (.tmp k) = some v0)
    (h : CallsD P f1 cap .returning w fun e u' w' => u' = .returning ∧ DK R v0 e w') (hb : bodyB P f1 = true) : bodyPostD P fn R .ret a w := by
  show Leaves P fn a.tmps R a.defers .returning w
  rw [H.defers]
  refine leaves_cons (f := f1) (args := cap) (by simp) (by simp [invoke]; exact run_callFunc hb) (h.mono ?_)
  rintro (v | c | _) u' w' ⟨rfl, hx⟩
  · refine ⟨v0, ?_, hx⟩
    rw [results_eq, hf]
    simp [run_rv (P := P) (w := w') (r := .tmp k) H h0]
  · exact False.elim hx
  · exact False.elim hx
end Go.Vc
namespace Go.Proofs.YtflcdgkckfcofaaGreatDoor
open Go Go.Vc
set_option maxRecDepth 100000
set_option maxHeartbeats 4000000
theorem simD_flog_Log_anew_c1 (c1 c2 c3 c4 c5 : Addr) (u : FrameMode) (w : World) (Q : Ending → World → Prop) (h : vc_flog_Log_anew_c1 c1 c2 c3 c4 c5 w Q) : CallsD PP F_flog_Log_anew_c1 #[(.pointer (some c1)), (.pointer (some c2)), (.pointer (some c3)), (.pointer (some c4)), (.pointer (some c5))] u w fun e u' w' => u' = u ∧ Q e w' := by
 unfold vc_flog_Log_anew_c1 at h
 refine enterU (n := 19) Tryz.func64 rfl rfl (Nat.le_of_ble_eq_true rfl) fun a H => c_seq fun K6 hK6 => c_reg ?_
 obtain ⟨l7, hc8, h⟩ := h
 refine s_load (v := (.bool l7)) H rfl rfl one_4 hc8 (lt_ rfl) fun a H => c_nil <| hK6 _ _ <| c_cond H rfl (fun h9 => ?_) (fun h9 => ?_)
 ·replace h := h.1 h9
  refine c_reg ?_
  obtain ⟨l10, hc11, h⟩ := h
  refine s_load (v := (.pointer l10)) H rfl rfl one_34 hc11 (lt_ rfl) fun a H => ?_
  obtain ⟨l12, hc13, h⟩ := h
  refine s_load (v := (.pointer l12)) H rfl rfl one_34 hc13 (lt_ rfl) fun a H => ?_
  obtain ⟨l14, hc15, h⟩ := h
  refine s_load (v := (.pointer l14)) H rfl rfl one_34 hc15 (lt_ rfl) fun a H => ?_
  obtain ⟨l16, hc17, h⟩ := h
  refine s_load (v := (.i l16)) H rfl rfl one_3 hc17 (lt_ rfl) fun a H => ?_
  obtain ⟨l18, hc19, h⟩ := h
  refine s_load (v := (.pointer l18)) H rfl rfl one_93 hc19 (lt_ rfl) fun a H => ?_
  obtain ⟨l20, hc21, h⟩ := h
  refine s_load (v := l20.v) H rfl rfl one_51 hc21 (lt_ rfl) fun a H => s_blt H rfl (H.args (vs := [l20.v]) rfl) (lt_ rfl) (fun cs => b_lenS (z := l20) sl_51) fun a H => ?_
  obtain ⟨a22, h36, h⟩ := h
  revert H
  subst h36
  intro H
  refine s_nil H rfl rfl (lt_ rfl) fun a H => s_fld H rfl rfl fld_95_2 (lt_ rfl) fun a H => ?_
  obtain ⟨h24, h25, h⟩ := h
  refine s_sto (p := a22.add 5) (v := (.i l16)) H rfl rfl rfl rfl one_3 rfl h24 h25 ?_
  clear H
  intro H
  generalize hww23 : World.setCell w (a22.add 5) (.i l16) = w23 at h ⊢
  have w23S : SetAt w (a22.add 5) (.i l16) w23 := ⟨hww23.symm⟩
  clear hww23 h24 h25
  obtain ⟨a26, h35, h⟩ := h
  revert H
  subst h35
  intro H
  refine s_nil H rfl rfl (lt_ rfl) fun a H => s_fld H rfl rfl fld_95_3 (lt_ rfl) fun a H => ?_
  obtain ⟨h28, h29, h⟩ := h
  refine s_sto (p := a26.add 6) (v := (.pointer l18)) H rfl rfl rfl rfl one_93 rfl h28 h29 ?_
  clear H
  intro H
  generalize hww27 : World.setCell w23 (a26.add 6) (.pointer l18) = w27 at h ⊢
  have w27S : SetAt w23 (a26.add 6) (.pointer l18) w27 := ⟨hww27.symm⟩
  clear hww27 h28 h29
  obtain ⟨a30, h34, h⟩ := h
  revert H
  subst h34
  intro H
  refine s_nil H rfl rfl (lt_ rfl) fun a H => s_fld H rfl rfl fld_95_4 (lt_ rfl) fun a H => ?_
  obtain ⟨h32, h33, h⟩ := h
  refine s_sto (p := a30.add 7) (v := (.i (l20.l : Int))) H rfl rfl rfl rfl one_3 rfl h32 h33 ?_
  clear H
  intro H
  generalize hww31 : World.setCell w27 (a30.add 7) (.i (l20.l : Int)) = w31 at h ⊢
  have w31S : SetAt w27 (a30.add 7) (.i (l20.l : Int)) w31 := ⟨hww31.symm⟩
  clear hww31 h32 h33
  refine c_nil ?_
  exact e_ret0 H rfl h
 ·replace h := h.2 h9
  refine c_skip ?_
  exact e_ret0 H rfl h

theorem body_65 : bodyB PP 65 = true := by kernel_rfl
theorem body_66 : bodyB PP 66 = true := by kernel_rfl
theorem zero_4 : zeroB PP 4 (.bool false) := by unfold zeroB; kernel_rfl
def vc_flog_Log_anew (l1 : Option Addr) (d2 : Slc) (w3 : Option Addr) (w : World) (Q : Ending → World → Prop) : Prop :=
  New w #[(.pointer l1)] Ty_p_flog_Log fun b5 w6 => New w6 #[(Slc.v d2)] Ty_sl_uint8 fun b8 w9 => New w9 #[(.pointer w3)] Ty_p_record_Writer fun b11 w12 => ∃ a15 : Addr, l1 = some a15 ∧ ∃ l16 : Int, w12.cell? (a15.add 5) = some (.int .i64 l16) ∧ New w12 #[(.int .i64 0)] Ty_int fun b18 w19 => Sto w19 (blk b18) (.int .i64 (wr .i64 (1 - l16))) fun w21 => New w21 #[(.bool false)] Ty_bool fun b25 w26 => Sto w26 (blk b25) (.bool false) fun w28 => ∃ l34 : Option Addr, (w28.drewN 1).cell? (blk b5) = some (.pointer l34) ∧ ∃ a36 : Addr, l34 = some a36 ∧ ∃ l38 : Option Addr, (w28.drewN 1).cell? (a36.add 0) = some (.pointer l38) ∧ ∃ l40 : Int, (w28.drewN 1).cell? (blk b18) = some (.int .i64 l40) ∧ Calls PP F_disk_Disk_Wipe #[(.pointer l38), (.int .i64 l40)] (w28.drewN 1) (CallK (fun v143 w42 => ∃ W43 : Int, v143 = (.int .i64 W43) ∧ Calls PP F_flog_where #[(.string (ByteArray.mk #[119, 105, 112, 101])), (.int .i64 W43)] w42 (CallK (fun v139 w44 => ∃ w45 : Value, v139 = w45 ∧ ∃ n48 : Bool, NilI w45 n48 ∧ ((!n48) = true → vc_flog_Log_anew_c1 (blk b25) (blk b18) (blk b11) (blk b8) (blk b5) w44 (DK Q (w45))) ∧ ((!n48) = false → ∃ l53 : Option Addr, (w44.drewN 1).cell? (blk b5) = some (.pointer l53) ∧ ∃ a55 : Addr, l53 = some a55 ∧ ∃ l57 : Option Addr, (w44.drewN 1).cell? (a55.add 0) = some (.pointer l57) ∧ ∃ l59 : Int, (w44.drewN 1).cell? (blk b18) = some (.int .i64 l59) ∧ ∃ l61 : Slc, (w44.drewN 1).cell? (blk b8) = some (Slc.v l61) ∧ Calls PP F_disk_Disk_Append #[(.pointer l57), (.int .i64 l59), (Slc.v l61)] (w44.drewN 1) (CallK (fun v135 w63 => ∃ A64 : Int, v135 = (.int .i64 A64) ∧ Calls PP F_flog_where #[(.string (ByteArray.mk #[97, 112, 112, 101, 110, 100])), (.int .i64 A64)] w63 (CallK (fun v131 w65 => ∃ w66 : Value, v131 = w66 ∧ ∃ n69 : Bool, NilI w66 n69 ∧ ((!n69) = true → vc_flog_Log_anew_c1 (blk b25) (blk b18) (blk b11) (blk b8) (blk b5) w65 (DK Q (w66))) ∧ ((!n69) = false → ∃ l74 : Option Addr, (w65.drewN 1).cell? (blk b5) = some (.pointer l74) ∧ ∃ a76 : Addr, l74 = some a76 ∧ ∃ l78 : Option Addr, (w65.drewN 1).cell? (a76.add 0) = some (.pointer l78) ∧ ∃ l80 : Int, (w65.drewN 1).cell? (blk b18) = some (.int .i64 l80) ∧ Calls PP F_disk_Disk_Sync #[(.pointer l78), (.int .i64 l80)] (w65.drewN 1) (CallK (fun v127 w82 => ∃ S83 : Int, v127 = (.int .i64 S83) ∧ Calls PP F_flog_where #[(.string (ByteArray.mk #[115, 121, 110, 99])), (.int .i64 S83)] w82 (CallK (fun v123 w84 => ∃ w85 : Value, v123 = w85 ∧ ∃ n88 : Bool, NilI w85 n88 ∧ ((!n88) = true → vc_flog_Log_anew_c1 (blk b25) (blk b18) (blk b11) (blk b8) (blk b5) w84 (DK Q (w85))) ∧ ((!n88) = false → ∃ l93 : Option Addr, (w84.drewN 1).cell? (blk b5) = some (.pointer l93) ∧ ∃ a95 : Addr, l93 = some a95 ∧ ∃ l97 : Option Addr, (w84.drewN 1).cell? (a95.add 0) = some (.pointer l97) ∧ ∃ l99 : Int, (w84.drewN 1).cell? (blk b18) = some (.int .i64 l99) ∧ Calls PP F_disk_Disk_Switch #[(.pointer l97), (.int .i64 l99)] (w84.drewN 1) (CallK (fun v119 w101 => ∃ S102 : Int, v119 = (.int .i64 S102) ∧ Calls PP F_flog_where #[(.string (ByteArray.mk #[115, 119, 105, 116, 99, 104])), (.int .i64 S102)] w101 (CallK (fun v115 w103 => ∃ w104 : Value, v115 = w104 ∧ ∃ n107 : Bool, NilI w104 n107 ∧ ((!n107) = true → vc_flog_Log_anew_c1 (blk b25) (blk b18) (blk b11) (blk b8) (blk b5) w103 (DK Q (w104))) ∧ ((!n107) = false → Sto w103 (blk b25) (.bool true) fun w111 => vc_flog_Log_anew_c1 (blk b25) (blk b18) (blk b11) (blk b8) (blk b5) w111 (DK Q (.nilIface)))) (fun c117 w118 => False))) (fun c121 w122 => False)))) (fun c125 w126 => False))) (fun c129 w130 => False)))) (fun c133 w134 => False))) (fun c137 w138 => False)))) (fun c141 w142 => False))) (fun c145 w146 => False))
theorem sim_flog_Log_anew (l1 : Option Addr) (d2 : Slc) (w3 : Option Addr) (w : World) (Q : Ending → World → Prop) (h : vc_flog_Log_anew l1 d2 w3 w Q) : Calls PP F_flog_Log_anew #[(.pointer l1), d2.v, (.pointer w3)] w Q := by
 unfold vc_flog_Log_anew at h
 refine enterD (n := 60) Tryz.func39 rfl rfl (Nat.le_of_ble_eq_true rfl) fun a H => c_seq fun K4 hK4 => c_reg ?_
 replace h := h.get
 obtain ⟨b5, w6, n7, h⟩ := h
 refine s_box H rfl rfl (lt_ rfl) ?_
 rw [← n7.at_]
 clear H a
 intro a H
 refine n7.go ?_
 replace h := h.get
 obtain ⟨b8, w9, n10, h⟩ := h
 refine s_box H rfl rfl (lt_ rfl) ?_
 rw [← n10.at_]
 clear H a
 intro a H
 refine n10.go ?_
 replace h := h.get
 obtain ⟨b11, w12, n13, h⟩ := h
 refine s_box H rfl rfl (lt_ rfl) ?_
 rw [← n13.at_]
 clear H a
 intro a H
 refine n13.go <| s_assign H rfl rfl (lt_ rfl) fun a H => c_nil <| hK4 _ _ <| c_seq fun K14 hK14 => c_reg <| s_load (v := (.pointer l1)) H rfl rfl one_34 (n13.old (n10.old (n7.cell (i := 0) rfl))) (lt_ rfl) fun a H => ?_
 obtain ⟨a15, h147, h⟩ := h
 revert H
 subst h147
 intro H
 refine s_nil H rfl rfl (lt_ rfl) fun a H => s_fld H rfl rfl fld_95_2 (lt_ rfl) fun a H => ?_
 obtain ⟨l16, hc17, h⟩ := h
 refine s_load (v := (.i l16)) H rfl rfl one_3 hc17 (lt_ rfl) fun a H => s_bin H rfl rfl rfl r_sub (lt_ rfl) fun a H => ?_
 replace h := h.get
 obtain ⟨b18, w19, n20, h⟩ := h
 refine s_alloc H rfl zero_3 (lt_ rfl) ?_
 rw [← n20.at_]
 clear H a
 intro a H
 refine n20.go ?_
 obtain ⟨h22, h23, h⟩ := h
 refine s_sto (p := blk b18) (v := (.i (wr .i64 (1 - l16)))) H rfl rfl rfl rfl one_3 rfl h22 h23 ?_
 clear H
 intro H
 generalize hww21 : World.setCell w19 (blk b18) (.i (wr .i64 (1 - l16))) = w21 at h ⊢
 have w21S : SetAt w19 (blk b18) (.i (wr .i64 (1 - l16))) w21 := ⟨hww21.symm⟩
 clear hww21 h22 h23
 refine c_nil <| hK14 _ _ <| c_seq fun K24 hK24 => c_reg ?_
 replace h := h.get
 obtain ⟨b25, w26, n27, h⟩ := h
 refine s_alloc H rfl zero_4 (lt_ rfl) ?_
 rw [← n27.at_]
 clear H a
 intro a H
 refine n27.go ?_
 obtain ⟨h29, h30, h⟩ := h
 refine s_sto (p := blk b25) (v := (.bool false)) H rfl rfl rfl rfl one_4 rfl h29 h30 ?_
 clear H
 intro H
 generalize hww28 : World.setCell w26 (blk b25) (.bool false) = w28 at h ⊢
 have w28S : SetAt w26 (blk b25) (.bool false) w28 := ⟨hww28.symm⟩
 clear hww28 h29 h30
 refine c_nil <| hK24 _ _ <| c_seq fun K31 hK31 => c_reg <| s_mkf H rfl (H.args (vs := [(.pointer (some (blk b25))), (.pointer (some (blk b18))), (.pointer (some (blk b11))), (.pointer (some (blk b8))), (.pointer (some (blk b5)))]) rfl) (lt_ rfl) fun a H => s_defer H rfl rfl fun a H => ?_
 letI : DS := ⟨[{ target := .fn (.func F_flog_Log_anew_c1) #[Value.pointer (some (blk b25)), Value.pointer (some (blk b18)), Value.pointer (some (blk b11)), Value.pointer (some (blk b8)), Value.pointer (some (blk b5))], args := #[] }]⟩
 refine c_nil <| hK31 _ _ <| c_seq fun K32 hK32 => c_seq fun K33 hK33 => ?_
 replace H := H.weaken (L' := [(3, (.pointer (some (blk b5)))), (4, (.pointer (some (blk b8)))), (7, (.pointer (some (blk b18)))), (8, (.pointer (some (blk b25))))]) ⟨rfl, rfl, rfl, rfl, trivial⟩
 obtain ⟨l34, hc35, a36, h37, h⟩ := h
 revert H
 subst h37
 intro H
 obtain ⟨l38, hc39, l40, hc41, h⟩ := h
 refine c_any (V := [(0, (.pointer (some a36))), (1, (.pointer (some a36))), (2, (.pointer (some (a36.add 0)))), (3, (.pointer l38)), (4, (.i l40))]) (⟨[[], [0], [1], [2], [], [3, 4], [5], [0, 1, 2, 3, 4, 5, 6]], [some 19, some 20, some 21, some 22, some 23, some 24, some 25, some 9], [5, 6], [0, 0, 0, 0, 0, 0, 1, 2], [0, 0, 0, 0, 0, 1, 2, 2]⟩ : Rg) [(3, (.pointer (some (blk b5)))), (4, (.pointer (some (blk b8)))), (7, (.pointer (some (blk b18)))), (8, (.pointer (some (blk b25))))] mixed (by kernel_rfl) H ?_
 refine Stg.eff [0, 1, 2, 3, 4] (by kernel_rfl) rfl (.cons ?_ (.cons ?_ (.cons ?_ (.cons ?_ (.cons ?_ .nil))))) ?_
 ·refine Ans.mk rfl rfl fun a H => s_load (v := (.pointer (some a36))) H rfl rfl one_34 hc35 (lt_ rfl) fun a H => ?_
  exact Ans.fin H rfl
 ·refine Ans.mk rfl rfl fun a H => s_nil H rfl rfl (lt_ rfl) fun a H => ?_
  exact Ans.fin H rfl
 ·refine Ans.mk rfl rfl fun a H => s_fld H rfl rfl fld_95_0 (lt_ rfl) fun a H => ?_
  exact Ans.fin H rfl
 ·refine Ans.mk rfl rfl fun a H => s_load (v := (.pointer l38)) H rfl rfl one_33 hc39 (lt_ rfl) fun a H => ?_
  exact Ans.fin H rfl
 ·refine Ans.mk rfl rfl fun a H => s_load (v := (.i l40)) H rfl rfl one_3 hc41 (lt_ rfl) fun a H => ?_
  exact Ans.fin H rfl
 ·intro a H
  replace H := H.weaken (L' := [(22, (.pointer l38)), (23, (.i l40))]) ⟨rfl, rfl, trivial⟩
  refine s_call H rfl body_65 (H.args (vs := [(.pointer l38), (.i l40)]) rfl) (lt_ rfl) h ?_ (fun c w' h H => False.elim h)
  clear H h a
  rintro _ w42 a ⟨W43, rfl, h⟩ H
  refine c_nil <| effQ.go [] H rfl rfl <| Stg.eff [] (by kernel_rfl) rfl .nil ?_
  ·intro a H
   replace H := H.weaken (L' := [(24, (.i W43))]) ⟨rfl, trivial⟩
   refine s_call H rfl body_44 (H.args (vs := [(.string (ByteArray.mk #[119, 105, 112, 101])), (.i W43)]) rfl) (lt_ rfl) h ?_ (fun c w' h H => False.elim h)
   clear H h a
   rintro w45 w44 a ⟨_, rfl, h⟩ H
   refine c_nil <| effQ.go [(7, w45)] H rfl rfl <| Stg.fin [7] (by kernel_rfl) (.cons ?_ .nil) ?_
   ·refine Ans.mk rfl rfl fun a H => s_assign H rfl rfl (lt_ rfl) fun a H => ?_
    exact Ans.fin H rfl
   ·intro a H
    replace H := H.weaken (L' := [(3, (.pointer (some (blk b5)))), (4, (.pointer (some (blk b8)))), (7, (.pointer (some (blk b18)))), (8, (.pointer (some (blk b25)))), (9, w45)]) ⟨rfl, rfl, rfl, rfl, rfl, trivial⟩
    refine hK33 _ _ <| c_seq fun K46 hK46 => c_reg <| s_move H rfl rfl (lt_ rfl) fun a H => ?_
    obtain ⟨n48, h47, h⟩ := h
    refine s_bin H rfl rfl rfl (r_neN ifc_83 h47) (lt_ rfl) fun a H => c_nil <| hK46 _ _ <| c_cond H rfl (fun h49 => ?_) (fun h49 => ?_)
    ·replace h := h.1 h49
     refine c_seq fun K50 hK50 => c_reg <| s_move H rfl rfl (lt_ rfl) fun a H => s_assign H rfl rfl (lt_ rfl) fun a H => c_nil <| hK50 _ _ <| c_ret ?_
     exact e_retD (k := 6) H rfl rfl (simD_flog_Log_anew_c1 _ _ _ _ _ .returning _ _ h) (by kernel_rfl)
    ·replace h := h.2 h49
     refine c_skip <| hK32 _ _ <| c_seq fun K51 hK51 => c_seq fun K52 hK52 => ?_
     replace H := H.weaken (L' := [(3, (.pointer (some (blk b5)))), (4, (.pointer (some (blk b8)))), (7, (.pointer (some (blk b18)))), (8, (.pointer (some (blk b25))))]) ⟨rfl, rfl, rfl, rfl, trivial⟩
     obtain ⟨l53, hc54, a55, h56, h⟩ := h
     revert H
     subst h56
     intro H
     obtain ⟨l57, hc58, l59, hc60, l61, hc62, h⟩ := h
     refine c_any (V := [(0, (.pointer (some a55))), (1, (.pointer (some a55))), (2, (.pointer (some (a55.add 0)))), (3, (.pointer l57)), (4, (.i l59)), (5, l61.v)]) (⟨[[], [0], [1], [2], [], [], [3, 4, 5], [6], [0, 1, 2, 3, 4, 5, 6, 7]], [some 29, some 30, some 31, some 32, some 33, some 34, some 35, some 36, some 10], [6, 7], [0, 0, 0, 0, 0, 0, 0, 1, 2], [0, 0, 0, 0, 0, 0, 1, 2, 2]⟩ : Rg) [(3, (.pointer (some (blk b5)))), (4, (.pointer (some (blk b8)))), (7, (.pointer (some (blk b18)))), (8, (.pointer (some (blk b25))))] mixed (by kernel_rfl) H ?_
     refine Stg.eff [0, 1, 2, 3, 4, 5] (by kernel_rfl) rfl (.cons ?_ (.cons ?_ (.cons ?_ (.cons ?_ (.cons ?_ (.cons ?_ .nil)))))) ?_
     ·refine Ans.mk rfl rfl fun a H => s_load (v := (.pointer (some a55))) H rfl rfl one_34 hc54 (lt_ rfl) fun a H => ?_
      exact Ans.fin H rfl
     ·refine Ans.mk rfl rfl fun a H => s_nil H rfl rfl (lt_ rfl) fun a H => ?_
      exact Ans.fin H rfl
     ·refine Ans.mk rfl rfl fun a H => s_fld H rfl rfl fld_95_0 (lt_ rfl) fun a H => ?_
      exact Ans.fin H rfl
     ·refine Ans.mk rfl rfl fun a H => s_load (v := (.pointer l57)) H rfl rfl one_33 hc58 (lt_ rfl) fun a H => ?_
      exact Ans.fin H rfl
     ·refine Ans.mk rfl rfl fun a H => s_load (v := (.i l59)) H rfl rfl one_3 hc60 (lt_ rfl) fun a H => ?_
      exact Ans.fin H rfl
     ·refine Ans.mk rfl rfl fun a H => s_load (v := l61.v) H rfl rfl one_51 hc62 (lt_ rfl) fun a H => ?_
      exact Ans.fin H rfl
     ·intro a H
      replace H := H.weaken (L' := [(32, (.pointer l57)), (33, (.i l59)), (34, l61.v)]) ⟨rfl, rfl, rfl, trivial⟩
      refine s_call H rfl body_45 (H.args (vs := [(.pointer l57), (.i l59), l61.v]) rfl) (lt_ rfl) h ?_ (fun c w' h H => False.elim h)
      clear H h a
      rintro _ w63 a ⟨A64, rfl, h⟩ H
      refine c_nil <| effQ.go [] H rfl rfl <| Stg.eff [] (by kernel_rfl) rfl .nil ?_
      ·intro a H
       replace H := H.weaken (L' := [(35, (.i A64))]) ⟨rfl, trivial⟩
       refine s_call H rfl body_44 (H.args (vs := [(.string (ByteArray.mk #[97, 112, 112, 101, 110, 100])), (.i A64)]) rfl) (lt_ rfl) h ?_ (fun c w' h H => False.elim h)
       clear H h a
       rintro w66 w65 a ⟨_, rfl, h⟩ H
       refine c_nil <| effQ.go [(8, w66)] H rfl rfl <| Stg.fin [8] (by kernel_rfl) (.cons ?_ .nil) ?_
       ·refine Ans.mk rfl rfl fun a H => s_assign H rfl rfl (lt_ rfl) fun a H => ?_
        exact Ans.fin H rfl
       ·intro a H
        replace H := H.weaken (L' := [(3, (.pointer (some (blk b5)))), (7, (.pointer (some (blk b18)))), (8, (.pointer (some (blk b25)))), (10, w66)]) ⟨rfl, rfl, rfl, rfl, trivial⟩
        refine hK52 _ _ <| c_seq fun K67 hK67 => c_reg <| s_move H rfl rfl (lt_ rfl) fun a H => ?_
        obtain ⟨n69, h68, h⟩ := h
        refine s_bin H rfl rfl rfl (r_neN ifc_83 h68) (lt_ rfl) fun a H => c_nil <| hK67 _ _ <| c_cond H rfl (fun h70 => ?_) (fun h70 => ?_)
        ·replace h := h.1 h70
         refine c_seq fun K71 hK71 => c_reg <| s_move H rfl rfl (lt_ rfl) fun a H => s_assign H rfl rfl (lt_ rfl) fun a H => c_nil <| hK71 _ _ <| c_ret ?_
         exact e_retD (k := 6) H rfl rfl (simD_flog_Log_anew_c1 _ _ _ _ _ .returning _ _ h) (by kernel_rfl)
        ·replace h := h.2 h70
         refine c_skip <| hK51 _ _ <| c_seq fun K72 hK72 => c_seq fun K73 hK73 => ?_
         replace H := H.weaken (L' := [(3, (.pointer (some (blk b5)))), (7, (.pointer (some (blk b18)))), (8, (.pointer (some (blk b25))))]) ⟨rfl, rfl, rfl, trivial⟩
         obtain ⟨l74, hc75, a76, h77, h⟩ := h
         revert H
         subst h77
         intro H
         obtain ⟨l78, hc79, l80, hc81, h⟩ := h
         refine c_any (V := [(0, (.pointer (some a76))), (1, (.pointer (some a76))), (2, (.pointer (some (a76.add 0)))), (3, (.pointer l78)), (4, (.i l80))]) (⟨[[], [0], [1], [2], [], [3, 4], [5], [0, 1, 2, 3, 4, 5, 6]], [some 40, some 41, some 42, some 43, some 44, some 45, some 46, some 11], [5, 6], [0, 0, 0, 0, 0, 0, 1, 2], [0, 0, 0, 0, 0, 1, 2, 2]⟩ : Rg) [(3, (.pointer (some (blk b5)))), (7, (.pointer (some (blk b18)))), (8, (.pointer (some (blk b25))))] mixed (by kernel_rfl) H ?_
         refine Stg.eff [0, 1, 2, 3, 4] (by kernel_rfl) rfl (.cons ?_ (.cons ?_ (.cons ?_ (.cons ?_ (.cons ?_ .nil))))) ?_
         ·refine Ans.mk rfl rfl fun a H => s_load (v := (.pointer (some a76))) H rfl rfl one_34 hc75 (lt_ rfl) fun a H => ?_
          exact Ans.fin H rfl
         ·refine Ans.mk rfl rfl fun a H => s_nil H rfl rfl (lt_ rfl) fun a H => ?_
          exact Ans.fin H rfl
         ·refine Ans.mk rfl rfl fun a H => s_fld H rfl rfl fld_95_0 (lt_ rfl) fun a H => ?_
          exact Ans.fin H rfl
         ·refine Ans.mk rfl rfl fun a H => s_load (v := (.pointer l78)) H rfl rfl one_33 hc79 (lt_ rfl) fun a H => ?_
          exact Ans.fin H rfl
         ·refine Ans.mk rfl rfl fun a H => s_load (v := (.i l80)) H rfl rfl one_3 hc81 (lt_ rfl) fun a H => ?_
          exact Ans.fin H rfl
         ·intro a H
          replace H := H.weaken (L' := [(43, (.pointer l78)), (44, (.i l80))]) ⟨rfl, rfl, trivial⟩
          refine s_call H rfl body_46 (H.args (vs := [(.pointer l78), (.i l80)]) rfl) (lt_ rfl) h ?_ (fun c w' h H => False.elim h)
          clear H h a
          rintro _ w82 a ⟨S83, rfl, h⟩ H
          refine c_nil <| effQ.go [] H rfl rfl <| Stg.eff [] (by kernel_rfl) rfl .nil ?_
          ·intro a H
           replace H := H.weaken (L' := [(45, (.i S83))]) ⟨rfl, trivial⟩
           refine s_call H rfl body_44 (H.args (vs := [(.string (ByteArray.mk #[115, 121, 110, 99])), (.i S83)]) rfl) (lt_ rfl) h ?_ (fun c w' h H => False.elim h)
           clear H h a
           rintro w85 w84 a ⟨_, rfl, h⟩ H
           refine c_nil <| effQ.go [(7, w85)] H rfl rfl <| Stg.fin [7] (by kernel_rfl) (.cons ?_ .nil) ?_
           ·refine Ans.mk rfl rfl fun a H => s_assign H rfl rfl (lt_ rfl) fun a H => ?_
            exact Ans.fin H rfl
           ·intro a H
            replace H := H.weaken (L' := [(3, (.pointer (some (blk b5)))), (7, (.pointer (some (blk b18)))), (8, (.pointer (some (blk b25)))), (11, w85)]) ⟨rfl, rfl, rfl, rfl, trivial⟩
            refine hK73 _ _ <| c_seq fun K86 hK86 => c_reg <| s_move H rfl rfl (lt_ rfl) fun a H => ?_
            obtain ⟨n88, h87, h⟩ := h
            refine s_bin H rfl rfl rfl (r_neN ifc_83 h87) (lt_ rfl) fun a H => c_nil <| hK86 _ _ <| c_cond H rfl (fun h89 => ?_) (fun h89 => ?_)
            ·replace h := h.1 h89
             refine c_seq fun K90 hK90 => c_reg <| s_move H rfl rfl (lt_ rfl) fun a H => s_assign H rfl rfl (lt_ rfl) fun a H => c_nil <| hK90 _ _ <| c_ret ?_
             exact e_retD (k := 6) H rfl rfl (simD_flog_Log_anew_c1 _ _ _ _ _ .returning _ _ h) (by kernel_rfl)
            ·replace h := h.2 h89
             refine c_skip <| hK72 _ _ <| c_seq fun K91 hK91 => c_seq fun K92 hK92 => ?_
             replace H := H.weaken (L' := [(3, (.pointer (some (blk b5)))), (7, (.pointer (some (blk b18)))), (8, (.pointer (some (blk b25))))]) ⟨rfl, rfl, rfl, trivial⟩
             obtain ⟨l93, hc94, a95, h96, h⟩ := h
             revert H
             subst h96
             intro H
             obtain ⟨l97, hc98, l99, hc100, h⟩ := h
             refine c_any (V := [(0, (.pointer (some a95))), (1, (.pointer (some a95))), (2, (.pointer (some (a95.add 0)))), (3, (.pointer l97)), (4, (.i l99))]) (⟨[[], [0], [1], [2], [], [3, 4], [5], [0, 1, 2, 3, 4, 5, 6]], [some 50, some 51, some 52, some 53, some 54, some 55, some 56, some 12], [5, 6], [0, 0, 0, 0, 0, 0, 1, 2], [0, 0, 0, 0, 0, 1, 2, 2]⟩ : Rg) [(3, (.pointer (some (blk b5)))), (7, (.pointer (some (blk b18)))), (8, (.pointer (some (blk b25))))] mixed (by kernel_rfl) H ?_
             refine Stg.eff [0, 1, 2, 3, 4] (by kernel_rfl) rfl (.cons ?_ (.cons ?_ (.cons ?_ (.cons ?_ (.cons ?_ .nil))))) ?_
             ·refine Ans.mk rfl rfl fun a H => s_load (v := (.pointer (some a95))) H rfl rfl one_34 hc94 (lt_ rfl) fun a H => ?_
              exact Ans.fin H rfl
             ·refine Ans.mk rfl rfl fun a H => s_nil H rfl rfl (lt_ rfl) fun a H => ?_
              exact Ans.fin H rfl
             ·refine Ans.mk rfl rfl fun a H => s_fld H rfl rfl fld_95_0 (lt_ rfl) fun a H => ?_
              exact Ans.fin H rfl
             ·refine Ans.mk rfl rfl fun a H => s_load (v := (.pointer l97)) H rfl rfl one_33 hc98 (lt_ rfl) fun a H => ?_
              exact Ans.fin H rfl
             ·refine Ans.mk rfl rfl fun a H => s_load (v := (.i l99)) H rfl rfl one_3 hc100 (lt_ rfl) fun a H => ?_
              exact Ans.fin H rfl
             ·intro a H
              replace H := H.weaken (L' := [(53, (.pointer l97)), (54, (.i l99))]) ⟨rfl, rfl, trivial⟩
              refine s_call H rfl body_66 (H.args (vs := [(.pointer l97), (.i l99)]) rfl) (lt_ rfl) h ?_ (fun c w' h H => False.elim h)
              clear H h a
              rintro _ w101 a ⟨S102, rfl, h⟩ H
              refine c_nil <| effQ.go [] H rfl rfl <| Stg.eff [] (by kernel_rfl) rfl .nil ?_
              ·intro a H
               replace H := H.weaken (L' := [(55, (.i S102))]) ⟨rfl, trivial⟩
               refine s_call H rfl body_44 (H.args (vs := [(.string (ByteArray.mk #[115, 119, 105, 116, 99, 104])), (.i S102)]) rfl) (lt_ rfl) h ?_ (fun c w' h H => False.elim h)
               clear H h a
               rintro w104 w103 a ⟨_, rfl, h⟩ H
               refine c_nil <| effQ.go [(7, w104)] H rfl rfl <| Stg.fin [7] (by kernel_rfl) (.cons ?_ .nil) ?_
               ·refine Ans.mk rfl rfl fun a H => s_assign H rfl rfl (lt_ rfl) fun a H => ?_
                exact Ans.fin H rfl
               ·intro a H
                replace H := H.weaken (L' := [(8, (.pointer (some (blk b25)))), (12, w104)]) ⟨rfl, rfl, trivial⟩
                refine hK92 _ _ <| c_seq fun K105 hK105 => c_reg <| s_move H rfl rfl (lt_ rfl) fun a H => ?_
                obtain ⟨n107, h106, h⟩ := h
                refine s_bin H rfl rfl rfl (r_neN ifc_83 h106) (lt_ rfl) fun a H => c_nil <| hK105 _ _ <| c_cond H rfl (fun h108 => ?_) (fun h108 => ?_)
                ·replace h := h.1 h108
                 refine c_seq fun K109 hK109 => c_reg <| s_move H rfl rfl (lt_ rfl) fun a H => s_assign H rfl rfl (lt_ rfl) fun a H => c_nil <| hK109 _ _ <| c_ret ?_
                 exact e_retD (k := 6) H rfl rfl (simD_flog_Log_anew_c1 _ _ _ _ _ .returning _ _ h) (by kernel_rfl)
                ·replace h := h.2 h108
                 refine c_skip <| hK91 _ _ <| c_seq fun K110 hK110 => c_reg ?_
                 obtain ⟨h112, h113, h⟩ := h
                 refine s_sto (p := blk b25) (v := (.bool true)) H rfl rfl rfl rfl one_4 rfl h112 h113 ?_
                 clear H
                 intro H
                 generalize hww111 : World.setCell w103 (blk b25) (.bool true) = w111 at h ⊢
                 have w111S : SetAt w103 (blk b25) (.bool true) w111 := ⟨hww111.symm⟩
                 clear hww111 h112 h113
                 refine c_nil <| hK110 _ _ <| c_seq fun K114 hK114 => c_reg <| s_assign H rfl rfl (lt_ rfl) fun a H => c_nil <| hK114 _ _ <| c_ret ?_
                 exact e_retD (k := 6) H rfl rfl (simD_flog_Log_anew_c1 _ _ _ _ _ .returning _ _ h) (by kernel_rfl)

end Go.Proofs.YtflcdgkckfcofaaGreatDoor
