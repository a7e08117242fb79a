/-
  record.caught: what a function gave up with, or 0.
-/
import Derived.Test.YtflcdgkckfcofaaGreatDoorSums
import Derived.Recover
import Derived.Defers
namespace Go.Vc
open Go
section
variable {P : Program} {ops : Array Oper} {Q : Exit → Act → World → Prop} {rest : List Oper} {a : Act} {w : World} {n : Nat} {ds : List Deferred} {L : List (Nat × Value)} {ty : TypeId} {pos : String} {af : Array Edge} {g : Option (Nat × Bool)}
theorem s_defer {x : Operand} {f : FuncId} {cap : Array Value} (H : Has n ds a L) (hw : Region.wanted ⟨none, .defer ⟨.value x, #[], #[]⟩, ty, pos, af, g⟩ (yielded ops a.tmps) = true) (hx : ev L x = some (.func (.func f) #[] cap))
    (k : ∀ a, Has n ({ target := .fn (.func f) cap, args := #[] } :: ds) a L → wpList P ops Q rest a w) : wpList P ops Q (⟨none, .defer ⟨.value x, #[], #[]⟩, ty, pos, af, g⟩ :: rest) a w := by
  unfold wpList
  rw [if_pos hw]
  refine .inl ?_
  unfold Oper.wp
  have hr : (execOp a.eval ⟨none, .defer ⟨.value x, #[], #[]⟩, ty, pos, af, g⟩).run P w = .ok (.defer { target := .fn (.func f) cap, args := #[] }) w := by
    simp [execOp, resolve, H.eval hx, Deferred.ofValue]
  rw [hr, Oper.upon_defer]
  exact k _ ⟨H.size, by simp [Act.put, H.defers], H.get⟩
theorem enterD {f : FuncId} {fn : Func} {c : Code} {l : List Value} {R : Ending → World → Prop} (hf : P.funcs[f]? = some fn) (hb : fn.body = some c) {n : Nat} (hn : fn.ntmps = n) (hl : l.length ≤ n)
    (h : ∀ a, Has n [] a (number 0 l) → c.wp P (bodyPostD P fn R) a w) : Calls P f l.toArray w R := by
  refine calls_of_wp_defers hf hb (h _ ⟨?_, rfl, ?_⟩)
  · simp [hn]; omega
  · intro t v hv
    obtain ⟨_, h2⟩ := get_number l 0 t v hv
    have hlt := (List.getElem?_eq_some_iff.1 h2).1
    rw [Nat.sub_zero] at h2
    simp only [Nat.sub_zero] at hlt
    rw [Array.getElem?_append_left (by simpa using hlt)]
    simpa using h2
theorem gen_act {c : Code} {n : Nat} (h : ∀ a, Has n [] a L → c.wp P Q a w) (H : Has n [] a L) : c.wp P Q a w := h a H
theorem s_assertB {x : Operand} {t1 t2 : TypeId} {v u : Value} {d : Nat} {w : World} (H : Has n ds a L) (hw : Region.wanted ⟨some d, .typeAssert x t1 t2 true, ty, pos, af, g⟩ (yielded ops a.tmps) = true) (hx : ev L x = some v)
    (hr : (Instr.typeAssert v t1 t2 true).run P w = .ok u w) (hd : d < n) (k : ∀ a, Has n ds a ((d, u) :: L) → wpList P ops Q rest a w) : wpList P ops Q (⟨some d, .typeAssert x t1 t2 true, ty, pos, af, g⟩ :: rest) a w :=
  s_run H hw rfl hd (by simp [execOp, H.eval hx, hr]) k
end
end Go.Vc
namespace Go.Proofs.YtflcdgkckfcofaaGreatDoor
open Go Go.Vc

theorem errno_assert (v : Value) (w : World) : (Instr.typeAssert (.iface Ty_api_Errno v) 20 Ty_api_Errno true).run PP w = .ok (.tuple #[v, .bool true]) w := by kernel_rfl
def ent (n : Int) : PanicEntry := { v := .iface Ty_api_Errno (.int .i64 n), recovered := false }
theorem neq_nil (x y : Operand) (n : Int) : RB PP .neq 20 x y (.iface Ty_api_Errno (.int .i64 n)) .nilIface (.bool true) := by intro w; kernel_rfl
theorem eq_nil0 (w : World) : (Op.equalIn Op.maxDepth 20 .nilIface .nilIface).run PP w = .ok true w := by kernel_rfl
theorem neq_nil0 : RB PP .neq 20 (.tmp 5) (.const .nilIface) .nilIface .nilIface (.bool false) := by intro w; simp [binOp, eqGuard, Op.equal, eq_nil0]
theorem errno_one : oneB PP Ty_api_Errno = true := by kernel_rfl
set_option maxRecDepth 100000 in
theorem catch_panicking (b : Nat) (n x : Int) (w : World) (hB : Blk w b Ty_api_Errno #[.int .i64 x]) :
    CallsD PP F_record_caught_c1 #[.pointer (some (blk b))] (.panicking [ent n]) w fun e u' w' =>
      e = .returned (.tuple #[]) ∧ u' = .panicking [{ ent n with recovered := true }] ∧ Blk w' b Ty_api_Errno #[.int .i64 n] ∧ Fr [b] w w' := by
  refine callsD_of_wpS Tryz.func136 rfl fun c₀ cs hu => ?_
  apply wpS_seq
  apply wpS_region
  simp [wpOpsS, go_sem, recoverD, hu, Tryz.ntmps136, Exit.thenS, ent]
  refine wpS_of_wp ?_
  refine gen_act (n := 16) (L := [(0, .pointer (some (blk b))), (1, .iface Ty_api_Errno (.int .i64 n))]) (fun a H => ?_) ⟨by simp, rfl, ?_⟩
  rotate_left
  · intro t v h
    rcases t with _ | _ | t
    · have h : some (Value.pointer (some (blk b))) = some v := h
      simpa using h
    · have h : some (Value.iface Ty_api_Errno (.int .i64 n)) = some v := h
      simpa [Array.getElem?_append] using h
    · have h : (none : Option Value) = some v := h
      cases h
  refine c_seq fun K1 hK1 => ?_
  refine c_reg ?_
  refine s_move H rfl rfl (lt_ rfl) ?_
  clear H a; intro a H
  refine s_bin H rfl rfl rfl (neq_nil _ _ n) (lt_ rfl) ?_
  clear H a; intro a H
  refine c_nil ?_
  refine hK1 _ _ ?_
  refine c_cond H rfl (fun _ => ?_) (fun h => by cases h)
  refine c_seq fun K2 hK2 => ?_
  refine c_reg ?_
  refine s_move H rfl rfl (lt_ rfl) ?_
  clear H a; intro a H
  refine s_assertB H rfl rfl (errno_assert _ _) (lt_ rfl) ?_
  clear H a; intro a H
  refine s_move H rfl rfl (lt_ rfl) ?_
  clear H a; intro a H
  refine s_ext H rfl rfl rfl (lt_ rfl) ?_
  clear H a; intro a H
  refine s_ext H rfl rfl rfl (lt_ rfl) ?_
  clear H a; intro a H
  refine s_assign H rfl rfl (lt_ rfl) ?_
  clear H a; intro a H
  refine s_assign H rfl rfl (lt_ rfl) ?_
  clear H a; intro a H
  refine c_nil ?_
  refine hK2 _ _ ?_
  refine c_seq fun K3 hK3 => ?_
  refine c_seq fun K4 hK4 => ?_
  refine c_reg ?_
  refine s_move H rfl rfl (lt_ rfl) ?_
  clear H a; intro a H
  refine s_un H rfl rfl r_not (lt_ rfl) ?_
  clear H a; intro a H
  refine c_nil ?_
  refine hK4 _ _ ?_
  refine c_cond H rfl (fun h => by cases h) (fun _ => ?_)
  refine c_skip ?_
  refine hK3 _ _ ?_
  refine c_reg ?_
  refine s_move H rfl rfl (lt_ rfl) ?_
  clear H a; intro a H
  have hs : w.cell? (blk b) = some (.int .i64 x) := hB.cell (i := 0) rfl
  refine s_sto (p := blk b) (v := .int .i64 n) H rfl rfl rfl rfl errno_one rfl (by rw [hs]; rfl) (hB.frz 0) ?_
  clear H; intro H
  refine c_nil ?_
  have hf : Fr [b] w (w.setCell (blk b) (.int .i64 n)) := Fr.set w (blk b) _
  refine ⟨H.defers, _, rfl, .tuple #[], ?_, rfl, rfl, hB.set 0 _, hf⟩
  simp [results, Tryz.results136]
set_option maxRecDepth 100000 in
theorem catch_idle (b : Nat) (w : World) : CallsD PP F_record_caught_c1 #[.pointer (some (blk b))] .returning w fun e u' w' => e = .returned (.tuple #[]) ∧ u' = .returning ∧ w' = w := by
  refine callsD_of_wpS Tryz.func136 rfl fun c₀ cs hu => ?_
  apply wpS_seq
  apply wpS_region
  simp [wpOpsS, go_sem, recoverD, hu, Tryz.ntmps136, Exit.thenS]
  refine wpS_of_wp ?_
  refine gen_act (n := 16) (L := [(1, .nilIface)]) (fun a H => ?_) ⟨by simp, rfl, ?_⟩
  rotate_left
  · intro t v h
    rcases t with _ | _ | t
    · have h : (none : Option Value) = some v := h
      cases h
    · have h : some Value.nilIface = some v := h
      simpa [Array.getElem?_append] using h
    · have h : (none : Option Value) = some v := h
      cases h
  refine c_seq fun K1 hK1 => ?_
  refine c_reg ?_
  refine s_move H rfl rfl (lt_ rfl) ?_
  clear H a; intro a H
  refine s_bin H rfl rfl rfl neq_nil0 (lt_ rfl) ?_
  clear H a; intro a H
  refine c_nil ?_
  refine hK1 _ _ ?_
  refine c_cond H rfl (fun h => by cases h) (fun _ => ?_)
  refine c_skip ?_
  have hc : c₀ = { c₀ with mode := .returning } := by cases c₀; simp_all
  refine ⟨H.defers, .returning, by rw [← hc], .tuple #[], ?_, rfl, rfl, rfl⟩
  simp [results, Tryz.results136]
theorem caught_c {f : FuncId} {cap : Array Value} {w : World} {K : Nat → Int → World → Prop} {R : Int → World → Prop} (hb : bodyB PP f = true)
    (h : ∀ b w1, NewBlk w #[.int .i64 0] Ty_api_Errno b w1 → Calls PP f cap w1 fun
      | .returned _, w' => Blk w' b Ty_api_Errno #[.int .i64 0] ∧ K b 0 w'
      | .panicked c, w' => ∃ n, c = [ent n] ∧ Blk w' b Ty_api_Errno #[.int .i64 0] ∧ K b n w'
      | .outgrown, _ => False)
    (hK : ∀ b n w' w'', w.heap.size ≤ b → K b n w' → Fr [b] w' w'' → R n w'') : Calls PP F_record_caught #[.func (.func f) #[] cap] w (Rt fun v w' => ∃ n, v = .int .i64 n ∧ R n w') := by
  refine enterD (n := 6) (l := [.func (.func f) #[] cap]) Tryz.func97 rfl rfl (Nat.le_of_ble_eq_true rfl) fun a H => ?_
  refine c_seq fun K1 hK1 => ?_
  refine c_reg ?_
  refine s_alloc H rfl (v := .int .i64 0) (by unfold zeroB; kernel_rfl) (lt_ rfl) ?_
  clear H a; intro a H
  have nb : NewBlk w #[.int .i64 0] Ty_api_Errno w.heap.size (w.alloc (.cells (Value.int .i64 0).cells Ty_api_Errno)) := ⟨rfl, rfl⟩
  generalize w.alloc (.cells (Value.int .i64 0).cells Ty_api_Errno) = w1 at nb ⊢
  refine c_nil ?_
  refine hK1 _ _ ?_
  refine c_seq fun K2 hK2 => ?_
  refine c_reg ?_
  refine s_mkf H rfl (H.args (vs := [.pointer (some (blk w.heap.size))]) rfl) (lt_ rfl) ?_
  clear H a; intro a H
  refine s_defer H rfl rfl ?_
  clear H a; intro a H
  refine c_nil ?_
  refine hK2 _ _ ?_
  refine c_seq fun K3 hK3 => ?_
  refine c_reg ?_
  refine s_move H rfl rfl (lt_ rfl) ?_
  clear H a; intro a H
  refine s_callV (K := fun _ w' => Blk w' w.heap.size Ty_api_Errno #[.int .i64 0] ∧ K w.heap.size 0 w') (Kp := fun c w' => ∃ n, c = [ent n] ∧ Blk w' w.heap.size Ty_api_Errno #[.int .i64 0] ∧ K w.heap.size n w') H rfl rfl (H.args (vs := []) rfl) (lt_ rfl) ⟨f, cap, rfl, hb, ?_⟩ ?_ ?_
  · have h1 := h _ _ nb
    have e : (([] : List Value).toArray ++ cap) = cap := by simp
    rw [e]
    refine h1.mono ?_
    rintro (v | c | _) w' hx <;> exact hx
  · clear H a
    rintro v w2 a ⟨hB, hk⟩ H
    refine c_nil ?_
    refine hK3 _ _ ?_
    refine c_seq fun K4 hK4 => ?_
    refine c_reg ?_
    have hs : w2.cell? (blk w.heap.size) = some (.int .i64 0) := hB.cell (i := 0) rfl
    refine s_sto (p := blk w.heap.size) (v := .int .i64 0) H rfl rfl rfl rfl errno_one rfl (by rw [hs]; rfl) (hB.frz 0) ?_
    clear H; intro H
    refine c_nil ?_
    refine hK4 _ _ ?_
    refine c_ret ?_
    have hB2 := hB.set 0 (.int .i64 0)
    have hf : Fr [w.heap.size] w2 (w2.setCell (blk w.heap.size) (.int .i64 0)) := Fr.set w2 (blk w.heap.size) _
    show Leaves PP Tryz.f97 a.tmps _ a.defers .returning _
    rw [H.defers]
    refine leaves_cons (f := F_record_caught_c1) (args := #[.pointer (some (blk w.heap.size))]) (by simp) (by simp [invoke] <;> exact run_callFunc (by kernel_rfl)) ?_
    refine (catch_idle w.heap.size _).mono ?_
    rintro e u' w3 ⟨rfl, rfl, rfl⟩
    refine ⟨.int .i64 0, ?_, Rt.ok ⟨0, rfl, hK _ _ _ _ (Nat.le_refl _) hk hf⟩⟩
    rw [results_eq, show Tryz.f97.results = #[.cell 2 Ty_api_Errno] from Tryz.results97]
    have hr := run_rv (P := PP) (r := .cell 2 Ty_api_Errno) (v := .int .i64 0) H ⟨blk w.heap.size, rfl, run_load1 errno_one (hB2.cell (i := 0) rfl)⟩
    simp
    exact hr
  · rintro c w2 ⟨n, rfl, hB, hk⟩ H
    show Leaves PP Tryz.f97 a.tmps _ a.defers (.panicking _) _
    rw [H.defers]
    refine leaves_cons (f := F_record_caught_c1) (args := #[.pointer (some (blk w.heap.size))]) (by simp) (by simp [invoke] <;> exact run_callFunc (by kernel_rfl)) ?_
    refine (catch_panicking w.heap.size n 0 _ hB).mono ?_
    rintro e u' w3 ⟨rfl, rfl, hB3, hf⟩
    refine ⟨.int .i64 n, ?_, Rt.ok ⟨n, rfl, hK _ _ _ _ (Nat.le_refl _) hk hf⟩⟩
    rw [results_eq, show Tryz.f97.results = #[.cell 2 Ty_api_Errno] from Tryz.results97]
    have hr := run_rv (P := PP) (r := .cell 2 Ty_api_Errno) (v := .int .i64 n) H ⟨blk w.heap.size, rfl, run_load1 errno_one (hB3.cell (i := 0) rfl)⟩
    simp [hr]
end Go.Proofs.YtflcdgkckfcofaaGreatDoor
