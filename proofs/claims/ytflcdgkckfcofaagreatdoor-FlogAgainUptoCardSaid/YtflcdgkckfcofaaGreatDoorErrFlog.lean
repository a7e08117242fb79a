/-
  errors.As at nil and at an error of the program's own that wraps a number. After the kit's worked examples of these two.
-/
import Derived.Test.YtflcdgkckfcofaaGreatDoorRecAll
import Derived.Test.YtflcdgkckfcofaaGreatDoorSep
import Derived.Stop.Asserts
import Derived.RowKitTokens
namespace Go.Proofs.YtflcdgkckfcofaaGreatDoor
open Go Go.Vc Go.RowKit Go.Extern.Stop Go.Stop Go.Extern
/-! ## Closed facts -/
theorem ext_call {f : FuncId} {fn : Func} {F : Array Value → Sem Value} (hf : PP.funcs[f]? = some fn) (hname : (fn.name == "runtime.NumGoroutine") = false) (hb : fn.body.isNone = true) (hn : Extern.findNext fn = none) (he : Extern.find fn = some F)
    {args : Array Value} {w w' : World} {v : Value} (h : (F args).run PP w = .ok v w') : (callFunc f args).run PP w = .ok (.value v) w' := by
  rw [run_callFunc_extern hf hname hb hn he, h]; rfl
def ex51 : Array Value → Sem Value := fun args => ReflectliteValue.unpack (args.getD 0 (.tuple #[]))
def ex52 : Array Value → Sem Value := ReflectliteValue.methodAny (ReflectliteValue.valueError "reflectlite.Value.Type" 0) fun t _ _ _ => ReflectliteType.toType t
def ex53 : Array Value → Sem Value := ReflectliteValue.method (ReflectliteValue.valueError "reflectlite.Value.IsNil" 0) ReflectliteValue.isNil
def ex66 : Array Value → Sem Value := ReflectliteValue.method (ReflectliteValue.valueError "reflectlite.Value.Elem" 0) ReflectliteValue.elem
def ex82 : Array Value → Sem Value := ReflectliteType.abiMethod fun t => do pure (.int .u8 (← Rtype.kind t))
def ex90 : Array Value → Sem Value := ReflectliteType.relation "AssignableTo" ReflectliteType.assignableTo
def ex92 : Array Value → Sem Value := ReflectliteType.method ReflectliteType.elem
def ex93 : Array Value → Sem Value := ReflectliteType.relation "Implements" ReflectliteType.implements_
theorem ef_typeOf32 (v : Value) (w : World) : (callFunc 145 #[.iface 40 v]).run PP w = .ok (.value (.iface 210 (.agg #[.pointer (some ⟨2, 40, none⟩)]))) w := ext_call (F := ReflectliteType.typeOf) Tryz.func145 (by kernel_rfl) (by kernel_rfl) (by kernel_rfl) (by kernel_rfl) (by kernel_rfl)
theorem ef_typeOf79 (v : Value) (w : World) : (callFunc 145 #[.iface 142 v]).run PP w = .ok (.value (.iface 210 (.agg #[.pointer (some ⟨2, 142, none⟩)]))) w := ext_call (F := ReflectliteType.typeOf) Tryz.func145 (by kernel_rfl) (by kernel_rfl) (by kernel_rfl) (by kernel_rfl) (by kernel_rfl)
theorem ef_valueOf87 (t : Addr) (w : World) : (callFunc 102 #[.iface 131 (.pointer (some t))]).run PP w = .ok (.value (.agg #[.pointer (some ⟨2, 131, none⟩), .pointer (some ⟨w.heap.size, 0, none⟩), .int .u64 150])) (w.alloc (.cells #[.pointer (some t)] 131)) := ext_call (F := ex51) Tryz.func102 (by kernel_rfl) (by kernel_rfl) (by kernel_rfl) (by kernel_rfl) (by kernel_rfl)
theorem ef_valueOf32 (e : Int) (w : World) : (callFunc 102 #[.iface 40 (.int .i64 e)]).run PP w = .ok (.value (.agg #[.pointer (some ⟨2, 40, none⟩), .pointer (some ⟨w.heap.size, 0, none⟩), .int .u64 130])) (w.alloc (.cells #[.int .i64 e] 40)) := ext_call (F := ex51) Tryz.func102 (by kernel_rfl) (by kernel_rfl) (by kernel_rfl) (by kernel_rfl) (by kernel_rfl)
theorem ef_type87 (a : Addr) (w : World) : (callFunc 103 #[.agg #[.pointer (some ⟨2, 131, none⟩), .pointer (some a), .int .u64 150]]).run PP w = .ok (.value (.iface 210 (.agg #[.pointer (some ⟨2, 131, none⟩)]))) w := ext_call (F := ex52) Tryz.func103 (by kernel_rfl) (by kernel_rfl) (by kernel_rfl) (by kernel_rfl) (by kernel_rfl)
theorem ef_kind87 (w : World) : (callFunc 197 #[.pointer (some ⟨2, 131, none⟩)]).run PP w = .ok (.value (.int .u8 22)) w := ext_call (F := ex82) Tryz.func197 (by kernel_rfl) (by kernel_rfl) (by kernel_rfl) (by kernel_rfl) (by kernel_rfl)
theorem ef_kind32 (w : World) : (callFunc 197 #[.pointer (some ⟨2, 40, none⟩)]).run PP w = .ok (.value (.int .u8 2)) w := ext_call (F := ex82) Tryz.func197 (by kernel_rfl) (by kernel_rfl) (by kernel_rfl) (by kernel_rfl) (by kernel_rfl)
theorem ef_assign79 (w : World) : (callFunc 207 #[.agg #[.pointer (some ⟨2, 142, none⟩)], .iface 210 (.agg #[.pointer (some ⟨2, 40, none⟩)])]).run PP w = .ok (.value (.bool false)) w := ext_call (F := ex90) Tryz.func207 (by kernel_rfl) (by kernel_rfl) (by kernel_rfl) (by kernel_rfl) (by kernel_rfl)
theorem ef_assign32 (w : World) : (callFunc 207 #[.agg #[.pointer (some ⟨2, 40, none⟩)], .iface 210 (.agg #[.pointer (some ⟨2, 40, none⟩)])]).run PP w = .ok (.value (.bool true)) w := ext_call (F := ex90) Tryz.func207 (by kernel_rfl) (by kernel_rfl) (by kernel_rfl) (by kernel_rfl) (by kernel_rfl)
theorem ef_elem87 (w : World) : (callFunc 209 #[.agg #[.pointer (some ⟨2, 131, none⟩)]]).run PP w = .ok (.value (.iface 210 (.agg #[.pointer (some ⟨2, 40, none⟩)]))) w := ext_call (F := ex92) Tryz.func209 (by kernel_rfl) (by kernel_rfl) (by kernel_rfl) (by kernel_rfl) (by kernel_rfl)
theorem ef_impl32 (w : World) : (callFunc 210 #[.agg #[.pointer (some ⟨2, 40, none⟩)], .iface 210 (.agg #[.pointer (some ⟨2, 83, none⟩)])]).run PP w = .ok (.value (.bool true)) w := ext_call (F := ex93) Tryz.func210 (by kernel_rfl) (by kernel_rfl) (by kernel_rfl) (by kernel_rfl) (by kernel_rfl)
theorem ef_mKind (h : Value) (w : World) : (Go.method 370 210 (.agg #[h]) "Kind").run PP w = .ok (197, h) w := by kernel_rfl
theorem ef_mElem (h : Value) (w : World) : (Go.method 370 210 (.agg #[h]) "Elem").run PP w = .ok (209, .agg #[h]) w := by kernel_rfl
theorem ef_mImpl (h : Value) (w : World) : (Go.method 370 210 (.agg #[h]) "Implements").run PP w = .ok (210, .agg #[h]) w := by kernel_rfl
theorem ef_mAssign (h : Value) (w : World) : (Go.method 370 210 (.agg #[h]) "AssignableTo").run PP w = .ok (207, .agg #[h]) w := by kernel_rfl
theorem ef_hasUnwrap79 (v : Value) (xT : TypeId) (w : World) : (Instr.typeAssert (.iface 142 v) xT 218 true).run PP w = .ok (.tuple #[.iface 142 v, .bool true]) w := run_typeAssert_hasB Tryz.underlying218 (by kernel_rfl) v xT w
theorem ef_noAs79 (v : Value) (xT : TypeId) (w : World) : (Instr.typeAssert (.iface 142 v) xT 215 true).run PP w = .ok (.tuple #[.nilIface, .bool false]) w := run_typeAssert_lacksB Tryz.underlying215 (by kernel_rfl) (by kernel_rfl) v xT w
theorem ef_mUnwrap (v : Value) (w : World) : (Go.method 370 142 v "Unwrap").run PP w = .ok (202, v) w := by kernel_rfl
/-! ## What reads or writes memory -/
theorem rlm (z : Sem Value) (f : TypeId → Addr → Nat → Nat → Sem Value) (v : Value) :
    ReflectliteValue.method z f #[v] = (do match ← ReflectliteValue.parts v with | none => z | some (t, a, fl) => f t a fl (fl % 32)) := rfl
theorem ef_parts87 (a : Addr) (w : World) : (ReflectliteValue.parts (.agg #[.pointer (some ⟨2, 131, none⟩), .pointer (some a), .int .u64 150])).run PP w = .ok (some (131, a, 150)) w := by kernel_rfl
theorem ef_parts32a (a : Addr) (w : World) : (ReflectliteValue.parts (.agg #[.pointer (some ⟨2, 40, none⟩), .pointer (some a), .int .u64 386])).run PP w = .ok (some (40, a, 386)) w := by kernel_rfl
theorem ef_parts32 (a : Addr) (w : World) : (ReflectliteValue.parts (.agg #[.pointer (some ⟨2, 40, none⟩), .pointer (some a), .int .u64 130])).run PP w = .ok (some (40, a, 130)) w := by kernel_rfl
theorem ef_isNil (a p : Addr) (W : World) (ha : W.cell? a = some (.pointer (some p))) : (callFunc 104 #[.agg #[.pointer (some ⟨2, 131, none⟩), .pointer (some a), .int .u64 150]]).run PP W = .ok (.value (.bool false)) W := by
  refine ext_call (F := ex53) Tryz.func104 (by kernel_rfl) (by kernel_rfl) (by kernel_rfl) (by kernel_rfl) ?_
  unfold ex53
  rw [rlm]
  simp only [Sem.run_bind, ef_parts87, Result.andThen]
  simp [ReflectliteValue.isNil, loadVar, isAgg, underlying, Tryz.underlying131, ha, Result.andThen]
theorem ef_elemOf (w : World) : (Rtype.elem? 131).run PP w = .ok (some 40) w := by kernel_rfl
theorem ef_mk (p : Addr) (w : World) : (ReflectliteValue.mk 40 p ReflectliteValue.flagAddr).run PP w = .ok (.agg #[.pointer (some ⟨2, 40, none⟩), .pointer (some p), .int .u64 386]) w := by kernel_rfl
theorem ef_elem (a p : Addr) (W : World) (ha : W.cell? a = some (.pointer (some p))) : (callFunc 146 #[.agg #[.pointer (some ⟨2, 131, none⟩), .pointer (some a), .int .u64 150]]).run PP W = .ok (.value (.agg #[.pointer (some ⟨2, 40, none⟩), .pointer (some p), .int .u64 386])) W := by
  refine ext_call (F := ex66) Tryz.func146 (by kernel_rfl) (by kernel_rfl) (by kernel_rfl) (by kernel_rfl) ?_
  unfold ex66
  rw [rlm]
  simp only [Sem.run_bind, ef_parts87, Result.andThen]
  simp [ReflectliteValue.elem, loadVar, isAgg, underlying, Tryz.underlying131, ha, Result.andThen, ef_elemOf, ef_mk]
theorem rls (v x : Value) : ReflectliteValue.set #[v, x] = (do
    let (some (dst, a, fl), some (src, b, _)) := (← ReflectliteValue.parts v, ← ReflectliteValue.parts x)
      | unsupported (.noEntry "extern/(internal/reflectlite.Value).Set.zeroValue")
    if fl / ReflectliteValue.flagAddr % 2 == 0 then unsupported (.noEntry "extern/(internal/reflectlite.Value).Set.unaddressable")
    let val ← loadVar src b
    if ← Rtype.directlyAssignable dst src then storeVar dst a val
    else if ← Rtype.implements dst src then
      if (← Rtype.kind src) == 20 then
        match val with
        | .nilIface => unsupported (.noEntry "extern/reflectlite: a nil value of one interface type handed on as a value of another")
        | _ => storeVar dst a val
      else storeVar dst a (.iface src val)
    else panicString ("reflectlite.Set: value of type " ++ (← Rtype.spelt src) ++ " is not assignable to type " ++ (← Rtype.spelt dst))
    pure (.tuple #[])) := rfl
theorem ef_direct (w : World) : (Rtype.directlyAssignable 40 40).run PP w = .ok true w := by kernel_rfl
theorem ef_set (ta b : Addr) (e : Int) (old : Value) (W : World) (hb : W.cell? b = some (.int .i64 e)) (ht : W.cell? ta = some old) (hf : W.frozen? ta = false) :
    (callFunc 147 #[.agg #[.pointer (some ⟨2, 40, none⟩), .pointer (some ta), .int .u64 386], .agg #[.pointer (some ⟨2, 40, none⟩), .pointer (some b), .int .u64 130]]).run PP W = .ok (.value (.tuple #[])) (W.setCell ta (.int .i64 e)) := by
  refine ext_call (F := ReflectliteValue.set) Tryz.func147 (by kernel_rfl) (by kernel_rfl) (by kernel_rfl) (by kernel_rfl) ?_
  rw [rls]
  simp only [Sem.run_bind, ef_parts32a, ef_parts32, Result.andThen]
  simp [ReflectliteValue.flagAddr, loadVar, isAgg, underlying, Tryz.underlying40, hb, Result.andThen, ef_direct, storeVar, Value.cells, storeCells, Addr.add]
  rw [run_store PP W ta _ _ (by rfl)]
  simp [ht, hf]
/-! ## errors.Is -/
theorem unwrap_c (b : Nat) (e : Int) (w : World) (hb : w.cell? ⟨b, 1, none⟩ = some (.int .i64 e)) : Calls PP 202 #[.pointer (some ⟨b, 0, none⟩)] w fun ev w' => ev = .returned (.iface 40 (.int .i64 e)) ∧ w' = w := by
  refine sim_flog_fault_Unwrap _ _ _ ?_
  unfold vc_flog_fault_Unwrap
  exact ⟨_, rfl, e, hb, rfl, rfl⟩
/-! ## errors.As -/
theorem as_nil (t : Value) (w : World) : Calls PP 63 #[.nilIface, t] w fun e w' => e = .returned (.bool false) ∧ w' = w := by
  go_enter Tryz.func63, Tryz.ntmps63
  go_wp2
  go_ret
  exact ⟨rfl, rfl⟩
theorem cell_lt {w : World} {p : Addr} {v : Value} (h : w.cell? p = some v) : p.block < w.heap.size := by
  rcases Nat.lt_or_ge p.block w.heap.size with h' | h'
  · exact h'
  · simp [World.cell?, Array.getElem?_eq_none h'] at h
theorem cell_alloc {w : World} {p : Addr} {v : Value} (h : w.cell? p = some v) (o : Obj) : (w.alloc o).cell? p = some v := by
  rw [World.cell?_alloc_lt _ _ p (cell_lt h)]; exact h
abbrev tval (a : Addr) : Value := .agg #[.pointer (some ⟨2, 131, none⟩), .pointer (some a), .int .u64 150]
abbrev tobj (a : Addr) : Obj := .cells #[.pointer (some ⟨2, 131, none⟩), .pointer (some a), .int .u64 150] 167
set_option maxHeartbeats 4000000 in
theorem as2_wrap (b : Nat) (a t : Addr) (e : Int) (old : Value) (w : World) (hb : w.cell? ⟨b, 1, none⟩ = some (.int .i64 e)) (ha : w.cell? a = some (.pointer (some t))) (ht : w.cell? t = some old) (hf : w.frozen? t = false) :
    Calls PP 105 #[.iface 142 (.pointer (some ⟨b, 0, none⟩)), .iface 131 (.pointer (some t)), tval a, .iface 210 (.agg #[.pointer (some ⟨2, 40, none⟩)])] w fun ev w' => ev = .returned (.bool true) ∧ w' = ((w.alloc (tobj a)).alloc (.cells #[.int .i64 e] 40)).setCell t (.int .i64 e) := by
  have t79 := ef_typeOf79
  have t32 := ef_typeOf32
  have mA := ef_mAssign
  have a79 := ef_assign79
  have a32 := ef_assign32
  have nA := ef_noAs79
  have hU := ef_hasUnwrap79
  have mU := ef_mUnwrap
  have v32 := ef_valueOf32
  have el := ef_elem a t (w.alloc (tobj a)) (cell_alloc ha _)
  have htl := cell_lt ht
  have st := ef_set t ⟨w.heap.size + 1, 0, none⟩ e old ((w.alloc (tobj a)).alloc (.cells #[.int .i64 e] 40)) (by rw [World.cell?_alloc_at _ _ _ _ (by simp)]; rfl) (cell_alloc (cell_alloc ht _) _)
    (by rw [World.frozen?_alloc_old _ _ t (by simp; omega), World.frozen?_alloc_old _ _ t (Nat.ne_of_lt htl)]; exact hf)
  go_enter Tryz.func105, Tryz.ntmps105
  go_wp2
  refine wp_loop_rounds 2 ?_
  rw [rounds_succ]
  go_wp2
  refine (unwrap_c b e _ (cell_alloc hb _)).mono ?_
  rintro ev w' ⟨rfl, rfl⟩
  go_wp2
  rw [rounds_succ]
  go_wp2
  go_ret
  exact ⟨rfl, rfl⟩
def ErrG (w : World) : Prop := w.cell? ⟨0, 0, none⟩ = some (.iface 210 (.agg #[.pointer (some ⟨2, 83, none⟩)]))
set_option maxHeartbeats 4000000 in
theorem as_wrap (b : Nat) (t : Addr) (e : Int) (old : Value) (w : World) (hg : ErrG w) (hb : w.cell? ⟨b, 1, none⟩ = some (.int .i64 e)) (ht : w.cell? t = some old) (hf : w.frozen? t = false) :
    Calls PP 63 #[.iface 142 (.pointer (some ⟨b, 0, none⟩)), .iface 131 (.pointer (some t))] w fun ev w' => ev = .returned (.bool true) ∧
      w' = ((((w.alloc (.cells #[.pointer (some t)] 131)).alloc (tobj ⟨w.heap.size, 0, none⟩)).alloc (tobj ⟨w.heap.size, 0, none⟩)).alloc (.cells #[.int .i64 e] 40)).setCell t (.int .i64 e) := by
  have v87 := ef_valueOf87
  have t87 := ef_type87
  have mK := ef_mKind
  have mE := ef_mElem
  have mI := ef_mImpl
  have k87 := ef_kind87
  have k32 := ef_kind32
  have e87 := ef_elem87
  have i32 := ef_impl32
  have ha : (w.alloc (.cells #[.pointer (some t)] 131)).cell? ⟨w.heap.size, 0, none⟩ = some (.pointer (some t)) := by rw [World.cell?_alloc_at _ _ _ _ rfl]; rfl
  have htl := cell_lt ht
  have n8 := ef_isNil ⟨w.heap.size, 0, none⟩ t ((w.alloc (.cells #[.pointer (some t)] 131)).alloc (tobj ⟨w.heap.size, 0, none⟩)) (cell_alloc ha _)
  have hg2 : ((w.alloc (.cells #[.pointer (some t)] 131)).alloc (tobj ⟨w.heap.size, 0, none⟩)).cell? ⟨0, 0, none⟩ = some (.iface 210 (.agg #[.pointer (some ⟨2, 83, none⟩)])) := cell_alloc (cell_alloc hg _) _
  have C := as2_wrap b ⟨w.heap.size, 0, none⟩ t e old ((w.alloc (.cells #[.pointer (some t)] 131)).alloc (tobj ⟨w.heap.size, 0, none⟩)) (cell_alloc (cell_alloc hb _) _) (cell_alloc ha _) (cell_alloc (cell_alloc ht _) _)
    (by rw [World.frozen?_alloc_old _ _ t (by simp; omega), World.frozen?_alloc_old _ _ t (Nat.ne_of_lt htl)]; exact hf)
  go_enter Tryz.func63, Tryz.ntmps63
  go_wp2
  refine C.mono ?_
  rintro ev w' ⟨rfl, rfl⟩
  go_wp2
  go_ret
  exact ⟨rfl, rfl⟩
end Go.Proofs.YtflcdgkckfcofaaGreatDoor
