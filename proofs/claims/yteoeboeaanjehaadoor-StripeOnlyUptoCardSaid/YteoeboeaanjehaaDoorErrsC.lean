/-
  errors.Is and errors.As at the errors of the package stripe: nil, and a refusal (a number of the program's own, wrapped once). After the kit's worked examples of these two.
-/
import Derived.Test.YteoeboeaanjehaaDoorRecAll
import Derived.Test.YteoeboeaanjehaaDoorSep
import Derived.LaidEql
import Derived.Stop.Asserts
import Derived.RowKitTokens
namespace Go
section
variable {P : Program} (w : World)
theorem run_equalIn_iface_int (d : Nat) {ti tn : TypeId} {ms : Array (String × TypeId)} {i : TypeInfo} {k : IntKind} (a b : Int)
    (hi : P.underlying ti = some (.interface ms)) (hn : P.underlying tn = some (.int k)) (hinfo : P.info? tn = some i) (hcomp : i.comparable = true) :
    (Op.equalIn (d + 2) ti (.iface tn (.int k a)) (.iface tn (.int k b))).run P w = .ok (a == b) w := by
  simp [Op.equalIn, run_underlying hi, run_underlying hn, typeInfo, hinfo, hcomp]
/-- Two errors of one integer type: as the numbers are. -/
theorem run_eql_iface_int {ti tn : TypeId} {ms : Array (String × TypeId)} {i : TypeInfo} {k : IntKind} (a b : Int)
    (hi : P.underlying ti = some (.interface ms)) (hn : P.underlying tn = some (.int k)) (hinfo : P.info? tn = some i) (hcomp : i.comparable = true) :
    (binOp .eql ti (.iface tn (.int k a)) (.iface tn (.int k b))).run P w = .ok (.bool (a == b)) w := by
  simp only [binOp]
  simp [Op.equal, Op.maxDepth, run_equalIn_iface_int w 9998 a b hi hn hinfo hcomp]
end
end Go
namespace Go.Proofs.YteoeboeaanjehaaDoor
open Go Go.Vc Go.RowKit Go.Extern.Stop Go.Stop Go.Extern
/-! ## Closed facts -/
theorem ext_call {f : FuncId} {fn : Func} {F : Array Value → Sem Value} (hf : PP.funcs[f]? = some fn) (hname : (fn.name == "runtime.NumGoroutine") = false) (hb : fn.body.isNone = true) (hn : Extern.findNext fn = none) (he : Extern.find fn = some F)
    {args : Array Value} {w w' : World} {v : Value} (h : (F args).run PP w = .ok v w') : (callFunc f args).run PP w = .ok (.value v) w' := by
  rw [run_callFunc_extern hf hname hb hn he, h]; rfl
def ex51 : Array Value → Sem Value := fun args => ReflectliteValue.unpack (args.getD 0 (.tuple #[]))
def ex52 : Array Value → Sem Value := ReflectliteValue.methodAny (ReflectliteValue.valueError "reflectlite.Value.Type" 0) fun t _ _ _ => ReflectliteType.toType t
def ex53 : Array Value → Sem Value := ReflectliteValue.method (ReflectliteValue.valueError "reflectlite.Value.IsNil" 0) ReflectliteValue.isNil
def ex66 : Array Value → Sem Value := ReflectliteValue.method (ReflectliteValue.valueError "reflectlite.Value.Elem" 0) ReflectliteValue.elem
def ex82 : Array Value → Sem Value := ReflectliteType.abiMethod fun t => do pure (.int .u8 (← Rtype.kind t))
def ex90 : Array Value → Sem Value := ReflectliteType.relation "AssignableTo" ReflectliteType.assignableTo
def ex91 : Array Value → Sem Value := ReflectliteType.method fun t => do Rtype.noPackHeld "Comparable" t; pure (.bool (← typeInfo t).comparable)
def ex92 : Array Value → Sem Value := ReflectliteType.method ReflectliteType.elem
def ex93 : Array Value → Sem Value := ReflectliteType.relation "Implements" ReflectliteType.implements_
theorem ef_typeOf32 (v : Value) (w : World) : (callFunc 33 #[.iface 32 v]).run PP w = .ok (.value (.iface 107 (.agg #[.pointer (some ⟨1, 32, none⟩)]))) w := ext_call (F := ReflectliteType.typeOf) Tryd.func33 (by kernel_rfl) (by kernel_rfl) (by kernel_rfl) (by kernel_rfl) (by kernel_rfl)
theorem ef_typeOf79 (v : Value) (w : World) : (callFunc 33 #[.iface 79 v]).run PP w = .ok (.value (.iface 107 (.agg #[.pointer (some ⟨1, 79, none⟩)]))) w := ext_call (F := ReflectliteType.typeOf) Tryd.func33 (by kernel_rfl) (by kernel_rfl) (by kernel_rfl) (by kernel_rfl) (by kernel_rfl)
theorem ef_comparable (w : World) : (callFunc 91 #[.agg #[.pointer (some ⟨1, 32, none⟩)]]).run PP w = .ok (.value (.bool true)) w := ext_call (F := ex91) Tryd.func91 (by kernel_rfl) (by kernel_rfl) (by kernel_rfl) (by kernel_rfl) (by kernel_rfl)
theorem ef_valueOf87 (t : Addr) (w : World) : (callFunc 51 #[.iface 87 (.pointer (some t))]).run PP w = .ok (.value (.agg #[.pointer (some ⟨1, 87, none⟩), .pointer (some ⟨w.heap.size, 0, none⟩), .int .u64 150])) (w.alloc (.cells #[.pointer (some t)] 87)) := ext_call (F := ex51) Tryd.func51 (by kernel_rfl) (by kernel_rfl) (by kernel_rfl) (by kernel_rfl) (by kernel_rfl)
theorem ef_valueOf32 (e : Int) (w : World) : (callFunc 51 #[.iface 32 (.int .i64 e)]).run PP w = .ok (.value (.agg #[.pointer (some ⟨1, 32, none⟩), .pointer (some ⟨w.heap.size, 0, none⟩), .int .u64 130])) (w.alloc (.cells #[.int .i64 e] 32)) := ext_call (F := ex51) Tryd.func51 (by kernel_rfl) (by kernel_rfl) (by kernel_rfl) (by kernel_rfl) (by kernel_rfl)
theorem ef_type87 (a : Addr) (w : World) : (callFunc 52 #[.agg #[.pointer (some ⟨1, 87, none⟩), .pointer (some a), .int .u64 150]]).run PP w = .ok (.value (.iface 107 (.agg #[.pointer (some ⟨1, 87, none⟩)]))) w := ext_call (F := ex52) Tryd.func52 (by kernel_rfl) (by kernel_rfl) (by kernel_rfl) (by kernel_rfl) (by kernel_rfl)
theorem ef_kind87 (w : World) : (callFunc 82 #[.pointer (some ⟨1, 87, none⟩)]).run PP w = .ok (.value (.int .u8 22)) w := ext_call (F := ex82) Tryd.func82 (by kernel_rfl) (by kernel_rfl) (by kernel_rfl) (by kernel_rfl) (by kernel_rfl)
theorem ef_kind32 (w : World) : (callFunc 82 #[.pointer (some ⟨1, 32, none⟩)]).run PP w = .ok (.value (.int .u8 2)) w := ext_call (F := ex82) Tryd.func82 (by kernel_rfl) (by kernel_rfl) (by kernel_rfl) (by kernel_rfl) (by kernel_rfl)
theorem ef_assign79 (w : World) : (callFunc 90 #[.agg #[.pointer (some ⟨1, 79, none⟩)], .iface 107 (.agg #[.pointer (some ⟨1, 32, none⟩)])]).run PP w = .ok (.value (.bool false)) w := ext_call (F := ex90) Tryd.func90 (by kernel_rfl) (by kernel_rfl) (by kernel_rfl) (by kernel_rfl) (by kernel_rfl)
theorem ef_assign32 (w : World) : (callFunc 90 #[.agg #[.pointer (some ⟨1, 32, none⟩)], .iface 107 (.agg #[.pointer (some ⟨1, 32, none⟩)])]).run PP w = .ok (.value (.bool true)) w := ext_call (F := ex90) Tryd.func90 (by kernel_rfl) (by kernel_rfl) (by kernel_rfl) (by kernel_rfl) (by kernel_rfl)
theorem ef_elem87 (w : World) : (callFunc 92 #[.agg #[.pointer (some ⟨1, 87, none⟩)]]).run PP w = .ok (.value (.iface 107 (.agg #[.pointer (some ⟨1, 32, none⟩)]))) w := ext_call (F := ex92) Tryd.func92 (by kernel_rfl) (by kernel_rfl) (by kernel_rfl) (by kernel_rfl) (by kernel_rfl)
theorem ef_impl32 (w : World) : (callFunc 93 #[.agg #[.pointer (some ⟨1, 32, none⟩)], .iface 107 (.agg #[.pointer (some ⟨1, 57, none⟩)])]).run PP w = .ok (.value (.bool true)) w := ext_call (F := ex93) Tryd.func93 (by kernel_rfl) (by kernel_rfl) (by kernel_rfl) (by kernel_rfl) (by kernel_rfl)
theorem ef_mComparable (v : Value) (w : World) : (Go.method 276 107 v "Comparable").run PP w = .ok (91, v) w := by kernel_rfl
theorem ef_mKind (h : Value) (w : World) : (Go.method 276 107 (.agg #[h]) "Kind").run PP w = .ok (82, h) w := by kernel_rfl
theorem ef_mElem (h : Value) (w : World) : (Go.method 276 107 (.agg #[h]) "Elem").run PP w = .ok (92, .agg #[h]) w := by kernel_rfl
theorem ef_mImpl (h : Value) (w : World) : (Go.method 276 107 (.agg #[h]) "Implements").run PP w = .ok (93, .agg #[h]) w := by kernel_rfl
theorem ef_mAssign (h : Value) (w : World) : (Go.method 276 107 (.agg #[h]) "AssignableTo").run PP w = .ok (90, .agg #[h]) w := by kernel_rfl
theorem ef_comp32 : (PP.info? 32).map (·.comparable) = some true := by kernel_rfl
theorem ef_noIs79 (v : Value) (xT : TypeId) (w : World) : (Instr.typeAssert (.iface 79 v) xT 109 true).run PP w = .ok (.tuple #[.nilIface, .bool false]) w := run_typeAssert_lacksB Tryd.underlying109 (by kernel_rfl) (by kernel_rfl) v xT w
theorem ef_noIs32 (v : Value) (xT : TypeId) (w : World) : (Instr.typeAssert (.iface 32 v) xT 109 true).run PP w = .ok (.tuple #[.nilIface, .bool false]) w := run_typeAssert_lacksB Tryd.underlying109 (by kernel_rfl) (by kernel_rfl) v xT w
theorem ef_noUnwrap32 (v : Value) (xT : TypeId) (w : World) : (Instr.typeAssert (.iface 32 v) xT 112 true).run PP w = .ok (.tuple #[.nilIface, .bool false]) w := run_typeAssert_lacksB Tryd.underlying112 (by kernel_rfl) (by kernel_rfl) v xT w
theorem ef_noUnwraps32 (v : Value) (xT : TypeId) (w : World) : (Instr.typeAssert (.iface 32 v) xT 114 true).run PP w = .ok (.tuple #[.nilIface, .bool false]) w := run_typeAssert_lacksB Tryd.underlying114 (by kernel_rfl) (by kernel_rfl) v xT w
theorem ef_hasUnwrap79 (v : Value) (xT : TypeId) (w : World) : (Instr.typeAssert (.iface 79 v) xT 112 true).run PP w = .ok (.tuple #[.iface 79 v, .bool true]) w := run_typeAssert_hasB Tryd.underlying112 (by kernel_rfl) v xT w
theorem ef_noAs79 (v : Value) (xT : TypeId) (w : World) : (Instr.typeAssert (.iface 79 v) xT 144 true).run PP w = .ok (.tuple #[.nilIface, .bool false]) w := run_typeAssert_lacksB Tryd.underlying144 (by kernel_rfl) (by kernel_rfl) v xT w
theorem ef_mUnwrap (v : Value) (w : World) : (Go.method 276 79 v "Unwrap").run PP w = .ok (88, v) w := by kernel_rfl
/-! ## What reads or writes memory -/
theorem rlm (z : Sem Value) (f : TypeId → Addr → Nat → Nat → Sem Value) (v : Value) :
    ReflectliteValue.method z f #[v] = (do match ← ReflectliteValue.parts v with | none => z | some (t, a, fl) => f t a fl (fl % 32)) := rfl
theorem ef_parts87 (a : Addr) (w : World) : (ReflectliteValue.parts (.agg #[.pointer (some ⟨1, 87, none⟩), .pointer (some a), .int .u64 150])).run PP w = .ok (some (87, a, 150)) w := by kernel_rfl
theorem ef_parts32a (a : Addr) (w : World) : (ReflectliteValue.parts (.agg #[.pointer (some ⟨1, 32, none⟩), .pointer (some a), .int .u64 386])).run PP w = .ok (some (32, a, 386)) w := by kernel_rfl
theorem ef_parts32 (a : Addr) (w : World) : (ReflectliteValue.parts (.agg #[.pointer (some ⟨1, 32, none⟩), .pointer (some a), .int .u64 130])).run PP w = .ok (some (32, a, 130)) w := by kernel_rfl
theorem ef_isNil (a p : Addr) (W : World) (ha : W.cell? a = some (.pointer (some p))) : (callFunc 53 #[.agg #[.pointer (some ⟨1, 87, none⟩), .pointer (some a), .int .u64 150]]).run PP W = .ok (.value (.bool false)) W := by
  refine ext_call (F := ex53) Tryd.func53 (by kernel_rfl) (by kernel_rfl) (by kernel_rfl) (by kernel_rfl) ?_
  unfold ex53
  rw [rlm]
  simp only [Sem.run_bind, ef_parts87, Result.andThen]
  simp [ReflectliteValue.isNil, loadVar, isAgg, underlying, Tryd.underlying87, ha, Result.andThen]
theorem ef_elemOf (w : World) : (Rtype.elem? 87).run PP w = .ok (some 32) w := by kernel_rfl
theorem ef_mk (p : Addr) (w : World) : (ReflectliteValue.mk 32 p ReflectliteValue.flagAddr).run PP w = .ok (.agg #[.pointer (some ⟨1, 32, none⟩), .pointer (some p), .int .u64 386]) w := by kernel_rfl
theorem ef_elem (a p : Addr) (W : World) (ha : W.cell? a = some (.pointer (some p))) : (callFunc 66 #[.agg #[.pointer (some ⟨1, 87, none⟩), .pointer (some a), .int .u64 150]]).run PP W = .ok (.value (.agg #[.pointer (some ⟨1, 32, none⟩), .pointer (some p), .int .u64 386])) W := by
  refine ext_call (F := ex66) Tryd.func66 (by kernel_rfl) (by kernel_rfl) (by kernel_rfl) (by kernel_rfl) ?_
  unfold ex66
  rw [rlm]
  simp only [Sem.run_bind, ef_parts87, Result.andThen]
  simp [ReflectliteValue.elem, loadVar, isAgg, underlying, Tryd.underlying87, ha, Result.andThen, ef_elemOf, ef_mk]
theorem rls (v x : Value) : ReflectliteValue.set #[v, x] = (do
    let (some (dst, a, fl), some (src, b, _)) := (← ReflectliteValue.parts v, ← ReflectliteValue.parts x)
      | unsupported (.noEntry "extern/(internal/reflectlite.Value).Set.zeroValue")
    if fl / ReflectliteValue.flagAddr % 2 == 0 then unsupported (.noEntry "extern/(internal/reflectlite.Value).Set.unaddressable")
    let val ← loadVar src b
    if ← Rtype.directlyAssignable dst src then storeVar dst a val
    else if ← Rtype.implements dst src then
      if (← Rtype.kind src) == 20 then
        match val with
        | .nilIface => unsupported (.noEntry "extern/reflectlite: a nil value of one interface type handed on as a value of another")
        | _ => storeVar dst a val
      else storeVar dst a (.iface src val)
    else panicString ("reflectlite.Set: value of type " ++ (← Rtype.spelt src) ++ " is not assignable to type " ++ (← Rtype.spelt dst))
    pure (.tuple #[])) := rfl
theorem ef_direct (w : World) : (Rtype.directlyAssignable 32 32).run PP w = .ok true w := by kernel_rfl
theorem ef_set (ta b : Addr) (e : Int) (old : Value) (W : World) (hb : W.cell? b = some (.int .i64 e)) (ht : W.cell? ta = some old) (hf : W.frozen? ta = false) :
    (callFunc 67 #[.agg #[.pointer (some ⟨1, 32, none⟩), .pointer (some ta), .int .u64 386], .agg #[.pointer (some ⟨1, 32, none⟩), .pointer (some b), .int .u64 130]]).run PP W = .ok (.value (.tuple #[])) (W.setCell ta (.int .i64 e)) := by
  refine ext_call (F := ReflectliteValue.set) Tryd.func67 (by kernel_rfl) (by kernel_rfl) (by kernel_rfl) (by kernel_rfl) ?_
  rw [rls]
  simp only [Sem.run_bind, ef_parts32a, ef_parts32, Result.andThen]
  simp [ReflectliteValue.flagAddr, loadVar, isAgg, underlying, Tryd.underlying32, hb, Result.andThen, ef_direct, storeVar, Value.cells, storeCells, Addr.add]
  rw [run_store PP W ta _ _ (by rfl)]
  simp [ht, hf]
/-! ## errors.Is -/
theorem unwrap_c (b : Nat) (e : Int) (w : World) (hb : w.cell? ⟨b, 1, none⟩ = some (.int .i64 e)) : Calls PP 88 #[.pointer (some ⟨b, 0, none⟩)] w fun ev w' => ev = .returned (.iface 32 (.int .i64 e)) ∧ w' = w := by
  refine sim_stripe_refusal_Unwrap _ _ _ ?_
  unfold vc_stripe_refusal_Unwrap
  exact ⟨_, rfl, e, hb, rfl, rfl⟩
theorem is_nil (y : Value) (w : World) : Calls PP 19 #[.nilIface, .iface 32 y] w fun e w' => e = .returned (.bool false) ∧ w' = w := by
  have hn := run_eql_iface_nil_left (P := PP) w 32 y Tryd.underlying57
  go_enter Tryd.func19, Tryd.ntmps19
  go_wp2
  go_ret
  exact ⟨rfl, rfl⟩
set_option maxHeartbeats 4000000 in
theorem is2_wrap (b : Nat) (e y : Int) (w : World) (hb : w.cell? ⟨b, 1, none⟩ = some (.int .i64 e)) :
    Calls PP 34 #[.iface 79 (.pointer (some ⟨b, 0, none⟩)), .iface 32 (.int .i64 y), .bool true] w fun ev w' => ev = .returned (.bool (e == y)) ∧ w' = w := by
  obtain ⟨i, hi, hcmp⟩ := Option.map_eq_some_iff.1 ef_comp32
  have n1 := ef_noIs79
  have n2 := ef_noIs32
  have n3 := ef_noUnwrap32
  have n4 := ef_noUnwraps32
  have n5 := ef_hasUnwrap79
  have n6 := ef_mUnwrap
  have hty := run_eql_iface_types (P := PP) 79 32 (.pointer (some ⟨b, 0, none⟩)) (.int .i64 y) Tryd.underlying57 (by decide) w
  have heq := run_eql_iface_int (P := PP) w e y Tryd.underlying57 Tryd.underlying32 hi hcmp
  by_cases hey : (e == y) = true
  · rw [hey] at heq ⊢
    go_enter Tryd.func34, Tryd.ntmps34
    go_wp2
    refine wp_loop_rounds 2 ?_
    rw [rounds_succ]
    go_wp2
    refine (unwrap_c b e w hb).mono ?_
    rintro ev w' ⟨rfl, rfl⟩
    go_wp2
    rw [rounds_succ]
    go_wp2
    go_ret
    exact ⟨rfl, rfl⟩
  · rw [Bool.eq_false_iff.2 hey] at heq ⊢
    go_enter Tryd.func34, Tryd.ntmps34
    go_wp2
    refine wp_loop_rounds 2 ?_
    rw [rounds_succ]
    go_wp2
    refine (unwrap_c b e w hb).mono ?_
    rintro ev w' ⟨rfl, rfl⟩
    go_wp2
    rw [rounds_succ]
    go_wp2
    go_ret
    exact ⟨rfl, rfl⟩
set_option maxHeartbeats 4000000 in
theorem is_wrap (b : Nat) (e y : Int) (w : World) (hb : w.cell? ⟨b, 1, none⟩ = some (.int .i64 e)) :
    Calls PP 19 #[.iface 79 (.pointer (some ⟨b, 0, none⟩)), .iface 32 (.int .i64 y)] w fun ev w' => ev = .returned (.bool (e == y)) ∧ w' = w := by
  have tT := ef_typeOf32
  have cT := ef_comparable
  have mR := ef_mComparable
  go_enter Tryd.func19, Tryd.ntmps19
  go_wp2
  refine (is2_wrap b e y w hb).mono ?_
  rintro ev w' ⟨rfl, rfl⟩
  go_wp2
  go_ret
  exact ⟨rfl, rfl⟩
/-! ## errors.As -/
theorem as_nil (t : Value) (w : World) : Calls PP 35 #[.nilIface, t] w fun e w' => e = .returned (.bool false) ∧ w' = w := by
  go_enter Tryd.func35, Tryd.ntmps35
  go_wp2
  go_ret
  exact ⟨rfl, rfl⟩
end Go.Proofs.YteoeboeaanjehaaDoor
