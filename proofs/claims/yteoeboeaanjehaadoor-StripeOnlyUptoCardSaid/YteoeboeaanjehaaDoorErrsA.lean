/-
  errors.As at the errors of the package stripe.
-/
import Derived.Test.YteoeboeaanjehaaDoorErrsC
namespace Go.Proofs.YteoeboeaanjehaaDoor
open Go Go.Vc Go.RowKit Go.Extern.Stop Go.Stop Go.Extern
theorem cell_lt {w : World} {p : Addr} {v : Value} (h : w.cell? p = some v) : p.block < w.heap.size := by
  rcases Nat.lt_or_ge p.block w.heap.size with h' | h'
  · exact h'
  · simp [World.cell?, Array.getElem?_eq_none h'] at h
theorem cell_alloc {w : World} {p : Addr} {v : Value} (h : w.cell? p = some v) (o : Obj) : (w.alloc o).cell? p = some v := by
  rw [World.cell?_alloc_lt _ _ p (cell_lt h)]; exact h
abbrev tval (a : Addr) : Value := .agg #[.pointer (some ⟨1, 87, none⟩), .pointer (some a), .int .u64 150]
abbrev tobj (a : Addr) : Obj := .cells #[.pointer (some ⟨1, 87, none⟩), .pointer (some a), .int .u64 150] 120
set_option maxHeartbeats 4000000 in
theorem as2_wrap (b : Nat) (a t : Addr) (e : Int) (old : Value) (w : World) (hb : w.cell? ⟨b, 1, none⟩ = some (.int .i64 e)) (ha : w.cell? a = some (.pointer (some t))) (ht : w.cell? t = some old) (hf : w.frozen? t = false) :
    Calls PP 54 #[.iface 79 (.pointer (some ⟨b, 0, none⟩)), .iface 87 (.pointer (some t)), tval a, .iface 107 (.agg #[.pointer (some ⟨1, 32, none⟩)])] w fun ev w' => ev = .returned (.bool true) ∧ w' = ((w.alloc (tobj a)).alloc (.cells #[.int .i64 e] 32)).setCell t (.int .i64 e) := by
  have t79 := ef_typeOf79
  have t32 := ef_typeOf32
  have mA := ef_mAssign
  have a79 := ef_assign79
  have a32 := ef_assign32
  have nA := ef_noAs79
  have hU := ef_hasUnwrap79
  have mU := ef_mUnwrap
  have v32 := ef_valueOf32
  have el := ef_elem a t (w.alloc (tobj a)) (cell_alloc ha _)
  have htl := cell_lt ht
  have st := ef_set t ⟨w.heap.size + 1, 0, none⟩ e old ((w.alloc (tobj a)).alloc (.cells #[.int .i64 e] 32)) (by rw [World.cell?_alloc_at _ _ _ _ (by simp)]; rfl) (cell_alloc (cell_alloc ht _) _)
    (by rw [World.frozen?_alloc_old _ _ t (by simp; omega), World.frozen?_alloc_old _ _ t (Nat.ne_of_lt htl)]; exact hf)
  go_enter Tryd.func54, Tryd.ntmps54
  go_wp2
  refine wp_loop_rounds 2 ?_
  rw [rounds_succ]
  go_wp2
  refine (unwrap_c b e _ (cell_alloc hb _)).mono ?_
  rintro ev w' ⟨rfl, rfl⟩
  go_wp2
  rw [rounds_succ]
  go_wp2
  go_ret
  exact ⟨rfl, rfl⟩
/-- The package variable that errors.As reads. -/
def ErrG (w : World) : Prop := w.cell? ⟨0, 0, none⟩ = some (.iface 107 (.agg #[.pointer (some ⟨1, 57, none⟩)]))
set_option maxHeartbeats 4000000 in
theorem as_wrap (b : Nat) (t : Addr) (e : Int) (old : Value) (w : World) (hg : ErrG w) (hb : w.cell? ⟨b, 1, none⟩ = some (.int .i64 e)) (ht : w.cell? t = some old) (hf : w.frozen? t = false) :
    Calls PP 35 #[.iface 79 (.pointer (some ⟨b, 0, none⟩)), .iface 87 (.pointer (some t))] w fun ev w' => ev = .returned (.bool true) ∧
      w' = ((((w.alloc (.cells #[.pointer (some t)] 87)).alloc (tobj ⟨w.heap.size, 0, none⟩)).alloc (tobj ⟨w.heap.size, 0, none⟩)).alloc (.cells #[.int .i64 e] 32)).setCell t (.int .i64 e) := by
  have v87 := ef_valueOf87
  have t87 := ef_type87
  have mK := ef_mKind
  have mE := ef_mElem
  have mI := ef_mImpl
  have k87 := ef_kind87
  have k32 := ef_kind32
  have e87 := ef_elem87
  have i32 := ef_impl32
  have ha : (w.alloc (.cells #[.pointer (some t)] 87)).cell? ⟨w.heap.size, 0, none⟩ = some (.pointer (some t)) := by rw [World.cell?_alloc_at _ _ _ _ rfl]; rfl
  have htl := cell_lt ht
  have n8 := ef_isNil ⟨w.heap.size, 0, none⟩ t ((w.alloc (.cells #[.pointer (some t)] 87)).alloc (tobj ⟨w.heap.size, 0, none⟩)) (cell_alloc ha _)
  have hg2 : ((w.alloc (.cells #[.pointer (some t)] 87)).alloc (tobj ⟨w.heap.size, 0, none⟩)).cell? ⟨0, 0, none⟩ = some (.iface 107 (.agg #[.pointer (some ⟨1, 57, none⟩)])) := cell_alloc (cell_alloc hg _) _
  have C := as2_wrap b ⟨w.heap.size, 0, none⟩ t e old ((w.alloc (.cells #[.pointer (some t)] 87)).alloc (tobj ⟨w.heap.size, 0, none⟩)) (cell_alloc (cell_alloc hb _) _) (cell_alloc ha _) (cell_alloc (cell_alloc ht _) _)
    (by rw [World.frozen?_alloc_old _ _ t (by simp; omega), World.frozen?_alloc_old _ _ t (Nat.ne_of_lt htl)]; exact hf)
  go_enter Tryd.func35, Tryd.ntmps35
  go_wp2
  refine C.mono ?_
  rintro ev w' ⟨rfl, rfl⟩
  go_wp2
  go_ret
  exact ⟨rfl, rfl⟩
end Go.Proofs.YteoeboeaanjehaaDoor
