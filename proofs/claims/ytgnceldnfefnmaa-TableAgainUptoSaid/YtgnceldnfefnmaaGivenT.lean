/-
  What a row of the table's statements gives: its arguments opened. The world of the witness.
-/
import Derived.Test.YtgnceldnfefnmaaLawUp
import Derived.Test.YtgnceldnfefnmaaLawTab
namespace Go.Proofs.Ytgnceldnfefnmaa
open Go Go.Vc Go.ChangeShapes Go.WideShapes Go.RowKit Go.Tab
theorem own : ownKnob PP.godebug = none := by kernel_rfl
theorem laidOut : laidOutB PP = true := by kernel_rfl
theorem und_bool : PP.underlying Ty_bool = some .bool := by kernel_rfl
theorem cells_Move : PP.cellsOf Ty_sherdlaw15_Move = 5 := by kernel_rfl
theorem cells_int : PP.cellsOf Ty_int = 1 := by kernel_rfl
theorem cells_int64 : PP.cellsOf Ty_int64 = 1 := by kernel_rfl
theorem cells_bool : PP.cellsOf Ty_bool = 1 := by kernel_rfl
theorem cells_slMove : PP.cellsOf Ty_sl_sherdlaw15_Move = 1 := by kernel_rfl
theorem und_int64 : PP.underlying Ty_int64 = some (.int .i64) := by kernel_rfl
section
variable {H : Type} {enc : TypeId × Value → H} {w : World} {cs : List Value} {b : Nat}
theorem len5 {α : Type} {l : List α} (h : l.length = 5) : ∃ a b c d e, l = [a, b, c, d, e] := by
  match l, h with
  | [a, b, c, d, e], _ => exact ⟨a, b, c, d, e, rfl⟩
theorem ru_int (h : Ru enc PP b w Ty_int cs) : ∃ n, cs = [.int .i64 n] ∧ -9223372036854775808 ≤ n ∧ n ≤ 9223372036854775807 := by
  obtain ⟨n, hn, hwf⟩ := h.int und_int
  simp only [Lit.wf, Bool.and_eq_true, decide_eq_true_eq] at hwf
  have e1 : IntKind.i64.min = -9223372036854775808 := rfl
  have e2 : IntKind.i64.max = 9223372036854775807 := rfl
  rw [e1, e2] at hwf
  exact ⟨n, hn, hwf⟩
theorem ru_move (h : Ru enc PP b w Ty_sherdlaw15_Move cs) : ∃ m : Mv, cs = m.c := by
  have hl := h.len (i := 0) (off := 0) (u := Ty_int) (by kernel_rfl)
  rw [cells_Move] at hl
  obtain ⟨a, bb, c, d, e, rfl⟩ := len5 hl
  have h0 := h.fld (i := 0) (off := 0) (u := Ty_int) (by kernel_rfl)
  have h1 := h.fld (i := 1) (off := 1) (u := Ty_bool) (by kernel_rfl)
  have h2 := h.fld (i := 2) (off := 2) (u := Ty_bool) (by kernel_rfl)
  have h3 := h.fld (i := 3) (off := 3) (u := Ty_int64) (by kernel_rfl)
  have h4 := h.fld (i := 4) (off := 4) (u := Ty_int) (by kernel_rfl)
  rw [cells_int] at h0 h4
  rw [cells_bool] at h1 h2
  rw [cells_int64] at h3
  obtain ⟨n0, e0, _⟩ := h0.int und_int
  obtain ⟨n1, e1⟩ := h1.bool und_bool
  obtain ⟨n2, e2⟩ := h2.bool und_bool
  obtain ⟨n3, e3, _⟩ := h3.int und_int64
  obtain ⟨n4, e4, _⟩ := h4.int und_int
  simp at e0 e1 e2 e3 e4
  subst e0 e1 e2 e3 e4
  exact ⟨⟨n0, n1, n2, n3, n4⟩, rfl⟩
theorem ru_moves (h : Ru enc PP b w Ty_sl_sherdlaw15_Move cs) : ∃ (s : Slc) (l : List Mv), cs = [s.v] ∧ Cel w s 5 (l.flatMap Mv.c) ∧ l.length ≤ b := by
  obtain ⟨s, l, h1, h2, h3, h4, h5⟩ := h.elems (R := fun (m : Mv) cs => cs = m.c) slT_sl_sherdlaw15_Move.ut fun cs' h' => ru_move h'
  rw [cells_Move] at h5
  have hk : ∀ m : Mv, m.c.length = 5 := fun _ => rfl
  refine ⟨s, l, h1, ⟨by rw [flat_len hk, h2], h3, fun i v hv => ?_⟩, h4⟩
  have hlt : i < l.length * 5 := by
    have := (List.getElem?_eq_some_iff.1 hv).1
    rwa [flat_len hk] at this
  rw [flat_get hk _ _ hlt] at hv
  have hq : i / 5 < l.length := by omega
  rw [List.getElem?_eq_getElem hq] at hv
  obtain ⟨a, cs', ha, rfl, _, hc⟩ := h5 (i / 5) hq
  refine ⟨a, ha, ?_⟩
  have := hc _ _ hv
  rwa [show i / 5 * 5 + i % 5 = i by omega] at this
theorem ru_ints (h : Ru enc PP b w Ty_sl_int cs) : ∃ (s : Slc) (l : List Int), cs = [s.v] ∧ Cel w s 1 (l.map fun x => Value.int .i64 x) ∧ l.length ≤ b := by
  obtain ⟨s, l, h1, h2, h3, h4, h5⟩ := h.elems (R := fun (m : Int) cs => cs = [.int .i64 m]) (show PP.underlying Ty_sl_int = some (.slice Ty_int) by kernel_rfl) fun cs' h' => by
    obtain ⟨n, hn, _⟩ := ru_int h'
    exact ⟨n, hn⟩
  rw [cells_int] at h5
  refine ⟨s, l, h1, ⟨by simp [h2], h3, fun i v hv => ?_⟩, h4⟩
  have hlt : i < l.length := by have := (List.getElem?_eq_some_iff.1 hv).1; simpa using this
  rw [List.getElem?_map, List.getElem?_eq_getElem hlt] at hv
  injection hv with hv
  obtain ⟨a, cs', ha, rfl, _, hc⟩ := h5 i hlt
  refine ⟨a, ha, ?_⟩
  have := hc 0 _ rfl
  rw [Nat.mul_one, Nat.add_zero] at this
  rw [this, ← hv]
end
/-- A world for the witness: the settled one. -/
noncomputable def laidWorld (os : Os) : World := World.holding PP os ⟨#[], #[], []⟩
end Go.Proofs.Ytgnceldnfefnmaa
