/-
  What a row of TableAgain gives: its last argument opened.
-/
import Derived.Test.YtgnceldnfefnmaaGivenT
namespace Go.Proofs.Ytgnceldnfefnmaa
open Go Go.Vc Go.ChangeShapes Go.WideShapes Go.RowKit Go.Tab
section
variable {H : Type} {enc : TypeId × Value → H} {w : World} {cs : List Value} {b : Nat}
theorem cells_Rest : PP.cellsOf Ty_sherdlaw15_Rest = 2 := by kernel_rfl
theorem len2 {α : Type} {l : List α} (h : l.length = 2) : ∃ a b, l = [a, b] := by
  match l, h with
  | [a, b], _ => exact ⟨a, b, rfl⟩
theorem ru_rest (h : Ru enc PP b w Ty_sherdlaw15_Rest cs) : ∃ (s : Slc) (l : List Mv) (n : Int), cs = [s.v, .int .i64 n] ∧ Cel w s 5 (l.flatMap Mv.c) ∧ l.length ≤ b := by
  have hl := h.len (i := 0) (off := 0) (u := Ty_sl_sherdlaw15_Move) (by kernel_rfl)
  rw [cells_Rest] at hl
  obtain ⟨a, c, rfl⟩ := len2 hl
  have h0 := h.fld (i := 0) (off := 0) (u := Ty_sl_sherdlaw15_Move) (by kernel_rfl)
  have h1 := h.fld (i := 1) (off := 1) (u := Ty_int) (by kernel_rfl)
  rw [cells_slMove] at h0
  rw [cells_int] at h1
  obtain ⟨s, l, e0, hM, hll⟩ := ru_moves h0
  obtain ⟨n, e1, _⟩ := ru_int h1
  simp at e0 e1
  subst e0 e1
  exact ⟨s, l, n, rfl, hM, hll⟩
end
end Go.Proofs.Ytgnceldnfefnmaa
