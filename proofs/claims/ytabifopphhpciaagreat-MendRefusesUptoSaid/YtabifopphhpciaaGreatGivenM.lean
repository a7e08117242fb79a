/-
  What a row of MendRefuses gives: its arguments opened.
-/
import Derived.Test.YtabifopphhpciaaGreatLawUp
import Derived.Test.YtabifopphhpciaaGreatLawMend
import Derived.Test.YtabifopphhpciaaGreatLeav
import Derived.LaidLaws
namespace Go.Proofs.YtabifopphhpciaaGreat
open Go Go.Vc Go.ChangeShapes Go.WideShapes Go.RowKit
theorem own : ownKnob PP.godebug = none := by kernel_rfl
theorem laidOut : laidOutB PP = true := by kernel_rfl
theorem und_bool : PP.underlying Ty_bool = some .bool := by kernel_rfl
theorem cells_int : PP.cellsOf Ty_int = 1 := by kernel_rfl
theorem cells_uint8 : PP.cellsOf Ty_uint8 = 1 := by kernel_rfl
theorem bytes_uint8 : PP.bytesOf Ty_uint8 = 1 := by kernel_rfl
theorem cells_slu8 : PP.cellsOf Ty_sl_uint8 = 1 := by kernel_rfl
theorem cells_slint : PP.cellsOf Ty_sl_int = 1 := by kernel_rfl
theorem cells_Case : PP.cellsOf Ty_sherdlaw04_Case = 7 := by kernel_rfl
section
variable {H : Type} {enc : TypeId × Value → H} {w : World} {cs : List Value} {b : Nat}
theorem len7 {α : Type} {l : List α} (h : l.length = 7) : ∃ a b c d e f g, l = [a, b, c, d, e, f, g] := by
  match l, h with
  | [a, b, c, d, e, f, g], _ => exact ⟨a, b, c, d, e, f, g, rfl⟩
theorem ru_int (h : Ru enc PP b w Ty_int cs) : ∃ n, cs = [.int .i64 n] := by
  obtain ⟨n, hn, _⟩ := h.int und_int
  exact ⟨n, hn⟩
theorem ru_ints (h : Ru enc PP b w Ty_sl_int cs) : ∃ (s : Slc) (l : List Int), cs = [s.v] ∧ Cel w s 1 (l.map fun x => Value.int .i64 x) ∧ l.length ≤ b := by
  obtain ⟨s, l, h1, h2, h3, h4, h5⟩ := h.elems (R := fun (m : Int) cs => cs = [.int .i64 m]) (show PP.underlying Ty_sl_int = some (.slice Ty_int) by kernel_rfl) fun cs' h' => ru_int h'
  rw [cells_int] at h5
  refine ⟨s, l, h1, ⟨by simp [h2], h3, fun i v hv => ?_⟩, h4⟩
  have hlt : i < l.length := by have := (List.getElem?_eq_some_iff.1 hv).1; simpa using this
  rw [List.getElem?_map, List.getElem?_eq_getElem hlt] at hv
  injection hv with hv
  obtain ⟨a, cs', ha, rfl, _, hc⟩ := h5 i hlt
  refine ⟨a, ha, ?_⟩
  have := hc 0 _ rfl
  rw [Nat.mul_one, Nat.add_zero] at this
  rw [this, ← hv]
theorem ru_case (h : Ru enc PP b w Ty_sherdlaw04_Case cs) : ∃ (N K T : Int) (v o sp hw : Slc) (vb hb : List UInt8) (zs ss : List Int), cs = [.int .i64 N, .int .i64 K, v.v, o.v, .int .i64 T, sp.v, hw.v] ∧ Byt w v vb ∧ vb.length ≤ b ∧ Cel w o 1 (zs.map fun x => Value.int .i64 x) ∧ zs.length ≤ b := by
  have hl := h.len (i := 0) (off := 0) (u := Ty_int) (by kernel_rfl)
  rw [cells_Case] at hl
  obtain ⟨a, bb, c, d, e, f, g, rfl⟩ := len7 hl
  have h0 := h.fld (i := 0) (off := 0) (u := Ty_int) (by kernel_rfl)
  have h1 := h.fld (i := 1) (off := 1) (u := Ty_int) (by kernel_rfl)
  have h2 := h.fld (i := 2) (off := 2) (u := Ty_sl_uint8) (by kernel_rfl)
  have h3 := h.fld (i := 3) (off := 3) (u := Ty_sl_int) (by kernel_rfl)
  have h4 := h.fld (i := 4) (off := 4) (u := Ty_int) (by kernel_rfl)
  have h5 := h.fld (i := 5) (off := 5) (u := Ty_sl_int) (by kernel_rfl)
  have h6 := h.fld (i := 6) (off := 6) (u := Ty_sl_uint8) (by kernel_rfl)
  rw [cells_int] at h0 h1 h4
  rw [cells_slu8] at h2 h6
  rw [cells_slint] at h3 h5
  obtain ⟨n0, e0⟩ := ru_int h0
  obtain ⟨n1, e1⟩ := ru_int h1
  obtain ⟨s2, b2, e2, hB2, hl2⟩ := h2.bytes slT_sl_uint8.ut und_uint8 cells_uint8 bytes_uint8
  obtain ⟨s3, z3, e3, hZ3, hz3⟩ := ru_ints h3
  obtain ⟨n4, e4⟩ := ru_int h4
  obtain ⟨s5, z5, e5, _, _⟩ := ru_ints h5
  obtain ⟨s6, b6, e6, _, _⟩ := h6.bytes slT_sl_uint8.ut und_uint8 cells_uint8 bytes_uint8
  simp at e0 e1 e2 e3 e4 e5 e6
  subst e0 e1 e2 e3 e4 e5 e6
  exact ⟨n0, n1, n4, s2, s3, s5, s6, b2, b6, z3, z5, rfl, hB2, hl2, hZ3, hz3⟩
end
/-- The world of the witness. -/
noncomputable def laidWorld (os : Os) : World := World.holding PP os ⟨#[], #[], []⟩
end Go.Proofs.YtabifopphhpciaaGreat
