/-
  What a row gives where what is read is of small bulk: the laws' arguments opened.
-/
import Derived.Test.YtnhgnfflihoaiaaGreatDoorLawUp
import Derived.Test.YtnhgnfflihoaiaaGreatDoorGiven
namespace Go.Proofs.YtnhgnfflihoaiaaGreatDoor
open Go Go.Vc Go.ChangeShapes Go.WideShapes Go.RowKit
section
variable {H : Type} {enc : TypeId × Value → H} {w : World} {cs : List Value} {b : Nat}
theorem ru_update (h : Ru enc PP b w Ty_api_Update cs) : ∃ u : Upd, cs = u.cells ∧ Byt w u.data u.ds ∧ u.ds.length ≤ b := by
  have hl := h.len (i := 0) (off := 0) (u := Ty_int) (by kernel_rfl)
  rw [cells_Update] at hl
  obtain ⟨a, bb, c, d, e, f, g, rfl⟩ := len7 hl
  have hk := h.fld (i := 0) (off := 0) (u := Ty_int) (by kernel_rfl)
  have hy := h.fld (i := 1) (off := 1) (u := Ty_string) (by kernel_rfl)
  have he := h.fld (i := 2) (off := 2) (u := Ty_api_Entry) (by kernel_rfl)
  rw [cells_int] at hk
  rw [cells_string] at hy
  rw [cells_Entry] at he
  have ht := he.fld (i := 0) (off := 0) (u := Ty_api_Tag) (by kernel_rfl)
  have hf := he.fld (i := 1) (off := 2) (u := Ty_bool) (by kernel_rfl)
  have hh := he.fld (i := 2) (off := 3) (u := Ty_bool) (by kernel_rfl)
  have hd := he.fld (i := 3) (off := 4) (u := Ty_sl_uint8) (by kernel_rfl)
  rw [cells_Tag] at ht
  rw [cells_bool] at hf hh
  rw [cells_slu8] at hd
  have h0 := ht.fld (i := 0) (off := 0) (u := Ty_int64) (by kernel_rfl)
  have h1 := ht.fld (i := 1) (off := 1) (u := Ty_int) (by kernel_rfl)
  rw [cells_int64] at h0
  rw [cells_int] at h1
  obtain ⟨n0, e0, _⟩ := hk.int und_int
  obtain ⟨n1, e1, _⟩ := hy.str und_string
  obtain ⟨n2, e2, _⟩ := h0.int und_int64
  obtain ⟨n3, e3, _⟩ := h1.int und_int
  obtain ⟨n4, e4⟩ := hf.bool und_bool
  obtain ⟨n5, e5⟩ := hh.bool und_bool
  obtain ⟨s, bs, e6, hB, hlen⟩ := hd.bytes slT_sl_uint8.ut und_uint8 cells_uint8 bytes_uint8
  simp at e0 e1 e2 e3 e4 e5 e6
  subst e0 e1 e2 e3 e4 e5 e6
  exact ⟨⟨n0, n1, n2, n3, n4, n5, s, bs⟩, rfl, hB, hlen⟩
end
end Go.Proofs.YtnhgnfflihoaiaaGreatDoor
