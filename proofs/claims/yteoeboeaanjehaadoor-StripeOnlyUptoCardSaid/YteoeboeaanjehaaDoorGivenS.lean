/-
  What a row of the stripe's statements gives: the errors' type, the arguments opened. The world of the witness.
-/
import Derived.Test.YteoeboeaanjehaaDoorLawUp
import Derived.Test.YteoeboeaanjehaaDoorLawOnly
import Derived.Test.YteoeboeaanjehaaDoorCards
import Derived.Test.YteoeboeaanjehaaDoorTie
import Derived.LaidHandle
import Derived.LaidLaws
import Derived.ProofKit
namespace Go.Proofs.YteoeboeaanjehaaDoor
open Go Go.Vc Go.ChangeShapes Go.WideShapes Go.RowKit
theorem own : ownKnob PP.godebug = none := by kernel_rfl
theorem laidOut : laidOutB PP = true := by kernel_rfl
theorem und_bool : PP.underlying Ty_bool = some .bool := by kernel_rfl
theorem cells_int : PP.cellsOf Ty_int = 1 := by kernel_rfl
theorem cells_uint8 : PP.cellsOf Ty_uint8 = 1 := by kernel_rfl
theorem bytes_uint8 : PP.bytesOf Ty_uint8 = 1 := by kernel_rfl
theorem cells_slu8 : PP.cellsOf Ty_sl_uint8 = 1 := by kernel_rfl
theorem cells_slslu8 : PP.cellsOf Ty_sl_sl_uint8 = 1 := by kernel_rfl
theorem cells_slint : PP.cellsOf Ty_sl_int = 1 := by kernel_rfl
theorem cells_Shape : PP.cellsOf Ty_sherdlaw05_Shape = 2 := by kernel_rfl
theorem cells_Case : PP.cellsOf Ty_sherdlaw05_Case = 4 := by kernel_rfl
/-! ## The package variable -/
theorem err_et : PP.globalNamed "errors.errorType" = some 0 := by kernel_rfl
theorem err_rt : (PP.cutTypes.find? (·.1 == "internal/reflectlite.rtype")).map (·.2) = some 107 := by kernel_rfl
theorem err_row : ((List.range 176).filter fun t => PP.rowNamed t [101, 114, 114, 111, 114]) = [57] := by kernel_rfl
theorem err_size : PP.types.size = 176 := by kernel_rfl
theorem given {W : World} (h : laidMetH PP [("errors.errorType", Rows.laid_errors_errorType)] W) : ErrG W := by
  have h' : laidMet PP [] W ∧ handlesMet PP [("errors.errorType", Rows.laid_errors_errorType)] W := h
  obtain ⟨name, u, ty, e1, e2, e3, e4, e5⟩ := h'.2 _ (List.mem_singleton.2 rfl)
  have en : name = [101, 114, 114, 111, 114] := (Option.some.inj e1).symm
  subst en
  obtain rfl := Option.some.inj (err_rt.symm.trans e2)
  have hm : ty ∈ (List.range 176).filter fun t => PP.rowNamed t [101, 114, 114, 111, 114] := List.mem_filter.2 ⟨List.mem_range.2 (by rw [← err_size]; exact e3), e4⟩
  rw [err_row] at hm
  obtain rfl := List.mem_singleton.1 hm
  have hh : typeHandle PP 57 = .pointer (some ⟨1, 57, none⟩) := by kernel_rfl
  rw [hh] at e5
  unfold ErrG
  simpa using World.var?_cell err_et e5 0
/-- A world that meets the condition: the settled one, the variable's cell laid. -/
noncomputable def laidWorld (os : Os) : World :=
  { World.holding PP os ⟨#[], #[], []⟩ with heap := (World.holding PP os ⟨#[], #[], []⟩).heap.modify 0 fun
      | .cells _ t frozen => .cells #[.iface 107 (.agg #[.pointer (some ⟨1, 57, none⟩)])] t frozen
      | o => o }
section
variable {H : Type} {enc : TypeId × Value → H} {w : World} {cs : List Value} {b : Nat}
theorem len2 {α : Type} {l : List α} (h : l.length = 2) : ∃ a b, l = [a, b] := by
  match l, h with
  | [a, b], _ => exact ⟨a, b, rfl⟩
theorem len4' {α : Type} {l : List α} (h : l.length = 4) : ∃ a b c d, l = [a, b, c, d] := by
  match l, h with
  | [a, b, c, d], _ => exact ⟨a, b, c, d, rfl⟩
theorem ru_int (h : Ru enc PP b w Ty_int cs) : ∃ n, cs = [.int .i64 n] := by
  obtain ⟨n, hn, _⟩ := h.int und_int
  exact ⟨n, hn⟩
theorem ru_ints (h : Ru enc PP b w Ty_sl_int cs) : ∃ (s : Slc) (l : List Int), cs = [s.v] ∧ Cel w s 1 (l.map fun x => Value.int .i64 x) ∧ l.length ≤ b := by
  obtain ⟨s, l, h1, h2, h3, h4, h5⟩ := h.elems (R := fun (m : Int) cs => cs = [.int .i64 m]) (show PP.underlying Ty_sl_int = some (.slice Ty_int) by kernel_rfl) fun cs' h' => ru_int h'
  rw [cells_int] at h5
  refine ⟨s, l, h1, ⟨by simp [h2], h3, fun i v hv => ?_⟩, h4⟩
  have hlt : i < l.length := by have := (List.getElem?_eq_some_iff.1 hv).1; simpa using this
  rw [List.getElem?_map, List.getElem?_eq_getElem hlt] at hv
  injection hv with hv
  obtain ⟨a, cs', ha, rfl, _, hc⟩ := h5 i hlt
  refine ⟨a, ha, ?_⟩
  have := hc 0 _ rfl
  rw [Nat.mul_one, Nat.add_zero] at this
  rw [this, ← hv]
theorem ru_rows (h : Ru enc PP b w Ty_sl_sl_uint8 cs) : ∃ (s : Slc) (l : Rws), cs = [s.v] ∧ RdR w s l ∧ l.length ≤ b ∧ ∀ r ∈ l, r.2.length ≤ b := by
  obtain ⟨s, l, h1, h2, h3, h4, h5⟩ := h.elems (R := fun (r : Slc × List UInt8) cs => cs = [r.1.v] ∧ Byt w r.1 r.2 ∧ r.2.length ≤ b) slT_sl_sl_uint8.ut fun cs' h' => by
    obtain ⟨s, bs, e, hB, hl⟩ := h'.bytes slT_sl_uint8.ut und_uint8 cells_uint8 bytes_uint8
    exact ⟨(s, bs), e, hB, hl⟩
  rw [cells_slu8] at h5
  refine ⟨s, l, h1, ⟨⟨by simp [h2], h3, fun i v hv => ?_⟩, fun r hr => ?_⟩, h4, fun r hr => ?_⟩
  · have hlt : i < l.length := by have := (List.getElem?_eq_some_iff.1 hv).1; simpa using this
    rw [List.getElem?_map, List.getElem?_eq_getElem hlt] at hv
    injection hv with hv
    obtain ⟨a, cs', ha, ⟨rfl, _⟩, _, hc⟩ := h5 i hlt
    refine ⟨a, ha, ?_⟩
    have := hc 0 _ rfl
    rw [Nat.mul_one, Nat.add_zero] at this
    rw [this, ← hv]
  · obtain ⟨i, hi, rfl⟩ := List.getElem_of_mem hr
    obtain ⟨_, _, _, ⟨_, hB, _⟩, _⟩ := h5 i hi
    exact hB
  · obtain ⟨i, hi, rfl⟩ := List.getElem_of_mem hr
    obtain ⟨_, _, _, ⟨_, _, hl⟩, _⟩ := h5 i hi
    exact hl
theorem ru_shape (h : Ru enc PP b w Ty_sherdlaw05_Shape cs) : ∃ n k : Int, cs = [.int .i64 n, .int .i64 k] := by
  have hl := h.len (i := 0) (off := 0) (u := Ty_int) (by kernel_rfl)
  rw [cells_Shape] at hl
  obtain ⟨a, bb, rfl⟩ := len2 hl
  have h0 := h.fld (i := 0) (off := 0) (u := Ty_int) (by kernel_rfl)
  have h1 := h.fld (i := 1) (off := 1) (u := Ty_int) (by kernel_rfl)
  rw [cells_int] at h0 h1
  obtain ⟨n0, e0⟩ := ru_int h0
  obtain ⟨n1, e1⟩ := ru_int h1
  simp at e0 e1
  subst e0 e1
  exact ⟨n0, n1, rfl⟩
theorem ru_case (h : Ru enc PP b w Ty_sherdlaw05_Case cs) : ∃ (v d p e : Slc) (vb eb : List UInt8) (ds : Rws) (zs : List Int), cs = [v.v, d.v, p.v, e.v] ∧ Byt w v vb ∧ RdR w d ds ∧ ds.length ≤ b ∧ (∀ r ∈ ds, r.2.length ≤ b) ∧ Cel w p 1 (zs.map fun x => Value.int .i64 x) ∧ zs.length ≤ b ∧ Byt w e eb := by
  have hl := h.len (i := 0) (off := 0) (u := Ty_sl_uint8) (by kernel_rfl)
  rw [cells_Case] at hl
  obtain ⟨a, bb, c, d, rfl⟩ := len4' hl
  have h0 := h.fld (i := 0) (off := 0) (u := Ty_sl_uint8) (by kernel_rfl)
  have h1 := h.fld (i := 1) (off := 1) (u := Ty_sl_sl_uint8) (by kernel_rfl)
  have h2 := h.fld (i := 2) (off := 2) (u := Ty_sl_int) (by kernel_rfl)
  have h3 := h.fld (i := 3) (off := 3) (u := Ty_sl_uint8) (by kernel_rfl)
  rw [cells_slu8] at h0 h3
  rw [cells_slslu8] at h1
  rw [cells_slint] at h2
  obtain ⟨s0, b0, e0, hB0, _⟩ := h0.bytes slT_sl_uint8.ut und_uint8 cells_uint8 bytes_uint8
  obtain ⟨s1, l1, e1, hR, hl1, hb1⟩ := ru_rows h1
  obtain ⟨s2, z2, e2, hZ, hz2⟩ := ru_ints h2
  obtain ⟨s3, b3, e3, hB3, _⟩ := h3.bytes slT_sl_uint8.ut und_uint8 cells_uint8 bytes_uint8
  simp at e0 e1 e2 e3
  subst e0 e1 e2 e3
  exact ⟨s0, s1, s2, s3, b0, b3, l1, z2, rfl, hB0, hR, hl1, hb1, hZ, hz2, hB3⟩
end
end Go.Proofs.YteoeboeaanjehaaDoor
