/-
  What a row of TablePlays gives: its arguments opened. The world of the witness.
-/
import Derived.Test.YtgnceldnfefnmaaGreatLawUp
import Derived.Test.YtgnceldnfefnmaaGreatPlaysAll
namespace Go.Proofs.YtgnceldnfefnmaaGreat
open Go Go.Vc Go.ChangeShapes Go.WideShapes Go.RowKit Go.Tab
theorem own : ownKnob PP.godebug = none := by kernel_rfl
theorem laidOut : laidOutB PP = true := by kernel_rfl
theorem und_bool : PP.underlying Ty_bool = some .bool := by kernel_rfl
theorem und_int64 : PP.underlying Ty_int64 = some (.int .i64) := by kernel_rfl
theorem cells_Op : PP.cellsOf Ty_sherdlaw15_Op = 13 := by kernel_rfl
theorem cells_Update : PP.cellsOf Ty_api_Update = 7 := by kernel_rfl
theorem cells_Entry : PP.cellsOf Ty_api_Entry = 5 := by kernel_rfl
theorem cells_Tag : PP.cellsOf Ty_api_Tag = 2 := by kernel_rfl
theorem cells_string : PP.cellsOf Ty_string = 1 := by kernel_rfl
theorem cells_int : PP.cellsOf Ty_int = 1 := by kernel_rfl
theorem cells_int64 : PP.cellsOf Ty_int64 = 1 := by kernel_rfl
theorem cells_bool : PP.cellsOf Ty_bool = 1 := by kernel_rfl
theorem cells_slu8 : PP.cellsOf Ty_sl_uint8 = 1 := by kernel_rfl
theorem cells_uint8 : PP.cellsOf Ty_uint8 = 1 := by kernel_rfl
theorem bytes_uint8 : PP.bytesOf Ty_uint8 = 1 := by kernel_rfl
section
variable {H : Type} {enc : TypeId × Value → H} {w : World} {cs : List Value} {b : Nat}
theorem len7 {α : Type} {l : List α} (h : l.length = 7) : ∃ a b c d e f g, l = [a, b, c, d, e, f, g] := by
  match l, h with
  | [a, b, c, d, e, f, g], _ => exact ⟨a, b, c, d, e, f, g, rfl⟩
theorem len2 {α : Type} {l : List α} (h : l.length = 2) : ∃ a b, l = [a, b] := by
  match l, h with
  | [a, b], _ => exact ⟨a, b, rfl⟩
theorem len13 {α : Type} {l : List α} (h : l.length = 13) : ∃ a b c d e f g h' i j k m n, l = [a, b, c, d, e, f, g, h', i, j, k, m, n] := by
  match l, h with
  | [a, b, c, d, e, f, g, h', i, j, k, m, n], _ => exact ⟨a, b, c, d, e, f, g, h', i, j, k, m, n, rfl⟩
theorem ru_int (h : Ru enc PP b w Ty_int cs) : ∃ n, cs = [.int .i64 n] ∧ -9223372036854775808 ≤ n ∧ n ≤ 9223372036854775807 := by
  obtain ⟨n, hn, hwf⟩ := h.int und_int
  simp only [Lit.wf, Bool.and_eq_true, decide_eq_true_eq] at hwf
  have e1 : IntKind.i64.min = -9223372036854775808 := rfl
  have e2 : IntKind.i64.max = 9223372036854775807 := rfl
  rw [e1, e2] at hwf
  exact ⟨n, hn, hwf⟩
theorem ru_tag (h : Ru enc PP b w Ty_api_Tag cs) : ∃ t : Tg, cs = [.int .i64 t.1, .int .i64 t.2] := by
  have hl := h.len (i := 0) (off := 0) (u := Ty_int64) (by kernel_rfl)
  rw [cells_Tag] at hl
  obtain ⟨a, c, rfl⟩ := len2 hl
  have h0 := h.fld (i := 0) (off := 0) (u := Ty_int64) (by kernel_rfl)
  have h1 := h.fld (i := 1) (off := 1) (u := Ty_int) (by kernel_rfl)
  rw [cells_int64] at h0
  rw [cells_int] at h1
  obtain ⟨n0, e0, _⟩ := h0.int und_int64
  obtain ⟨n1, e1, _⟩ := ru_int h1
  simp at e0 e1
  subst e0 e1
  exact ⟨(n0, n1), rfl⟩
theorem ru_upt (h : Ru enc PP b w Ty_api_Update cs) : ∃ u : Upt, cs = u.c ∧ Byt w u.s u.data ∧ u.data.length ≤ b := by
  have hl := h.len (i := 0) (off := 0) (u := Ty_int) (by kernel_rfl)
  rw [cells_Update] at hl
  obtain ⟨a, bb, c, d, e, f, g, rfl⟩ := len7 hl
  have hk := h.fld (i := 0) (off := 0) (u := Ty_int) (by kernel_rfl)
  have hy := h.fld (i := 1) (off := 1) (u := Ty_string) (by kernel_rfl)
  have he := h.fld (i := 2) (off := 2) (u := Ty_api_Entry) (by kernel_rfl)
  rw [cells_int] at hk
  rw [cells_string] at hy
  rw [cells_Entry] at he
  have ht := he.fld (i := 0) (off := 0) (u := Ty_api_Tag) (by kernel_rfl)
  have hf := he.fld (i := 1) (off := 2) (u := Ty_bool) (by kernel_rfl)
  have hh := he.fld (i := 2) (off := 3) (u := Ty_bool) (by kernel_rfl)
  have hd := he.fld (i := 3) (off := 4) (u := Ty_sl_uint8) (by kernel_rfl)
  rw [cells_Tag] at ht
  rw [cells_bool] at hf hh
  rw [cells_slu8] at hd
  obtain ⟨n0, e0, _⟩ := hk.int und_int
  obtain ⟨n1, e1, _⟩ := hy.str und_string
  obtain ⟨t, e2⟩ := ru_tag ht
  obtain ⟨n4, e4⟩ := hf.bool und_bool
  obtain ⟨n5, e5⟩ := hh.bool und_bool
  obtain ⟨s, bs, e6, hB, hlen⟩ := hd.bytes slT_sl_uint8.ut und_uint8 cells_uint8 bytes_uint8
  simp at e0 e1 e2 e4 e5 e6
  obtain ⟨e2, e3⟩ := e2
  subst e0 e1 e2 e3 e4 e5 e6
  exact ⟨⟨n0, n1, t, n4, n5, s, bs⟩, rfl, hB, hlen⟩
theorem ru_op (h : Ru enc PP b w Ty_sherdlaw15_Op cs) : ∃ o : Opn, cs = o.c ∧ Byt w o.u.s o.u.data ∧ o.u.data.length ≤ b := by
  have hl := h.len (i := 0) (off := 0) (u := Ty_int) (by kernel_rfl)
  rw [cells_Op] at hl
  obtain ⟨a0, a1, a2, a3, a4, a5, a6, a7, a8, a9, a10, a11, a12, rfl⟩ := len13 hl
  have h0 := h.fld (i := 0) (off := 0) (u := Ty_int) (by kernel_rfl)
  have h1 := h.fld (i := 1) (off := 1) (u := Ty_int) (by kernel_rfl)
  have h2 := h.fld (i := 2) (off := 2) (u := Ty_api_Update) (by kernel_rfl)
  have h3 := h.fld (i := 3) (off := 9) (u := Ty_string) (by kernel_rfl)
  have h4 := h.fld (i := 4) (off := 10) (u := Ty_api_Tag) (by kernel_rfl)
  have h5 := h.fld (i := 5) (off := 12) (u := Ty_int) (by kernel_rfl)
  rw [cells_int] at h0 h1 h5
  rw [cells_Update] at h2
  rw [cells_string] at h3
  rw [cells_Tag] at h4
  obtain ⟨n0, e0, _⟩ := ru_int h0
  obtain ⟨n1, e1, _⟩ := ru_int h1
  obtain ⟨u, e2, hB, hlen⟩ := ru_upt h2
  obtain ⟨k, e3, _⟩ := h3.str und_string
  obtain ⟨t, e4⟩ := ru_tag h4
  obtain ⟨n5, e5, _⟩ := ru_int h5
  refine ⟨⟨n0, n1, u, k, t, n5⟩, ?_, hB, hlen⟩
  simp [Upt.c] at e0 e1 e2 e3 e4 e5
  obtain ⟨q0, q1, q2, q3, q4, q5, q6⟩ := e2
  obtain ⟨t0, t1⟩ := e4
  subst e0 e1 q0 q1 q2 q3 q4 q5 q6 e3 t0 t1 e5
  rfl
theorem ru_ops (h : Ru enc PP b w Ty_sl_sherdlaw15_Op cs) : ∃ (s : Slc) (l : List Opn), cs = [s.v] ∧ Cel w s 13 (l.flatMap Opn.c) ∧ l.length ≤ b ∧ ∀ o ∈ l, Byt w o.u.s o.u.data ∧ o.u.data.length ≤ b := by
  obtain ⟨s, l, h1, h2, h3, h4, h5⟩ := h.elems (R := fun (o : Opn) cs => cs = o.c ∧ Byt w o.u.s o.u.data ∧ o.u.data.length ≤ b) (show PP.underlying Ty_sl_sherdlaw15_Op = some (.slice Ty_sherdlaw15_Op) by kernel_rfl) fun cs' h' => ru_op h'
  rw [cells_Op] at h5
  have hk : ∀ o : Opn, o.c.length = 13 := fun _ => rfl
  refine ⟨s, l, h1, ⟨by rw [flat_len hk, h2], h3, fun i v hv => ?_⟩, h4, fun o ho => ?_⟩
  · have hlt : i < l.length * 13 := by
      have := (List.getElem?_eq_some_iff.1 hv).1
      rwa [flat_len hk] at this
    rw [flat_get hk _ _ hlt] at hv
    have hq : i / 13 < l.length := by omega
    rw [List.getElem?_eq_getElem hq] at hv
    obtain ⟨a, cs', ha, ⟨rfl, _⟩, _, hc⟩ := h5 (i / 13) hq
    refine ⟨a, ha, ?_⟩
    have := hc _ _ hv
    rwa [show i / 13 * 13 + i % 13 = i by omega] at this
  · obtain ⟨i, hi', rfl⟩ := List.getElem_of_mem ho
    obtain ⟨_, _, _, ⟨_, hB, hlen⟩, _⟩ := h5 i hi'
    exact ⟨hB, hlen⟩
end
noncomputable def laidWorld (os : Os) : World := World.holding PP os ⟨#[], #[], []⟩
end Go.Proofs.YtgnceldnfefnmaaGreat
