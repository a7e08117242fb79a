/-
  What a row gives where what is read is of small bulk: the laws' arguments opened.
-/
import Derived.Test.YtnhgnfflihoaiaaDoorLawUp
import Derived.Test.YtnhgnfflihoaiaaDoorGiven
namespace Go.Proofs.YtnhgnfflihoaiaaDoor
open Go Go.Vc Go.ChangeShapes Go.WideShapes Go.RowKit
theorem cells_Log : PP.cellsOf Ty_sherdlaw11_Log = 5 := by kernel_rfl
theorem cells_slUpd : PP.cellsOf Ty_sl_api_Update = 1 := by kernel_rfl
section
variable {H : Type} {enc : TypeId × Value → H} {w : World} {cs : List Value} {b : Nat}
theorem len5 {α : Type} {l : List α} (h : l.length = 5) : ∃ a b c d e, l = [a, b, c, d, e] := by
  match l, h with
  | [a, b, c, d, e], _ => exact ⟨a, b, c, d, e, rfl⟩
theorem ru_update (h : Ru enc PP b w Ty_api_Update cs) : ∃ u : Upd, cs = u.cells ∧ Byt w u.data u.ds ∧ u.ds.length ≤ b := by
  have hl := h.len (i := 0) (off := 0) (u := Ty_int) (by kernel_rfl)
  rw [cells_Update] at hl
  obtain ⟨a, bb, c, d, e, f, g, rfl⟩ := len7 hl
  have hk := h.fld (i := 0) (off := 0) (u := Ty_int) (by kernel_rfl)
  have hy := h.fld (i := 1) (off := 1) (u := Ty_string) (by kernel_rfl)
  have he := h.fld (i := 2) (off := 2) (u := Ty_api_Entry) (by kernel_rfl)
  rw [cells_int] at hk
  rw [cells_string] at hy
  rw [cells_Entry] at he
  have ht := he.fld (i := 0) (off := 0) (u := Ty_api_Tag) (by kernel_rfl)
  have hf := he.fld (i := 1) (off := 2) (u := Ty_bool) (by kernel_rfl)
  have hh := he.fld (i := 2) (off := 3) (u := Ty_bool) (by kernel_rfl)
  have hd := he.fld (i := 3) (off := 4) (u := Ty_sl_uint8) (by kernel_rfl)
  rw [cells_Tag] at ht
  rw [cells_bool] at hf hh
  rw [cells_slu8] at hd
  have h0 := ht.fld (i := 0) (off := 0) (u := Ty_int64) (by kernel_rfl)
  have h1 := ht.fld (i := 1) (off := 1) (u := Ty_int) (by kernel_rfl)
  rw [cells_int64] at h0
  rw [cells_int] at h1
  obtain ⟨n0, e0, _⟩ := hk.int und_int
  obtain ⟨n1, e1, _⟩ := hy.str und_string
  obtain ⟨n2, e2, _⟩ := h0.int und_int64
  obtain ⟨n3, e3, _⟩ := h1.int und_int
  obtain ⟨n4, e4⟩ := hf.bool und_bool
  obtain ⟨n5, e5⟩ := hh.bool und_bool
  obtain ⟨s, bs, e6, hB, hlen⟩ := hd.bytes slT_sl_uint8.ut und_uint8 cells_uint8 bytes_uint8
  simp at e0 e1 e2 e3 e4 e5 e6
  subst e0 e1 e2 e3 e4 e5 e6
  exact ⟨⟨n0, n1, n2, n3, n4, n5, s, bs⟩, rfl, hB, hlen⟩
theorem ru_updates (hb : b ≤ 1048576) (h : Ru enc PP b w Ty_sl_api_Update cs) : ∃ (s : Slc) (l : List Upd), cs = [s.v] ∧ Ups w s l ∧ l.length ≤ b := by
  obtain ⟨s, l, h1, h2, h3, h4, h5⟩ := h.elems (R := fun (u : Upd) cs => cs = u.cells ∧ Byt w u.data u.ds ∧ u.ds.length ≤ b) slT_sl_api_Update.ut fun cs' h' => ru_update h'
  rw [cells_Update] at h5
  refine ⟨s, l, h1, ⟨⟨by rw [Upd.flat_len, h2], h3, fun i v hv => ?_⟩, fun u hu => ?_⟩, h4⟩
  · have hlt : i < l.length * 7 := by
      have := (List.getElem?_eq_some_iff.1 hv).1
      rwa [Upd.flat_len] at this
    have hk : i / 7 < l.length := by omega
    have e : i = i / 7 * 7 + i % 7 := by omega
    rw [e, Upd.flat l (i / 7) (i % 7) hk (by omega)] at hv
    obtain ⟨a, cs', ha, ⟨rfl, _⟩, _, hc⟩ := h5 (i / 7) hk
    refine ⟨a, ha, ?_⟩
    have := hc _ _ hv
    rwa [← e] at this
  · obtain ⟨i, hi', rfl⟩ := List.getElem_of_mem hu
    obtain ⟨_, _, _, ⟨_, hB, hlen⟩, _⟩ := h5 i hi'
    exact ⟨hB, by omega⟩
theorem ru_log (hb : b ≤ 1048576) (h : Ru enc PP b w Ty_sherdlaw11_Log cs) : ∃ (n k d s : Int) (us : Slc) (l : List Upd), cs = [.int .i64 n, .int .i64 k, .int .i64 d, .int .i64 s, us.v] ∧ Ups w us l ∧ l.length ≤ b := by
  have hl := h.len (i := 0) (off := 0) (u := Ty_int) (by kernel_rfl)
  rw [cells_Log] at hl
  obtain ⟨a, bb, c, d, e, rfl⟩ := len5 hl
  have h0 := h.fld (i := 0) (off := 0) (u := Ty_int) (by kernel_rfl)
  have h1 := h.fld (i := 1) (off := 1) (u := Ty_int) (by kernel_rfl)
  have h2 := h.fld (i := 2) (off := 2) (u := Ty_int) (by kernel_rfl)
  have h3 := h.fld (i := 3) (off := 3) (u := Ty_int) (by kernel_rfl)
  have h4 := h.fld (i := 4) (off := 4) (u := Ty_sl_api_Update) (by kernel_rfl)
  rw [cells_int] at h0 h1 h2 h3
  rw [cells_slUpd] at h4
  obtain ⟨n0, e0, _⟩ := h0.int und_int
  obtain ⟨n1, e1, _⟩ := h1.int und_int
  obtain ⟨n2, e2, _⟩ := h2.int und_int
  obtain ⟨n3, e3, _⟩ := h3.int und_int
  obtain ⟨s, l, e4, hU, hlen⟩ := ru_updates hb h4
  simp at e0 e1 e2 e3 e4
  subst e0 e1 e2 e3 e4
  exact ⟨n0, n1, n2, n3, s, l, rfl, hU, hlen⟩
theorem ru_u8 (h : Ru enc PP b w Ty_uint8 cs) : ∃ x : UInt8, cs = [u8v x] := by
  obtain ⟨n, hn, hwf⟩ := h.int und_uint8
  simp only [Lit.wf, Bool.and_eq_true, decide_eq_true_eq] at hwf
  have e1 : IntKind.u8.min = 0 := rfl
  have e2 : IntKind.u8.max = 255 := rfl
  rw [e1, e2] at hwf
  refine ⟨UInt8.ofNat n.toNat, ?_⟩
  have := u8_ofNat (n := n.toNat) (by omega)
  rw [hn, u8v, this]
  congr 2
  omega
theorem ru_int (h : Ru enc PP b w Ty_int cs) : ∃ n, cs = [.int .i64 n] ∧ -9223372036854775808 ≤ n ∧ n ≤ 9223372036854775807 := by
  obtain ⟨n, hn, hwf⟩ := h.int und_int
  simp only [Lit.wf, Bool.and_eq_true, decide_eq_true_eq] at hwf
  have e1 : IntKind.i64.min = -9223372036854775808 := rfl
  have e2 : IntKind.i64.max = 9223372036854775807 := rfl
  rw [e1, e2] at hwf
  exact ⟨n, hn, hwf⟩
end
end Go.Proofs.YtnhgnfflihoaiaaDoor
