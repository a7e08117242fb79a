/-
  What the row gives: the table's cells, the arguments opened. The world of the witness.
-/
import Derived.Test.YtnhgnfflihoaiaaDoorWrites
import Derived.Test.YtnhgnfflihoaiaaDoorLaw
import Derived.Test.YtnhgnfflihoaiaaDoorCards
import Derived.Test.YtnhgnfflihoaiaaDoorTie
import Derived.ProofKit
import Derived.Lib.LaidTab
namespace Go.Proofs.YtnhgnfflihoaiaaDoor
open Go Go.Vc Go.ChangeShapes Go.WideShapes Go.RowKit

theorem own : ownKnob PP.godebug = none := by kernel_rfl
theorem laidOut : laidOutB PP = true := by kernel_rfl
theorem gTab : PP.globalNamed "sherd/sum.steps" = some G_sum_steps := by kernel_rfl
theorem gTabType : (PP.globals[G_sum_steps]?).map (·.type) = some Ty_16_uint32 := by kernel_rfl
theorem undAr : PP.underlying Ty_16_uint32 = some (.array 16 Ty_uint32) := by kernel_rfl
theorem undU32 : PP.underlying Ty_uint32 = some (.int .u32) := by kernel_rfl
theorem cellsAr : PP.cellsOf Ty_16_uint32 = 16 := by kernel_rfl
theorem cellsU32 : PP.cellsOf Ty_uint32 = 1 := by kernel_rfl
theorem cells_uint8 : PP.cellsOf Ty_uint8 = 1 := by kernel_rfl
theorem bytes_uint8 : PP.bytesOf Ty_uint8 = 1 := by kernel_rfl
theorem und_bool : PP.underlying Ty_bool = some .bool := by kernel_rfl
theorem cells_Update : PP.cellsOf Ty_api_Update = 7 := by kernel_rfl
theorem bytes_Update : PP.bytesOf Ty_api_Update = 72 := by kernel_rfl
theorem cells_int : PP.cellsOf Ty_int = 1 := by kernel_rfl
theorem cells_int64 : PP.cellsOf Ty_int64 = 1 := by kernel_rfl
theorem und_int64 : PP.underlying Ty_int64 = some (.int .i64) := by kernel_rfl
theorem cells_bool : PP.cellsOf Ty_bool = 1 := by kernel_rfl
theorem cells_string : PP.cellsOf Ty_string = 1 := by kernel_rfl
theorem cells_Entry : PP.cellsOf Ty_api_Entry = 5 := by kernel_rfl
theorem cells_Tag : PP.cellsOf Ty_api_Tag = 2 := by kernel_rfl
theorem cells_Config : PP.cellsOf Ty_api_Config = 3 := by kernel_rfl
theorem cells_Head : PP.cellsOf Ty_api_Head = 4 := by kernel_rfl
theorem cells_slu8 : PP.cellsOf Ty_sl_uint8 = 1 := by kernel_rfl
def zsSteps : List Int := [0, 498536548, 997073096, 651767980, 1994146192, 1802195444, 1303535960, 1342533948, 3988292384, 4027552580, 3604390888, 3412177804, 2607071920, 2262029012, 2685067896, 3183342108]
theorem steps_tab : ∀ i : Fin 16, zsSteps.getD i.val 0 = ((tab i.val).toNat : Int) := by decide +kernel
theorem given {W : World} (h : laidMetH PP [("sherd/sum.steps", Rows.laid_sherd_sum_steps)] W) : GT W := by
  have h1 : laidMet PP (("sherd/sum.steps", Lib.tabData .u32 zsSteps) :: []) W := h
  have h2 := Lib.tabIs_of_head (rest := []) gTab gTabType undAr undU32 cellsU32 cellsAr h1
  intro i hi
  have h3 := h2.cell gTab i hi
  rw [blk_add, h3, steps_tab ⟨i, hi⟩]

section
variable {H : Type} {enc : TypeId × Value → H} {w : World} {cs : List Value}
theorem len7 {α : Type} {l : List α} (h : l.length = 7) : ∃ a b c d e f g, l = [a, b, c, d, e, f, g] := by
  match l, h with
  | [a, b, c, d, e, f, g], _ => exact ⟨a, b, c, d, e, f, g, rfl⟩
theorem len4 {α : Type} {l : List α} (h : l.length = 4) : ∃ a b c d, l = [a, b, c, d] := by
  match l, h with
  | [a, b, c, d], _ => exact ⟨a, b, c, d, rfl⟩
theorem open_head (h : Rd enc PP w Ty_api_Head cs) : ∃ a b c d : Int, cs = [.int .i64 a, .int .i64 b, .int .i64 c, .int .i64 d] := by
  have hl := h.len (i := 0) (off := 0) (u := Ty_api_Config) (by kernel_rfl)
  rw [cells_Head] at hl
  obtain ⟨a, b, c, d, rfl⟩ := len4 hl
  have hc := h.fld (i := 0) (off := 0) (u := Ty_api_Config) (by kernel_rfl)
  have hd := h.fld (i := 1) (off := 3) (u := Ty_int) (by kernel_rfl)
  rw [cells_Config] at hc
  rw [cells_int] at hd
  have h0 := hc.fld (i := 0) (off := 0) (u := Ty_int) (by kernel_rfl)
  have h1 := hc.fld (i := 1) (off := 1) (u := Ty_int) (by kernel_rfl)
  have h2 := hc.fld (i := 2) (off := 2) (u := Ty_int) (by kernel_rfl)
  rw [cells_int] at h0 h1 h2
  obtain ⟨n0, e0, _⟩ := h0.int und_int
  obtain ⟨n1, e1, _⟩ := h1.int und_int
  obtain ⟨n2, e2, _⟩ := h2.int und_int
  obtain ⟨n3, e3, _⟩ := hd.int und_int
  simp at e0 e1 e2 e3
  subst e0 e1 e2 e3
  exact ⟨n0, n1, n2, n3, rfl⟩
theorem open_update (h : Rd enc PP w Ty_api_Update cs) : ∃ u : Upd, cs = u.cells ∧ Byt w u.data u.ds ∧ u.ds.length ≤ reachBytes := by
  have hl := h.len (i := 0) (off := 0) (u := Ty_int) (by kernel_rfl)
  rw [cells_Update] at hl
  obtain ⟨a, b, c, d, e, f, g, rfl⟩ := len7 hl
  have hk := h.fld (i := 0) (off := 0) (u := Ty_int) (by kernel_rfl)
  have hy := h.fld (i := 1) (off := 1) (u := Ty_string) (by kernel_rfl)
  have he := h.fld (i := 2) (off := 2) (u := Ty_api_Entry) (by kernel_rfl)
  rw [cells_int] at hk
  rw [cells_string] at hy
  rw [cells_Entry] at he
  have ht := he.fld (i := 0) (off := 0) (u := Ty_api_Tag) (by kernel_rfl)
  have hf := he.fld (i := 1) (off := 2) (u := Ty_bool) (by kernel_rfl)
  have hh := he.fld (i := 2) (off := 3) (u := Ty_bool) (by kernel_rfl)
  have hd := he.fld (i := 3) (off := 4) (u := Ty_sl_uint8) (by kernel_rfl)
  rw [cells_Tag] at ht
  rw [cells_bool] at hf hh
  rw [cells_slu8] at hd
  have h0 := ht.fld (i := 0) (off := 0) (u := Ty_int64) (by kernel_rfl)
  have h1 := ht.fld (i := 1) (off := 1) (u := Ty_int) (by kernel_rfl)
  rw [cells_int64] at h0
  rw [cells_int] at h1
  obtain ⟨n0, e0, _⟩ := hk.int und_int
  obtain ⟨n1, e1, _⟩ := hy.str und_string
  obtain ⟨n2, e2, _⟩ := h0.int und_int64
  obtain ⟨n3, e3, _⟩ := h1.int und_int
  obtain ⟨n4, e4⟩ := hf.bool und_bool
  obtain ⟨n5, e5⟩ := hh.bool und_bool
  obtain ⟨s, bs, e6, hB, hlen⟩ := hd.bytes slT_sl_uint8.ut und_uint8 cells_uint8 bytes_uint8
  simp at e0 e1 e2 e3 e4 e5 e6
  subst e0 e1 e2 e3 e4 e5 e6
  exact ⟨⟨n0, n1, n2, n3, n4, n5, s, bs⟩, rfl, hB, hlen⟩
theorem open_updates (h : Rd enc PP w Ty_sl_api_Update cs) : ∃ (s : Slc) (l : List Upd), cs = [s.v] ∧ Ups w s l ∧ l.length * 72 ≤ reachBytes := by
  obtain ⟨s, hs, hl, hr, hi⟩ := h.slice slT_sl_api_Update.ut
  rw [cells_Update] at hi
  rw [bytes_Update] at hr
  obtain ⟨l, h1, h2⟩ := choice (R := fun i (u : Upd) => (∃ a, s.a = some a ∧ ∀ j v, u.cells[j]? = some v → w.cell? (a.add (i * 7 + j)) = some v) ∧ Byt w u.data u.ds ∧ u.ds.length ≤ reachBytes) (n := s.l) fun i hlt => by
    obtain ⟨a, cs', ha, hl', hc, hd⟩ := hi i hlt
    obtain ⟨u, rfl, hB, hlen⟩ := open_update hd
    exact ⟨u, ⟨a, ha, hc⟩, hB, hlen⟩
  refine ⟨s, l, hs, ⟨⟨by rw [Upd.flat_len, h1], hl, fun i v hv => ?_⟩, fun u hu => ?_⟩, by rw [h1]; exact hr⟩
  · have hlt : i < l.length * 7 := by
      have := (List.getElem?_eq_some_iff.1 hv).1
      rwa [Upd.flat_len] at this
    have hk : i / 7 < l.length := by omega
    have e : i = i / 7 * 7 + i % 7 := by omega
    rw [e, Upd.flat l (i / 7) (i % 7) hk (by omega)] at hv
    obtain ⟨⟨a, ha, hc⟩, _⟩ := h2 (i / 7) hk
    refine ⟨a, ha, ?_⟩
    have := hc _ _ hv
    rwa [← e] at this
  · obtain ⟨i, hi', rfl⟩ := List.getElem_of_mem hu
    obtain ⟨_, hB, hlen⟩ := h2 i hi'
    exact ⟨hB, by unfold reachBytes at hlen; omega⟩
end

/-- A world for the witness: the settled one, the table holding what its initialiser lays. -/
noncomputable def laidWorld (os : Os) : World :=
  { World.holding PP os ⟨#[], #[], []⟩ with heap := (World.holding PP os ⟨#[], #[], []⟩).heap.modify G_sum_steps fun
      | .cells _ t frozen => .cells (zsSteps.map (Value.int .u32)).toArray t frozen
      | o => o }
end Go.Proofs.YtnhgnfflihoaiaaDoor
