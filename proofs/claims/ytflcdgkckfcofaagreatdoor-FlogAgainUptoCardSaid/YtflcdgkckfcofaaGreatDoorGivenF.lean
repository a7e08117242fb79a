/-
  What a row of the log's statements gives: the errors' type, the sums' table, the arguments opened. The world of the witness.
-/
import Derived.Test.YtflcdgkckfcofaaGreatDoorLawUp
import Derived.Test.YtflcdgkckfcofaaGreatDoorLawF
import Derived.Test.YtflcdgkckfcofaaGreatDoorCards
import Derived.Test.YtflcdgkckfcofaaGreatDoorTie
import Derived.LaidHandle
import Derived.LaidLaws
import Derived.ProofKit
import Derived.Lib.LaidTab
namespace Go.Proofs.YtflcdgkckfcofaaGreatDoor
open Go Go.Vc Go.ChangeShapes Go.WideShapes Go.RowKit
theorem own : ownKnob PP.godebug = none := by kernel_rfl
theorem laidOut : laidOutB PP = true := by kernel_rfl
theorem gTab : PP.globalNamed "sherd/sum.steps" = some G_sum_steps := by kernel_rfl
theorem gTabType : (PP.globals[G_sum_steps]?).map (·.type) = some Ty_16_uint32 := by kernel_rfl
theorem undAr : PP.underlying Ty_16_uint32 = some (.array 16 Ty_uint32) := by kernel_rfl
theorem undU32 : PP.underlying Ty_uint32 = some (.int .u32) := by kernel_rfl
theorem cellsAr : PP.cellsOf Ty_16_uint32 = 16 := by kernel_rfl
theorem cellsU32 : PP.cellsOf Ty_uint32 = 1 := by kernel_rfl
theorem cells_uint8 : PP.cellsOf Ty_uint8 = 1 := by kernel_rfl
theorem bytes_uint8 : PP.bytesOf Ty_uint8 = 1 := by kernel_rfl
theorem und_bool : PP.underlying Ty_bool = some .bool := by kernel_rfl
theorem cells_Update : PP.cellsOf Ty_api_Update = 7 := by kernel_rfl
theorem cells_int : PP.cellsOf Ty_int = 1 := by kernel_rfl
theorem cells_int64 : PP.cellsOf Ty_int64 = 1 := by kernel_rfl
theorem und_int64 : PP.underlying Ty_int64 = some (.int .i64) := by kernel_rfl
theorem cells_bool : PP.cellsOf Ty_bool = 1 := by kernel_rfl
theorem cells_string : PP.cellsOf Ty_string = 1 := by kernel_rfl
theorem cells_Entry : PP.cellsOf Ty_api_Entry = 5 := by kernel_rfl
theorem cells_Tag : PP.cellsOf Ty_api_Tag = 2 := by kernel_rfl
theorem cells_Config : PP.cellsOf Ty_api_Config = 3 := by kernel_rfl
theorem cells_Head : PP.cellsOf Ty_api_Head = 4 := by kernel_rfl
theorem cells_slu8 : PP.cellsOf Ty_sl_uint8 = 1 := by kernel_rfl
theorem cells_slUpd : PP.cellsOf Ty_sl_api_Update = 1 := by kernel_rfl
theorem cells_slint : PP.cellsOf Ty_sl_int = 1 := by kernel_rfl
theorem cells_Op : PP.cellsOf Ty_sherdlaw14_Op = 9 := by kernel_rfl
theorem cells_slOp : PP.cellsOf Ty_sl_sherdlaw14_Op = 1 := by kernel_rfl
theorem cells_Life : PP.cellsOf Ty_sherdlaw14_Life = 18 := by kernel_rfl
def zsSteps : List Int := [0, 498536548, 997073096, 651767980, 1994146192, 1802195444, 1303535960, 1342533948, 3988292384, 4027552580, 3604390888, 3412177804, 2607071920, 2262029012, 2685067896, 3183342108]
theorem steps_tab : ∀ i : Fin 16, zsSteps.getD i.val 0 = ((tab i.val).toNat : Int) := by decide +kernel
theorem err_et : PP.globalNamed "errors.errorType" = some 0 := by kernel_rfl
theorem err_rt : (PP.cutTypes.find? (·.1 == "internal/reflectlite.rtype")).map (·.2) = some 210 := by kernel_rfl
theorem err_row : ((List.range 270).filter fun t => PP.rowNamed t [101, 114, 114, 111, 114]) = [83] := by kernel_rfl
theorem err_size : PP.types.size = 270 := by kernel_rfl
theorem given {W : World} (h : laidMetH PP [("errors.errorType", Rows.laid_errors_errorType), ("sherd/sum.steps", Rows.laid_sherd_sum_steps)] W) : ErrG W ∧ GT W := by
  have h' : laidMet PP [("sherd/sum.steps", Rows.laid_sherd_sum_steps)] W ∧ handlesMet PP [("errors.errorType", Rows.laid_errors_errorType)] W := h
  constructor
  · obtain ⟨name, u, ty, e1, e2, e3, e4, e5⟩ := h'.2 _ (List.mem_singleton.2 rfl)
    have en : name = [101, 114, 114, 111, 114] := (Option.some.inj e1).symm
    subst en
    obtain rfl := Option.some.inj (err_rt.symm.trans e2)
    have hm : ty ∈ (List.range 270).filter fun t => PP.rowNamed t [101, 114, 114, 111, 114] := List.mem_filter.2 ⟨List.mem_range.2 (by rw [← err_size]; exact e3), e4⟩
    rw [err_row] at hm
    obtain rfl := List.mem_singleton.1 hm
    have hh : typeHandle PP 83 = .pointer (some ⟨2, 83, none⟩) := by kernel_rfl
    rw [hh] at e5
    unfold ErrG
    simpa using World.var?_cell err_et e5 0
  · have h1 : laidMet PP (("sherd/sum.steps", Lib.tabData .u32 zsSteps) :: []) W := h'.1
    have h2 := Lib.tabIs_of_head (rest := []) gTab gTabType undAr undU32 cellsU32 cellsAr h1
    intro i hi
    have h3 := h2.cell gTab i hi
    rw [blk_add, h3, steps_tab ⟨i, hi⟩]
def putCells (cs : Array Value) : Obj → Obj
  | .cells _ t frozen => .cells cs t frozen
  | o => o
noncomputable def laidWorld (os : Os) : World :=
  { World.holding PP os ⟨#[], #[], []⟩ with heap := ((World.holding PP os ⟨#[], #[], []⟩).heap.modify 0 (putCells #[.iface 210 (.agg #[.pointer (some ⟨2, 83, none⟩)])])).modify G_sum_steps (putCells (zsSteps.map (Value.int .u32)).toArray) }
section
variable {H : Type} {enc : TypeId × Value → H} {P : Program} {w : World} {t : TypeId} {cs : List Value} {b : Nat}
theorem bulk_sum : ∀ l : List (DataW H), Rows.uptoBulkAll l = (l.map Rows.uptoBulk).sum
  | [] => rfl
  | d :: r => by simp [Rows.uptoBulkAll, bulk_sum r]
theorem Ru.sliceS {e : TypeId} (h : Ru enc P b w t cs) (ht : P.underlying t = some (.slice e)) :
    ∃ (s : Slc) (bs : List Nat), cs = [s.v] ∧ s.l ≤ s.c ∧ bs.length = s.l ∧ s.l ≤ b ∧ bs.sum ≤ b ∧ ∀ i (hi : i < bs.length), ∃ a cs', s.a = some a ∧ cs'.length = P.cellsOf e ∧ (∀ j v, cs'[j]? = some v → w.cell? (a.add (i * P.cellsOf e + j)) = some v) ∧ Ru enc P bs[i] w e cs' := by
  obtain ⟨fuel, x, h, hz, hb⟩ := h
  rcases DataW.trod_slice ht h with ⟨h1, _⟩ | ⟨a, len, cap, elems, rest, n, _, h1, hx, _, hl, hc, hel, he, hr, _⟩
  · exact ⟨Slc.nil, [], h1, Nat.le_refl _, rfl, by simp, by simp, fun i hi => by simp at hi⟩
  · subst hx
    simp only [Rows.uptoBulk] at hb
    have hbl := bulk_len (elems.map (·.1))
    rw [List.length_map] at hbl
    have hs := bulk_sum (elems.map (·.1))
    refine ⟨⟨some a, len, cap⟩, (elems.map (·.1)).map Rows.uptoBulk, h1, hl, by simp; omega, by simp only; omega, by omega, fun i hi => ?_⟩
    simp at hi
    have h2 := he i (by omega)
    rw [List.getElem?_eq_getElem (by omega)] at h2
    obtain ⟨cs', h3, h4⟩ := Option.bind_eq_some_iff.1 h2
    obtain ⟨_, h5, h6⟩ := World.cells?_some h3
    have hmem : (elems[i]'(by omega)).1 ∈ elems.map (·.1) := List.mem_map.2 ⟨_, List.getElem_mem _, rfl⟩
    refine ⟨a, cs', rfl, h5, fun j v hv => ?_, n, _, h4, fun m hm => hz m ?_, ?_⟩
    · have hj : j < P.cellsOf e := by have := (List.getElem?_eq_some_iff.1 hv).1; omega
      rw [← add_add, h6 j hj, hv]
    · simp only [DataW.weights, ht, List.mem_cons, List.mem_append]
      right; left
      exact weights_mem_all (d := (elems[i]'(by omega)).1) hmem hm
    · simp
end
section
variable {H : Type} {enc : TypeId × Value → H} {P : Program} {w : World} {t : TypeId} {cs : List Value} {b : Nat}
theorem Ru.two (h : Ru enc P b w t cs) {i off u : Nat} (hf : fldTyB P t i off u = true) : 2 ≤ b := by
  obtain ⟨fuel, x, h, hz, hb⟩ := h
  unfold fldTyB at hf
  split at hf
  · rename_i fs hu
    split at hf
    · rename_i f hfi
      obtain ⟨xs, n, _, hx, _, hl, hg⟩ := DataW.trod_struct hu h
      have hi : i < fs.size := (Array.getElem?_eq_some_iff.1 hfi).1
      rw [hx] at hb
      simp only [Rows.uptoBulk] at hb
      have h1 := bulk_part (d := (xs[i]'(by omega)).1) (l := xs.map (·.1)) (List.mem_map.2 ⟨_, List.getElem_mem _, rfl⟩)
      have h2 := bulk_one (xs[i]'(by omega)).1
      omega
    · cases hf
  · cases hf
end
theorem two_sum : ∀ (l : List Nat), (∀ i (h : i < l.length), 2 ≤ l[i]) → 2 * l.length ≤ l.sum
  | [], _ => by simp
  | x :: r, h => by
    have h1 := h 0 (by simp)
    have h2 := two_sum r fun i hi => h (i + 1) (by simpa using hi)
    simp at h1 ⊢
    omega
theorem le_sum : ∀ (l : List Nat) (i : Nat) (h : i < l.length), l[i] ≤ l.sum
  | x :: r, 0, _ => by simp
  | x :: r, i + 1, h => by have := le_sum r i (by simpa using h); simp only [List.getElem_cons_succ, List.sum_cons]; omega
theorem sum_le {α : Type} {f : α → Nat} : ∀ (l : List α) (bs : List Nat), l.length = bs.length → (∀ i (h : i < l.length) (h' : i < bs.length), f l[i] ≤ bs[i]) → (l.map f).sum ≤ bs.sum
  | [], [], _, _ => Nat.le_refl _
  | x :: r, y :: s, h, hi => by
    have h1 := hi 0 (by simp) (by simp)
    have h2 := sum_le r s (by simpa using h) fun i h h' => hi (i + 1) (by simpa using h) (by simpa using h')
    simp at h1 ⊢
    omega
section
variable {H : Type} {enc : TypeId × Value → H} {w : World} {cs : List Value} {b : Nat}
theorem len7 {α : Type} {l : List α} (h : l.length = 7) : ∃ a b c d e f g, l = [a, b, c, d, e, f, g] := by
  match l, h with
  | [a, b, c, d, e, f, g], _ => exact ⟨a, b, c, d, e, f, g, rfl⟩
theorem len4 {α : Type} {l : List α} (h : l.length = 4) : ∃ a b c d, l = [a, b, c, d] := by
  match l, h with
  | [a, b, c, d], _ => exact ⟨a, b, c, d, rfl⟩
theorem len9 {α : Type} {l : List α} (h : l.length = 9) : ∃ a b c d e f g h' i, l = [a, b, c, d, e, f, g, h', i] := by
  match l, h with
  | [a, b, c, d, e, f, g, h', i], _ => exact ⟨a, b, c, d, e, f, g, h', i, rfl⟩
theorem len18 {α : Type} {l : List α} (h : l.length = 18) : ∃ a b c d e f g h' i j k m n o p q r s, l = [a, b, c, d, e, f, g, h', i, j, k, m, n, o, p, q, r, s] := by
  match l, h with
  | [a, b, c, d, e, f, g, h', i, j, k, m, n, o, p, q, r, s], _ => exact ⟨a, b, c, d, e, f, g, h', i, j, k, m, n, o, p, q, r, s, rfl⟩
theorem ru_int (h : Ru enc PP b w Ty_int cs) : ∃ n, cs = [.int .i64 n] ∧ -9223372036854775808 ≤ n ∧ n ≤ 9223372036854775807 := by
  obtain ⟨n, hn, hwf⟩ := h.int und_int
  simp only [Lit.wf, Bool.and_eq_true, decide_eq_true_eq] at hwf
  have e1 : IntKind.i64.min = -9223372036854775808 := rfl
  have e2 : IntKind.i64.max = 9223372036854775807 := rfl
  rw [e1, e2] at hwf
  exact ⟨n, hn, hwf⟩
theorem ru_update (h : Ru enc PP b w Ty_api_Update cs) : ∃ u : Upd, cs = u.cells ∧ Byt w u.data u.ds ∧ u.ds.length ≤ b := by
  have hl := h.len (i := 0) (off := 0) (u := Ty_int) (by kernel_rfl)
  rw [cells_Update] at hl
  obtain ⟨a, bb, c, d, e, f, g, rfl⟩ := len7 hl
  have hk := h.fld (i := 0) (off := 0) (u := Ty_int) (by kernel_rfl)
  have hy := h.fld (i := 1) (off := 1) (u := Ty_string) (by kernel_rfl)
  have he := h.fld (i := 2) (off := 2) (u := Ty_api_Entry) (by kernel_rfl)
  rw [cells_int] at hk
  rw [cells_string] at hy
  rw [cells_Entry] at he
  have ht := he.fld (i := 0) (off := 0) (u := Ty_api_Tag) (by kernel_rfl)
  have hf := he.fld (i := 1) (off := 2) (u := Ty_bool) (by kernel_rfl)
  have hh := he.fld (i := 2) (off := 3) (u := Ty_bool) (by kernel_rfl)
  have hd := he.fld (i := 3) (off := 4) (u := Ty_sl_uint8) (by kernel_rfl)
  rw [cells_Tag] at ht
  rw [cells_bool] at hf hh
  rw [cells_slu8] at hd
  have h0 := ht.fld (i := 0) (off := 0) (u := Ty_int64) (by kernel_rfl)
  have h1 := ht.fld (i := 1) (off := 1) (u := Ty_int) (by kernel_rfl)
  rw [cells_int64] at h0
  rw [cells_int] at h1
  obtain ⟨n0, e0, _⟩ := hk.int und_int
  obtain ⟨n1, e1, _⟩ := hy.str und_string
  obtain ⟨n2, e2, _⟩ := h0.int und_int64
  obtain ⟨n3, e3, _⟩ := h1.int und_int
  obtain ⟨n4, e4⟩ := hf.bool und_bool
  obtain ⟨n5, e5⟩ := hh.bool und_bool
  obtain ⟨s, bs, e6, hB, hlen⟩ := hd.bytes slT_sl_uint8.ut und_uint8 cells_uint8 bytes_uint8
  simp at e0 e1 e2 e3 e4 e5 e6
  subst e0 e1 e2 e3 e4 e5 e6
  exact ⟨⟨n0, n1, n2, n3, n4, n5, s, bs⟩, rfl, hB, hlen⟩
theorem ru_updates (hb : b ≤ 1048576) (h : Ru enc PP b w Ty_sl_api_Update cs) : ∃ (s : Slc) (l : List Upd), cs = [s.v] ∧ Ups w s l ∧ l.length ≤ b := by
  obtain ⟨s, l, h1, h2, h3, h4, h5⟩ := h.elems (R := fun (u : Upd) cs => cs = u.cells ∧ Byt w u.data u.ds ∧ u.ds.length ≤ b) slT_sl_api_Update.ut fun cs' h' => ru_update h'
  rw [cells_Update] at h5
  refine ⟨s, l, h1, ⟨⟨by rw [Upd.flat_len, h2], h3, fun i v hv => ?_⟩, fun u hu => ?_⟩, h4⟩
  · have hlt : i < l.length * 7 := by
      have := (List.getElem?_eq_some_iff.1 hv).1
      rwa [Upd.flat_len] at this
    have hk : i / 7 < l.length := by omega
    have e : i = i / 7 * 7 + i % 7 := by omega
    rw [e, Upd.flat l (i / 7) (i % 7) hk (by omega)] at hv
    obtain ⟨a, cs', ha, ⟨rfl, _⟩, _, hc⟩ := h5 (i / 7) hk
    refine ⟨a, ha, ?_⟩
    have := hc _ _ hv
    rwa [← e] at this
  · obtain ⟨i, hi', rfl⟩ := List.getElem_of_mem hu
    obtain ⟨_, _, _, ⟨_, hB, hlen⟩, _⟩ := h5 i hi'
    exact ⟨hB, by omega⟩
theorem ru_bool (h : Ru enc PP b w Ty_bool cs) : ∃ n, cs = [.bool n] := h.bool und_bool
theorem ru_ints (h : Ru enc PP b w Ty_sl_int cs) : ∃ (s : Slc) (l : List Int), cs = [s.v] ∧ Cel w s 1 (l.map fun x => Value.int .i64 x) ∧ l.length ≤ b := by
  obtain ⟨s, l, h1, h2, h3, h4, h5⟩ := h.elems (R := fun (m : Int) cs => cs = [.int .i64 m]) (show PP.underlying Ty_sl_int = some (.slice Ty_int) by kernel_rfl) fun cs' h' => by
    obtain ⟨n, e, _⟩ := ru_int h'
    exact ⟨n, e⟩
  rw [cells_int] at h5
  refine ⟨s, l, h1, ⟨by simp [h2], h3, fun i v hv => ?_⟩, h4⟩
  have hlt : i < l.length := by have := (List.getElem?_eq_some_iff.1 hv).1; simpa using this
  rw [List.getElem?_map, List.getElem?_eq_getElem hlt] at hv
  injection hv with hv
  obtain ⟨a, cs', ha, rfl, _, hc⟩ := h5 i hlt
  refine ⟨a, ha, ?_⟩
  have := hc 0 _ rfl
  rw [Nat.mul_one, Nat.add_zero] at this
  rw [this, ← hv]
theorem ru_head (h : Ru enc PP b w Ty_api_Head cs) : ∃ a b c d : Int, cs = [.int .i64 a, .int .i64 b, .int .i64 c, .int .i64 d] := by
  have hl := h.len (i := 0) (off := 0) (u := Ty_api_Config) (by kernel_rfl)
  rw [cells_Head] at hl
  obtain ⟨a, b, c, d, rfl⟩ := len4 hl
  have hc := h.fld (i := 0) (off := 0) (u := Ty_api_Config) (by kernel_rfl)
  have hd := h.fld (i := 1) (off := 3) (u := Ty_int) (by kernel_rfl)
  rw [cells_Config] at hc
  rw [cells_int] at hd
  have h0 := hc.fld (i := 0) (off := 0) (u := Ty_int) (by kernel_rfl)
  have h1 := hc.fld (i := 1) (off := 1) (u := Ty_int) (by kernel_rfl)
  have h2 := hc.fld (i := 2) (off := 2) (u := Ty_int) (by kernel_rfl)
  rw [cells_int] at h0 h1 h2
  obtain ⟨n0, e0, _⟩ := ru_int h0
  obtain ⟨n1, e1, _⟩ := ru_int h1
  obtain ⟨n2, e2, _⟩ := ru_int h2
  obtain ⟨n3, e3, _⟩ := ru_int hd
  simp at e0 e1 e2 e3
  subst e0 e1 e2 e3
  exact ⟨n0, n1, n2, n3, rfl⟩
theorem ru_two {s : Slc} (h : Ru enc PP b w Ty_sl_api_Update [s.v]) : 2 * s.l ≤ b := by
  obtain ⟨s', bs, e, _, hl, _, hsum, hi⟩ := h.sliceS slT_sl_api_Update.ut
  obtain rfl : s = s' := slc_of (s := s) (s' := s') e
  have := two_sum bs fun i hi' => by
    obtain ⟨_, _, _, _, _, hr⟩ := hi i hi'
    exact hr.two (i := 0) (off := 0) (u := Ty_int) (by kernel_rfl)
  omega
def OpR (w : World) (o : OpV) : Prop := Ups w o.us o.ul ∧ ∃ zs : List Int, Cel w o.l 1 (zs.map fun x => Value.int .i64 x) ∧ zs.length ≤ 1048576
theorem ru_op (hb : b ≤ 1048576) (h : Ru enc PP b w Ty_sherdlaw14_Op cs) : ∃ o : OpV, cs = o.c ∧ OpR w o ∧ 2 * o.ul.length ≤ b := by
  have hl := h.len (i := 0) (off := 0) (u := Ty_int) (by kernel_rfl)
  rw [cells_Op] at hl
  obtain ⟨a, bb, c, d, e, f, g, h', i, rfl⟩ := len9 hl
  have h0 := h.fld (i := 0) (off := 0) (u := Ty_int) (by kernel_rfl)
  have h1 := h.fld (i := 1) (off := 1) (u := Ty_sl_api_Update) (by kernel_rfl)
  have h2 := h.fld (i := 2) (off := 2) (u := Ty_int) (by kernel_rfl)
  have h3 := h.fld (i := 3) (off := 3) (u := Ty_bool) (by kernel_rfl)
  have h4 := h.fld (i := 4) (off := 4) (u := Ty_sl_int) (by kernel_rfl)
  have h5 := h.fld (i := 5) (off := 5) (u := Ty_api_Head) (by kernel_rfl)
  rw [cells_int] at h0 h2
  rw [cells_slUpd] at h1
  rw [cells_bool] at h3
  rw [cells_slint] at h4
  rw [cells_Head] at h5
  obtain ⟨n0, e0, _⟩ := ru_int h0
  obtain ⟨s1, l1, e1, hU, hl1⟩ := ru_updates hb h1
  obtain ⟨n2, e2, _⟩ := ru_int h2
  obtain ⟨n3, e3⟩ := ru_bool h3
  obtain ⟨s4, z4, e4, hZ, hz⟩ := ru_ints h4
  obtain ⟨m1, m2, m3, m4, e5⟩ := ru_head h5
  simp at e0 e1 e2 e3 e4 e5
  obtain ⟨e5, e6, e7, e8⟩ := e5
  subst e0 e1 e2 e3 e4 e5 e6 e7 e8
  have h2 := ru_two h1
  exact ⟨⟨n0, s1, n2, n3, s4, m1, m2, m3, m4, l1⟩, rfl, ⟨hU, z4, hZ, by omega⟩, by have := hU.len; dsimp only; omega⟩
theorem ru_ops (hb : b ≤ 1048576) (h : Ru enc PP b w Ty_sl_sherdlaw14_Op cs) : ∃ (s : Slc) (ops : List OpV), cs = [s.v] ∧ Scr w s ops ∧ 2 * (ops.map fun o => o.ul.length).sum ≤ b := by
  obtain ⟨s, bs, h1, h2, h3, h4, h5, h6⟩ := h.sliceS (show PP.underlying Ty_sl_sherdlaw14_Op = some (.slice Ty_sherdlaw14_Op) by kernel_rfl)
  rw [cells_Op] at h6
  obtain ⟨ops, g1, g2⟩ := choice (R := fun i (o : OpV) => ∃ a, s.a = some a ∧ OpR w o ∧ (∀ h : i < bs.length, 2 * o.ul.length ≤ bs[i]) ∧ ∀ j v, o.c[j]? = some v → w.cell? (a.add (i * 9 + j)) = some v) (n := s.l) fun i hlt => by
    obtain ⟨a, cs', ha, hl', hc, hd⟩ := h6 i (by omega)
    have hle := le_sum bs i (by omega)
    obtain ⟨o, rfl, ho, hol⟩ := ru_op (by omega) hd
    exact ⟨o, a, ha, ho, fun _ => hol, hc⟩
  have hsum : 2 * (ops.map fun o => o.ul.length).sum ≤ b := by
    have e : 2 * (ops.map fun o => o.ul.length).sum = (ops.map fun o => 2 * o.ul.length).sum := by
      clear g1 g2
      induction ops with
      | nil => rfl
      | cons x r ih => simp only [List.map_cons, List.sum_cons]; omega
    rw [e]
    refine Nat.le_trans (sum_le ops bs (by omega) fun i hi hi' => ?_) h5
    obtain ⟨_, _, _, hl, _⟩ := g2 i hi
    exact hl hi'
  refine ⟨s, ops, h1, ⟨⟨?_, h2, fun i v hv => ?_⟩, fun o ho => ?_, ?_, by omega⟩, hsum⟩
  · have h2 : ∀ l : List OpV, (l.flatMap OpV.c).length = l.length * 9 := by
      intro l
      induction l with
      | nil => rfl
      | cons x r ih => rw [List.flatMap_cons, List.length_append, ih, List.length_cons]; simp [OpV.c]; omega
    rw [h2, g1]
  · have h2 : ∀ l : List OpV, (l.flatMap OpV.c).length = l.length * 9 := by
      intro l
      induction l with
      | nil => rfl
      | cons x r ih => rw [List.flatMap_cons, List.length_append, ih, List.length_cons]; simp [OpV.c]; omega
    have hlt : i < ops.length * 9 := by
      have := (List.getElem?_eq_some_iff.1 hv).1
      rwa [h2] at this
    have hk : i / 9 < ops.length := by omega
    have e : i = i / 9 * 9 + i % 9 := by omega
    rw [e, fm_get (f := OpV.c) (fun _ => rfl) ops (i / 9) (i % 9) hk (by omega)] at hv
    obtain ⟨a, ha, _, _, hc⟩ := g2 (i / 9) hk
    refine ⟨a, ha, ?_⟩
    have := hc _ _ hv
    rwa [← e] at this
  · obtain ⟨i, hi, rfl⟩ := List.getElem_of_mem ho
    obtain ⟨_, _, hO, _⟩ := g2 i hi
    exact hO.1
  · omega
theorem ru_life (hb : b ≤ 1048576) (h : Ru enc PP b w Ty_sherdlaw14_Life cs) : ∃ (x : LifeV) (ops : List OpV) (o : OpV), cs = x.c ∧ Scr w x.sc ops ∧ (o.kind = x.lk ∧ o.us = x.lu) ∧ OpR w o ∧ o.ul.length ≤ b ∧ (∃ z1 z2 : List Int, Cel w x.l 1 (z1.map fun x => Value.int .i64 x) ∧ z1.length ≤ b ∧ Cel w x.l2 1 (z2.map fun x => Value.int .i64 x) ∧ z2.length ≤ b) ∧ 2 * (ops.map fun o => o.ul.length).sum ≤ b ∧ 2 * o.ul.length ≤ b := by
  have hl := h.len (i := 0) (off := 0) (u := Ty_int) (by kernel_rfl)
  rw [cells_Life] at hl
  obtain ⟨c0, c1, c2, c3, c4, c5, c6, c7, c8, c9, c10, c11, c12, c13, c14, c15, c16, c17, rfl⟩ := len18 hl
  have h0 := h.fld (i := 0) (off := 0) (u := Ty_int) (by kernel_rfl)
  have h1 := h.fld (i := 1) (off := 1) (u := Ty_int) (by kernel_rfl)
  have h2 := h.fld (i := 2) (off := 2) (u := Ty_int) (by kernel_rfl)
  have h3 := h.fld (i := 3) (off := 3) (u := Ty_sl_sherdlaw14_Op) (by kernel_rfl)
  have h4 := h.fld (i := 4) (off := 4) (u := Ty_sherdlaw14_Op) (by kernel_rfl)
  have h5 := h.fld (i := 5) (off := 13) (u := Ty_int) (by kernel_rfl)
  have h6 := h.fld (i := 6) (off := 14) (u := Ty_bool) (by kernel_rfl)
  have h7 := h.fld (i := 7) (off := 15) (u := Ty_sl_int) (by kernel_rfl)
  have h8 := h.fld (i := 8) (off := 16) (u := Ty_int) (by kernel_rfl)
  have h9 := h.fld (i := 9) (off := 17) (u := Ty_sl_int) (by kernel_rfl)
  rw [cells_int] at h0 h1 h2 h5 h8
  rw [cells_slOp] at h3
  rw [cells_Op] at h4
  rw [cells_bool] at h6
  rw [cells_slint] at h7 h9
  obtain ⟨n0, e0, _⟩ := ru_int h0
  obtain ⟨n1, e1, _⟩ := ru_int h1
  obtain ⟨n2, e2, _⟩ := ru_int h2
  obtain ⟨s3, ops, e3, hS, hS2⟩ := ru_ops hb h3
  obtain ⟨o, e4, hO, hol⟩ := ru_op hb h4
  obtain ⟨n5, e5, _⟩ := ru_int h5
  obtain ⟨n6, e6⟩ := ru_bool h6
  obtain ⟨s7, z7, e7, hZ7, hz7⟩ := ru_ints h7
  obtain ⟨n8, e8, _⟩ := ru_int h8
  obtain ⟨s9, z9, e9, hZ9, hz9⟩ := ru_ints h9
  simp [OpV.c] at e0 e1 e2 e3 e4 e5 e6 e7 e8 e9
  obtain ⟨a1, a2, a3, a4, a5, a6, a7, a8, a9⟩ := e4
  subst e0 e1 e2 e3 e5 e6 e7 e8 e9 a1 a2 a3 a4 a5 a6 a7 a8 a9
  exact ⟨⟨n0, n1, n2, s3, o.kind, o.us, o.n, o.y, o.l, o.h1, o.h2, o.h3, o.h4, n5, n6, s7, n8, s9⟩, ops, o, rfl, hS, ⟨rfl, rfl⟩, hO, by omega, ⟨z7, z9, hZ7, hz7, hZ9, hz9⟩, hS2, hol⟩
end
section
variable {H : Type} {enc : TypeId × Value → H} {w : World} {b : Nat} {x : LifeV}
end
end Go.Proofs.YtflcdgkckfcofaaGreatDoor
