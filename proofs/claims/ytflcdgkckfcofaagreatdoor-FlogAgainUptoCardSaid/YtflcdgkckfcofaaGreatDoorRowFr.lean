/-
  Rows that are new stay. A text over record's words.
-/
import Derived.Test.YtflcdgkckfcofaaGreatDoorRecord
namespace Go.Proofs.YtflcdgkckfcofaaGreatDoor
open Go Go.Vc
theorem Row.fr {S : List Nat} {w0 w w' : World} {s : Slc} {bs : List UInt8} (h : Row w0 w s bs) (f : Fr S w w') (hS : ∀ k ∈ S, k < w0.heap.size ∨ ∃ T cs, T ≠ Ty_uint8 ∧ Blk w k T cs) : Row w0 w' s bs := by
  refine ⟨h.own.fr f fun k hk hx => ?_, h.new⟩
  rcases hS k hx with h1 | ⟨T, cs, h1, h2⟩
  · have := h.new k hk; omega
  · exact h.own.ne h2 (Ne.symm h1) hk
theorem Row.since {w0 w1 w : World} {s : Slc} {bs : List UInt8} (h : Row w1 w s bs) (hs : w0.heap.size ≤ w1.heap.size) : Row w0 w s bs := ⟨h.own, fun k hk => Nat.le_trans hs (h.new k hk)⟩
structure Upd where
  kind : Int
  key : ByteArray
  cnt : Int
  cli : Int
  fin : Bool
  has : Bool
  data : Slc
  ds : List UInt8
def Upd.cells (u : Upd) : List Value := [.int .i64 u.kind, .string u.key, .int .i64 u.cnt, .int .i64 u.cli, .bool u.fin, .bool u.has, u.data.v]
theorem Upd.flat (l : List Upd) : ∀ (k j : Nat) (h : k < l.length), j < 7 → (l.map Upd.cells).flatten[k * 7 + j]? = (l[k].cells)[j]? := by
  induction l with
  | nil => intro k j h; simp at h
  | cons u r ih =>
    intro k j h hj
    cases k with
    | zero => simp only [List.map_cons, List.flatten_cons, List.getElem_cons_zero]; rw [List.getElem?_append_left (by simp [Upd.cells]; omega)]; congr 1; omega
    | succ k =>
      simp only [List.map_cons, List.flatten_cons, List.getElem_cons_succ]
      rw [List.getElem?_append_right (by simp [Upd.cells]; omega), ← ih k j (by simpa using h) hj]
      congr 1
      simp [Upd.cells]; omega
theorem Upd.flat_len (l : List Upd) : (l.map Upd.cells).flatten.length = l.length * 7 := by
  induction l with
  | nil => rfl
  | cons u r ih => simp [Upd.cells] at ih ⊢; omega
structure Ups (w : World) (s : Slc) (l : List Upd) : Prop where
  cel : Cel w s 7 (l.map Upd.cells).flatten
  dat : ∀ u ∈ l, Byt w u.data u.ds ∧ u.ds.length ≤ 140737488355000
theorem Ups.len {w : World} {s : Slc} {l : List Upd} (h : Ups w s l) : s.l = l.length := by
  have := h.cel.len
  rw [Upd.flat_len] at this
  omega
theorem Ups.fr0 {w w' : World} {s : Slc} {l : List Upd} (h : Ups w s l) (f : Fr [] w w') : Ups w' s l := ⟨h.cel.fr0 f, fun u hu => ⟨(h.dat u hu).1.fr0 f, (h.dat u hu).2⟩⟩
theorem Ups.get {w : World} {s : Slc} {l : List Upd} (h : Ups w s l) {k : Nat} (hk : k < l.length) : ∃ p, s.a = some p ∧ ∀ (j : Nat) (v : Value), (l[k].cells)[j]? = some v → w.cell? ((p.add ((k : Int).toNat * 7)).add j) = some v := by
  have h0 : k * 7 + 0 < (l.map Upd.cells).flatten.length := by rw [Upd.flat_len]; omega
  obtain ⟨p, hp, _⟩ := h.cel.get h0
  refine ⟨p, hp, fun j v hv => ?_⟩
  have hj : j < 7 := (List.getElem?_eq_some_iff.1 hv).1
  rw [← Upd.flat l k j hk hj] at hv
  obtain ⟨q, hq, hc⟩ := h.cel.at_ _ _ hv
  rw [hp] at hq
  injection hq with hq
  subst hq
  rw [add_add, Int.toNat_natCast]
  exact hc
end Go.Proofs.YtflcdgkckfcofaaGreatDoor
