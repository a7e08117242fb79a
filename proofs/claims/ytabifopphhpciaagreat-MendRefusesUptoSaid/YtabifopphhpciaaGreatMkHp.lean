/-
  make of a slice, by parts. Nothing of any program stands here.
-/
import Derived.Test.YtabifopphhpciaaGreatSep
import Derived.Laws.MakeOwn
namespace Go.Vc
open Go Go.Vc.Asn
theorem Asn.Ent.bring {P A F B : Asn} [h : Take P A F] (k : Ent F B) : Ent A (Asn.star P B) := h.e.trans (Ent.star (Ent.refl P) k)
theorem made_one {z : Value} (hz : z.cells = #[z]) (n : Nat) : madeCells z.cells (n * 1) = (List.replicate n z).toArray := by
  rw [hz, Nat.mul_one]
  apply Array.ext
  · simp [madeCells]
  · intro i h1 h2
    simp [madeCells, Nat.mod_one]
theorem Hp.make {P : Program} {t e bytes n : Nat} {z : Value} (T : SlT P t e 1 bytes z) (hz : z.cells = #[z]) {w0 w : World} {A : Asn} {K : Slc → World → Prop} (hb : bytes * n ≤ 281474976710656) (hn : n ≤ 16777216) (H : Hp w0 w A)
    (k : ∀ b w', Hp w0 w' (star (Asn.own e 1 ⟨some (Vc.blk b), n, n⟩ (List.replicate n z)) A) → K ⟨some (Vc.blk b), n, n⟩ w') : Mk P t w (.int .i64 (n : Int)) (.int .i64 (n : Int)) K := by
  cases hi : P.info? e with
  | none => have := T.info; rw [hi] at this; simp at this
  | some i =>
    have hinfo := T.info
    rw [hi] at hinfo
    simp only [Option.map_some, Option.some.injEq, Prod.mk.injEq] at hinfo
    obtain ⟨h1, h2, h3⟩ := hinfo
    have hb2 : (bytes : Int) * (n : Int) ≤ 281474976710656 := by
      have h : ((bytes * n : Nat) : Int) ≤ 281474976710656 := by omega
      rwa [Int.natCast_mul] at h
    have hr := run_makeSlice (P := P) (w := w) t e i z T.ut hi h1 .i64 .i64 (n : Int) (n : Int) (by omega) (Int.le_refl _) (by rw [h2]; omega) (by rw [h3]; exact hb2) (by omega)
    refine ⟨⟨some (Vc.blk w.heap.size), n, n⟩, _, hr, ?_⟩
    simp only [Int.toNat_natCast]
    rw [h2, made_one hz]
    exact k _ _ (H.row (b := w.heap.size) ⟨rfl, rfl⟩ rfl (by simp) (by unfold maxLen; omega))
end Go.Vc
