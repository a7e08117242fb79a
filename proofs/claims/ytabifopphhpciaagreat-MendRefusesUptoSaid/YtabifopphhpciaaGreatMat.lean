/-
  Contracts of the package matrix: blank.
-/
import Derived.Test.YtabifopphhpciaaGreatGfMul
import Derived.Test.YtabifopphhpciaaGreatMkHp
namespace Go.Proofs.YtabifopphhpciaaGreat
open Go Go.Vc Go.Vc.Asn Go.Gf
/-- Rows of bytes: their slices, what they hold. -/
abbrev Rws := List (Slc × List UInt8)
def rwA (r : Slc × List UInt8) : Asn := own Ty_uint8 1 r.1 (r.2.map u8v)
def rwsA (s : Slc) (rs : Rws) : Asn := star (own Ty_sl_uint8 1 s (rs.map fun r => r.1.v)) (all rwA rs)
/-- A matrix. -/
def matA (p : Nat) (f : Option Addr) (s : Slc) (rs : Rws) : Asn := star (bk p Ty_matrix_Matrix #[.pointer f, s.v]) (rwsA s rs)
section
variable {p : Nat} {w0 w : World} {F : Asn}
theorem zcells (n : Nat) : (List.replicate n (Value.int .u8 0)) = (List.replicate n (0 : UInt8)).map u8v := by
  rw [List.map_replicate]; rfl
theorem all_snoc2 {α : Type} (f : α → Asn) (x : α) (l : List α) : Ent (star (f x) (all f l)) (all f (l ++ [x])) := by
  induction l with
  | nil => exact Ent.refl _
  | cons y r ih => exact left.trans (Ent.star (Ent.refl _) ih)
theorem blank_c {f : Option Addr} {m n : Nat} (hm : m ≤ 16777216) (hn : n ≤ 16777216) (H : Hp w0 w F) :
    Calls PP F_matrix_blank #[.pointer f, .int .i64 (m : Int), .int .i64 (n : Int)] w (Rt fun v w' => ∃ p s rs, v = .pointer (some (blk p)) ∧ rs.map (·.2) = List.replicate m (List.replicate n 0) ∧ Hp w0 w' (star (matA p f s rs) F)) := by
  refine sim_matrix_blank _ _ _ _ _ ?_
  unfold vc_matrix_blank
  refine Hp.make slT_sl_sl_uint8 rfl (by omega) hm H fun b6 w1 H => H.new fun b9 w2 H => ?_
  refine ⟨fun i w' => ∃ (j : Nat) (rs : Rws), i = (j : Int) ∧ j ≤ m ∧ rs.map (·.2) = List.replicate j (List.replicate n 0) ∧ Hp w0 w' (star (bk b9 Ty_matrix_Matrix #[.pointer f, Slc.v ⟨some (blk b6), m, m⟩]) (star (own Ty_sl_uint8 1 ⟨some (blk b6), m, m⟩ (rs.map (fun r => r.1.v) ++ List.replicate (m - j) (Slc.v Slc.nil))) (star (all rwA rs) F))), fun i _ => m - i.toNat, ⟨0, [], rfl, Nat.zero_le _, rfl, H.ent (Ent.star (Ent.refl _) (Ent.star (Ent.refl _) emp_l))⟩, ?_⟩
  rintro _ w3 ⟨j, rs, rfl, hj, hrs, H⟩
  have hrl : rs.length = j := by have := congrArg List.length hrs; simpa using this
  refine ⟨fun h => ?_, fun h => ?_⟩
  · have hlt : j < m := by simp only [decide_eq_true_eq] at h; omega
    have ewr : wr .i64 ((j : Int) + 1) = ((j + 1 : Nat) : Int) := by rw [wr64 (by omega) (by omega)]; omega
    have H := H.drew 1
    refine ⟨_, H.cell (b := b9) (i := 1) rfl, Hp.make slT_sl_uint8 rfl (by omega) hn H fun b25 w4 H => ⟨H.cell (b := b9) (i := 1) rfl, blk b6, rfl, by omega, by show (j : Int) < (m : Int); omega, ?_⟩⟩
    rw [Int.toNat_natCast, Nat.mul_one]
    refine (H.own ⟨some (blk b6), m, m⟩).stoS (s := ⟨some (blk b6), m, m⟩) (i := j) (by simp; omega) rfl fun w5 H => ?_
    refine ⟨⟨j + 1, rs ++ [(⟨some (blk b25), n, n⟩, List.replicate n 0)], by rw [ewr], by omega, ?_, ?_⟩, by dsimp only; rw [ewr]; omega⟩
    · rw [List.map_append, hrs, List.replicate_succ']; rfl
    · have e1 : (rs.map (fun r => r.1.v) ++ List.replicate (m - j) (Slc.v Slc.nil)).set j (⟨some (blk b25), n, n⟩ : Slc).v = (rs ++ [((⟨some (blk b25), n, n⟩ : Slc), List.replicate n 0)]).map (fun r : Slc × List UInt8 => r.1.v) ++ List.replicate (m - (j + 1)) (Slc.v Slc.nil) := by
        rw [List.set_append_right _ _ (by simp; omega), List.length_map, hrl, Nat.sub_self, show m - j = (m - (j + 1)) + 1 by omega, List.replicate_succ, List.set_cons_zero, List.map_append, List.append_assoc]
        rfl
      rw [e1, zcells] at H
      have H := ((H.own ⟨some (blk b25), n, n⟩).ent (Ent.star (Ent.refl _) (Ent.bring (P := all rwA rs) (Ent.refl _)))).assoc'
      have H := H.ent (Ent.star (all_snoc2 rwA (⟨some (blk b25), n, n⟩, List.replicate n 0) rs) (Ent.refl _))
      exact (H.own ⟨some (blk b6), m, m⟩).blk b9
  · have hje : j = m := by simp only [decide_eq_false_iff_not] at h; omega
    subst hje
    rw [Nat.sub_self, List.replicate_zero, List.append_nil] at H
    refine Rt.ok ⟨b9, ⟨some (blk b6), j, j⟩, rs, rfl, hrs, ?_⟩
    exact (H.ent (Ent.star (Ent.refl _) Asn.assoc')).assoc'
end
end Go.Proofs.YtabifopphhpciaaGreat
