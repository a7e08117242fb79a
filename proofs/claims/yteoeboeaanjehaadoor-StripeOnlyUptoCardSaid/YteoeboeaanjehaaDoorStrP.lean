/-
  Values cut into rows, and the value of rows. A plain text: lists of bytes, and the names of Go's arithmetic.
-/
import Derived.Test.YteoeboeaanjehaaDoorGen
import Derived.Test.YteoeboeaanjehaaDoorPure
namespace Go.Vc
open Go
theorem or_shl2 {n x k : Nat} (hk : k ≤ 24) (hn : n < 2 ^ k) (hx : x < 256) : orI .i64 (n : Int) (shlI .i64 (x : Int) (k : Int)) = ((n + x * 2 ^ k : Nat) : Int) := by
  have hp : 2 ^ k ≤ 2 ^ 24 := Nat.pow_le_pow_right (by omega) hk
  have hxb : x * 2 ^ k ≤ 255 * 2 ^ 24 := Nat.mul_le_mul (by omega) hp
  have e1 : shlI .i64 (x : Int) (k : Int) = ((x * 2 ^ k : Nat) : Int) := by
    unfold shlI
    have e : min (Int.toNat (k : Int)) IntKind.i64.bits = k := by
      have : IntKind.i64.bits = 64 := rfl
      rw [this, Int.toNat_natCast]; omega
    rw [e]
    have e2 : (x : Int) * 2 ^ k = ((x * 2 ^ k : Nat) : Int) := by simp
    rw [e2]
    have := wr64 (n := ((x * 2 ^ k : Nat) : Int)) (by omega) (by omega)
    exact this
  rw [e1]
  unfold orI
  have hz : n ||| (x * 2 ^ k) = n + x * 2 ^ k := by
    rw [Nat.mul_comm x, Nat.add_comm, Nat.or_comm]
    exact (Nat.two_pow_add_eq_or_of_lt hn x).symm
  have e3 : (BitVec.ofInt IntKind.i64.bits (n : Int) ||| BitVec.ofInt IntKind.i64.bits ((x * 2 ^ k : Nat) : Int)).toNat = n + x * 2 ^ k := by
    rw [BitVec.toNat_or]
    have h1 : (BitVec.ofInt IntKind.i64.bits (n : Int)).toNat = n := by
      show (BitVec.ofInt 64 (n : Int)).toNat = n
      rw [BitVec.ofInt_natCast, BitVec.toNat_ofNat]
      exact Nat.mod_eq_of_lt (by omega)
    have h2 : (BitVec.ofInt IntKind.i64.bits ((x * 2 ^ k : Nat) : Int)).toNat = x * 2 ^ k := by
      show (BitVec.ofInt 64 ((x * 2 ^ k : Nat) : Int)).toNat = _
      rw [BitVec.ofInt_natCast, BitVec.toNat_ofNat]
      exact Nat.mod_eq_of_lt (by omega)
    rw [h1, h2, hz]
  rw [e3]
  exact wr64 (by omega) (by omega)
end Go.Vc
namespace Go.Gf
/-- How many bytes each of k rows has. -/
def sizeN (n k : Nat) : Nat := (n + 4 + k - 1) / k
theorem size_le {n k : Nat} (hk : 1 ≤ k) : n + 4 ≤ sizeN n k * k := by
  unfold sizeN
  have h1 := Nat.div_add_mod (n + 4 + k - 1) k
  have h2 := Nat.mod_lt (n + 4 + k - 1) (show 0 < k by omega)
  rw [Nat.mul_comm] at h1
  omega
theorem size_lt {n k : Nat} (hk : 1 ≤ k) : sizeN n k * k < n + 4 + k := by
  unfold sizeN
  have h1 := Nat.div_mul_le_self (n + 4 + k - 1) k
  omega
theorem size_pos {n k : Nat} (hk : 1 ≤ k) : 1 ≤ sizeN n k := by
  rcases Nat.eq_zero_or_pos (sizeN n k) with h | h
  · have := size_le (n := n) hk; rw [h] at this; omega
  · exact h
theorem size_bound {n k : Nat} (hk : 1 ≤ k) : sizeN n k ≤ n + 4 := by
  unfold sizeN
  have h : n + 4 + k - 1 ≤ (n + 4) * k := by
    have : (n + 4) * k = (n + 3) * k + k := Nat.succ_mul (n + 3) k
    have h2 : n + 3 ≤ (n + 3) * k := Nat.le_mul_of_pos_right _ (by omega)
    omega
  exact Nat.div_le_of_le_mul (by rw [Nat.mul_comm]; exact h)
theorem size_mono {n m k : Nat} (h : n ≤ m) : sizeN n k ≤ sizeN m k := Nat.div_le_div_right (by omega)
/-- A length's four bytes. -/
def len4 (n : Nat) : List UInt8 := [UInt8.ofNat n, UInt8.ofNat (n / 256), UInt8.ofNat (n / 65536), UInt8.ofNat (n / 16777216)]
def strp (v : List UInt8) (k : Nat) : List UInt8 := len4 v.length ++ v ++ List.replicate (sizeN v.length k * k - (v.length + 4)) 0
theorem strp_len (v : List UInt8) {k : Nat} (hk : 1 ≤ k) : (strp v k).length = sizeN v.length k * k := by
  have := size_le (n := v.length) hk
  unfold strp len4
  simp
  omega
/-- A list as k rows of s. -/
def rowsL (l : List UInt8) (k s : Nat) : List (List UInt8) := (List.range k).map fun i => (l.drop (i * s)).take s
theorem rowsL_len (l : List UInt8) (k s : Nat) : (rowsL l k s).length = k := by unfold rowsL; simp
theorem rowsL_at (l : List UInt8) {k s i : Nat} (hi : i < k) : (rowsL l k s)[i]'(by rw [rowsL_len]; exact hi) = (l.drop (i * s)).take s := by unfold rowsL; simp
theorem rowsL_shp {l : List UInt8} {k s : Nat} (h : l.length = s * k) : Shp (rowsL l k s) k s := ⟨rowsL_len _ _ _, fun r hr => by
  obtain ⟨i, hi, rfl⟩ := List.getElem_of_mem hr
  rw [rowsL_len] at hi
  rw [rowsL_at l hi, List.length_take, List.length_drop, h]
  have h1 : i * s + s ≤ s * k := by
    have : (i + 1) * s ≤ k * s := Nat.mul_le_mul_right _ (by omega)
    rw [Nat.mul_comm s k]
    rw [Nat.add_mul] at this
    omega
  omega⟩
theorem rowsL_flat : ∀ (k s : Nat) (l : List UInt8), l.length = s * k → (rowsL l k s).flatten = l
  | 0, s, l, h => by
    have : l = [] := List.length_eq_zero_iff.1 (by simpa using h)
    subst this; rfl
  | k + 1, s, l, h => by
    have ih := rowsL_flat k s (l.drop s) (by rw [List.length_drop, h, Nat.mul_add]; omega)
    have e : rowsL l (k + 1) s = l.take s :: rowsL (l.drop s) k s := by
      unfold rowsL
      rw [List.range_succ_eq_map, List.map_cons, List.map_map]
      congr 1
      · simp
      · refine List.map_congr_left fun i _ => ?_
        simp only [Function.comp, List.drop_drop]
        congr 2
        rw [Nat.succ_mul]; omega
    rw [e, List.flatten_cons, ih, List.take_append_drop]
theorem rowsL_of {D : List (List UInt8)} {k s : Nat} (h : Shp D k s) : rowsL D.flatten k s = D := by
  apply List.ext_getElem (by rw [rowsL_len, h.len])
  intro i h1 h2
  rw [rowsL_len] at h1
  rw [rowsL_at _ h1]
  have key : ∀ (D : List (List UInt8)) (i : Nat) (hi : i < D.length), (∀ r ∈ D, r.length = s) → (D.flatten.drop (i * s)).take s = D[i] := by
    intro D
    induction D with
    | nil => intro i hi; simp at hi
    | cons x r ih =>
      intro i hi hr
      have hx := hr x List.mem_cons_self
      cases i with
      | zero =>
        simp only [Nat.zero_mul, List.drop_zero, List.flatten_cons, List.getElem_cons_zero]
        rw [List.take_append_of_le_length (by omega), List.take_of_length_le (by omega)]
      | succ i =>
        have := ih i (by simpa using hi) fun y hy => hr y (List.mem_cons_of_mem _ hy)
        rw [List.flatten_cons, List.getElem_cons_succ, ← this, Nat.succ_mul, Nat.add_comm (i * s) s, ← List.drop_drop, List.drop_append_of_le_length (Nat.le_of_eq hx.symm), List.drop_of_length_le (Nat.le_of_eq hx), List.nil_append]
  exact key D i h2 h.row
theorem flat_len {D : List (List UInt8)} {k s : Nat} (h : Shp D k s) : D.flatten.length = s * k := by
  have key : ∀ (D : List (List UInt8)), (∀ r ∈ D, r.length = s) → D.flatten.length = s * D.length := by
    intro D
    induction D with
    | nil => intro _; rfl
    | cons x r ih =>
      intro hr
      rw [List.flatten_cons, List.length_append, ih fun y hy => hr y (List.mem_cons_of_mem _ hy), hr x List.mem_cons_self, List.length_cons, Nat.mul_add]; omega
  rw [key D h.row, h.len]
/-- A value's rows. -/
def cutV (v : List UInt8) (k : Nat) : List (List UInt8) := rowsL (strp v k) k (sizeN v.length k)
theorem cutV_shp (v : List UInt8) {k : Nat} (hk : 1 ≤ k) : Shp (cutV v k) k (sizeN v.length k) := rowsL_shp (strp_len v hk)
theorem cutV_flat (v : List UInt8) {k : Nat} (hk : 1 ≤ k) : (cutV v k).flatten = strp v k := rowsL_flat _ _ _ (strp_len v hk)
/-- The length that four bytes tell. -/
def lenOf (A : List UInt8) : Nat := (A.getD 0 0).toNat + (A.getD 1 0).toNat * 256 + (A.getD 2 0).toNat * 65536 + (A.getD 3 0).toNat * 16777216
/-- The value of rows: an error's number, or the value. -/
def wholeV (D : List (List UInt8)) (k s : Nat) : Sum Int (List UInt8) :=
  if s * k < 4 ∨ sizeN 65536 k < s then .inl 23
  else if 65536 < lenOf D.flatten ∨ sizeN (lenOf D.flatten) k ≠ s then .inl 25
  else if (D.flatten.drop (4 + lenOf D.flatten)).any (fun b => b ≠ 0) then .inl 24
  else .inr ((D.flatten.drop 4).take (lenOf D.flatten))
theorem lenOf_le4 {n : Nat} (h : n < 4294967296) (r : List UInt8) : lenOf (len4 n ++ r) = n := by
  unfold lenOf len4
  simp only [List.cons_append, List.nil_append, List.getD_cons_zero, List.getD_cons_succ, UInt8.toNat_ofNat']
  omega
theorem wholeV_cut {v : List UInt8} {k : Nat} (hk : 1 ≤ k) (hv : v.length ≤ 65536) : wholeV (cutV v k) k (sizeN v.length k) = .inr v := by
  have h1 := size_le (n := v.length) hk
  have e1 : (cutV v k).flatten = len4 v.length ++ (v ++ List.replicate (sizeN v.length k * k - (v.length + 4)) 0) := by rw [cutV_flat v hk]; unfold strp; rw [List.append_assoc]
  have e2 : lenOf (cutV v k).flatten = v.length := by rw [e1, lenOf_le4 (by omega)]
  have e3 : (cutV v k).flatten.drop 4 = v ++ List.replicate (sizeN v.length k * k - (v.length + 4)) 0 := by rw [e1]; rfl
  unfold wholeV
  rw [e2, if_neg (by have := size_mono (k := k) hv; omega), if_neg (by omega), if_neg, e3]
  · congr 1
    rw [List.take_append_of_le_length (Nat.le_refl _), List.take_length]
  · rw [← List.drop_drop, e3, List.drop_append_of_le_length (Nat.le_refl _), List.drop_length, List.nil_append]
    simp
theorem le4_of {a b c d : UInt8} : len4 (a.toNat + b.toNat * 256 + c.toNat * 65536 + d.toNat * 16777216) = [a, b, c, d] := by
  have h1 := a.toNat_lt
  have h2 := b.toNat_lt
  have h3 := c.toNat_lt
  have h4 := d.toNat_lt
  unfold len4
  congr 1
  · exact UInt8.toNat_inj.1 (by rw [UInt8.toNat_ofNat']; omega)
  congr 1
  · exact UInt8.toNat_inj.1 (by rw [UInt8.toNat_ofNat']; omega)
  congr 1
  · exact UInt8.toNat_inj.1 (by rw [UInt8.toNat_ofNat']; omega)
  congr 1
  exact UInt8.toNat_inj.1 (by rw [UInt8.toNat_ofNat']; omega)
theorem le4_take : ∀ A : List UInt8, 4 ≤ A.length → len4 (lenOf A) = A.take 4
  | [], h => by simp at h
  | [_], h => by simp at h
  | [_, _], h => by simp at h
  | [_, _, _], h => by simp at h
  | _ :: _ :: _ :: _ :: _, _ => le4_of
/-- Rows of which the value is told are that value's rows. -/
theorem cut_of_whole {D : List (List UInt8)} {k s : Nat} {v : List UInt8} (hk : 1 ≤ k) (hD : Shp D k s) (h : wholeV D k s = .inr v) : v.length ≤ 65536 ∧ sizeN v.length k = s ∧ cutV v k = D := by
  unfold wholeV at h
  split at h
  · cases h
  rename_i h1
  split at h
  · cases h
  rename_i h2
  split at h
  · cases h
  rename_i h3
  injection h with h
  have hl := flat_len hD
  generalize hA : D.flatten = A at *
  generalize hn : lenOf A = n at *
  have h5 := size_le (n := n) hk
  have h6 : sizeN n k = s := by omega
  rw [h6] at h5
  have hvl : v.length = n := by rw [← h, List.length_take, List.length_drop]; omega
  refine ⟨by omega, by rw [hvl]; exact h6, ?_⟩
  unfold cutV
  rw [hvl, h6, ← rowsL_of hD, hA]
  congr 1
  unfold strp
  rw [hvl, h6]
  have e4 : len4 n = A.take 4 := by rw [← hn]; exact le4_take A (by omega)
  have e5 : A.drop (4 + n) = List.replicate (s * k - (n + 4)) 0 := by
    refine List.eq_replicate_iff.2 ⟨by rw [List.length_drop]; omega, fun b hb => ?_⟩
    have : ¬ (b ≠ 0) := fun hbn => h3 (List.any_eq_true.2 ⟨b, hb, by simpa using hbn⟩)
    exact Classical.not_not.1 this
  have e6 : A.take 4 ++ ((A.drop 4).take n ++ A.drop (4 + n)) = A := by
    rw [← List.drop_drop, List.take_append_drop, List.take_append_drop]
  rw [e4, ← h, ← e5, List.append_assoc]
  exact e6
end Go.Gf
