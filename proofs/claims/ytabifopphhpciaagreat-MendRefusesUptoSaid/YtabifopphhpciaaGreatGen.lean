/-
  The generator of the code; decoding. A plain text, no program in sight.
-/
import Derived.Test.YtabifopphhpciaaGreatMatJ
namespace Go.Gf
theorem dot_comp (n m : Nat) (a : Nat → UInt8) (B : Mat) (v : Nat → UInt8) : dot n a (fun j => dot m (B j) v) = dot m (fun c => dot n a fun j => B j c) v := by
  unfold dot
  have h1 : ∀ j, j < n → mul (a j) (sumX m fun c => mul (B j c) (v c)) = sumX m fun c => mul (a j) (mul (B j c) (v c)) := fun j _ => (sumX_mul m (a j) _).symm
  rw [sumX_congr h1, sumX_swap]
  refine sumX_congr fun c _ => ?_
  have h2 : ∀ j, j < n → mul (a j) (mul (B j c) (v c)) = mul (v c) (mul (a j) (B j c)) := fun j _ => by rw [← mul_assoc, mul_comm]
  rw [sumX_congr h2, sumX_mul, mul_comm]
theorem dot_zero {n : Nat} {a v : Nat → UInt8} (h : ∀ c, c < n → v c = 0) : dot n a v = 0 := sumX_zero fun c hc => by rw [h c hc, mul_zero]
theorem dot_delta {n k : Nat} (a : Nat → UInt8) (hk : k < n) : dot n a (fun c => if c = k then 1 else 0) = a k := by
  unfold dot
  rw [sumX_one (k := k) hk fun c _ hck => by dsimp only; rw [if_neg hck, mul_zero]]
  dsimp only
  rw [if_pos rfl, mul_one]
/-- The point of row i; the powers there. -/
def pt (i : Nat) : UInt8 := UInt8.ofNat i
def vm : Mat := fun i c => powX (pt i) c
theorem pt_inj {i j : Nat} (hi : i < 256) (hj : j < 256) (h : pt i = pt j) : i = j := by
  have := congrArg UInt8.toNat h
  unfold pt at this
  rw [UInt8.toNat_ofNat', UInt8.toNat_ofNat'] at this
  omega
structure Gen (n k : Nat) (R : List (List UInt8)) : Prop where
  shp : Shp R n k
  by_ : ∃ B : Mat, Inv k vm B ∧ ∀ i c, i < n → c < k → ent R i c = dot k (vm i) fun j => B j c
section
variable {n k : Nat} {R : List (List UInt8)}
theorem Gen.sys (h : Gen n k R) (hk : k ≤ n) {i c : Nat} (hi : i < k) (hc : c < k) : ent R i c = if i = c then 1 else 0 := by
  obtain ⟨B, hB, he⟩ := h.by_
  rw [he i c (by omega) hc]
  have h1 := hB.2 (fun x => if x = c then 1 else 0) i hi
  rw [← h1]
  exact dot_congr (fun _ _ => rfl) fun j _ => (dot_delta (B j) hc).symm
/-- Any k rows send only 0 to 0. -/
theorem Gen.any (h : Gen n k R) (hn : n ≤ 255) (hk : k ≤ n) (ix : Nat → Nat) (hix : ∀ i, i < k → ix i < n) (hinj : ∀ i j, i < k → j < k → ix i = ix j → i = j) : Triv (fun i => ent R (ix i)) k := fun v hv c hc => by
  obtain ⟨B, hB, he⟩ := h.by_
  have h0 : ∀ i, i < k → dot k (ent R i) v = dot k (vm i) fun j => dot k (B j) v := fun i hi => by
    rw [dot_comp]
    exact dot_congr (fun c hc => he i c (by omega) hc) fun _ _ => rfl
  have h1 : Ker (fun i c => powX (pt (ix i)) c) k k fun j => dot k (B j) v := fun i hi => by
    have := hv i hi
    rw [← this]
    show dot k (vm (ix i)) _ = _
    rw [dot_comp]
    exact dot_congr (fun c hc => (he (ix i) c (hix i hi) hc).symm) fun _ _ => rfl
  have h2 := vander (fun i => pt (ix i)) k (fun i j hi hj e => hinj i j hi hj (pt_inj (by have := hix i hi; omega) (by have := hix j hj; omega) e)) _ h1
  rw [← hB.2 v c hc]
  exact dot_zero h2
end
/-- A sum of multiples of rows of l bytes. -/
def lin (fs : List UInt8) (D : List (List UInt8)) (l : Nat) : List UInt8 := (List.range l).map fun j => dot D.length (fun x => fs.getD x 0) fun x => ent D x j
theorem lin_len (fs : List UInt8) (D : List (List UInt8)) (l : Nat) : (lin fs D l).length = l := by unfold lin; simp
theorem lin_at (fs : List UInt8) (D : List (List UInt8)) {l j : Nat} (hj : j < l) : (lin fs D l).getD j 0 = dot D.length (fun x => fs.getD x 0) fun x => ent D x j := by
  unfold lin
  rw [List.getD_eq_getElem?_getD, List.getElem?_map, List.getElem?_range hj]; rfl
/-- Rows made of rows: as a product. -/
theorem lin_ent {R D : List (List UInt8)} {l i j : Nat} (hi : i < R.length) (hj : j < l) : (lin R[i] D l).getD j 0 = dot D.length (ent R i) fun x => ent D x j := by
  rw [lin_at _ _ hj]
  exact dot_congr (fun c _ => (ent_at hi c).symm) fun _ _ => rfl
/-- The first rows of a generator are the rows themselves. -/
theorem Gen.first {n k : Nat} {R D : List (List UInt8)} {l i : Nat} (h : Gen n k R) (hk : k ≤ n) (hD : Shp D k l) (hi : i < k) : lin (R[i]'(by rw [h.shp.len]; omega)) D l = D[i]'(by rw [hD.len]; exact hi) := by
  refine list_ext (by rw [lin_len, hD.at_]) fun j hj => ?_
  rw [lin_len] at hj
  rw [lin_ent (by rw [h.shp.len]; omega) hj, ← ent_at (by rw [hD.len]; exact hi)]
  have h1 : dot D.length (ent R i) (fun x => ent D x j) = dot k (fun c => if c = i then 1 else 0) (fun x => ent D x j) := by
    rw [hD.len]
    refine dot_congr (fun c hc => ?_) fun _ _ => rfl
    rw [h.sys hk hi hc]
    by_cases h2 : i = c
    · rw [if_pos h2, if_pos h2.symm]
    · rw [if_neg h2, if_neg (Ne.symm h2)]
  rw [h1]
  unfold dot
  rw [sumX_one (k := i) hi fun c _ hci => by dsimp only; rw [if_neg hci, zero_mul]]
  dsimp only
  rw [if_pos rfl, one_mul]
/-- Parts that agree with data: indexes, bytes. -/
def Agrees (R D : List (List UInt8)) (l : Nat) (ps : List (Nat × List UInt8)) : Prop := ∀ p ∈ ps, lin (R.getD p.1 []) D l = p.2
/-- What the first k parts make. -/
def back (W : Mat) (Y : List (List UInt8)) (k l : Nat) : List (List UInt8) := (List.range k).map fun i => (List.range l).map fun j => dot k (W i) fun x => ent Y x j
theorem back_shp (W : Mat) (Y : List (List UInt8)) (k l : Nat) : Shp (back W Y k l) k l := ⟨by unfold back; simp, fun r hr => by
  unfold back at hr
  obtain ⟨i, _, rfl⟩ := List.mem_map.1 hr
  simp⟩
theorem back_ent (W : Mat) (Y : List (List UInt8)) {k l i j : Nat} (hi : i < k) (hj : j < l) : ent (back W Y k l) i j = dot k (W i) fun x => ent Y x j := by
  have hs := back_shp W Y k l
  rw [ent_at2 (by rw [hs.len]; exact hi) (by rw [hs.at_]; exact hj)]
  simp [back]
section
variable {n k l : Nat} {R D Y : List (List UInt8)} {M W : Mat}
/-- M, W each other's inverse; M's rows are rows of R: what W makes of Y has Y's parts. -/
theorem back_agrees (hI : Inv k M W) (hY : Shp Y k l) {i : Nat} (hi : i < k) {r : List UInt8} (hr : ∀ c, c < k → r.getD c 0 = M i c) : lin r (back W Y k l) l = Y[i]'(by rw [hY.len]; exact hi) := by
  refine list_ext (by rw [lin_len, hY.at_]) fun j hj => ?_
  rw [lin_len] at hj
  rw [lin_at _ _ hj, (back_shp W Y k l).len]
  have h1 : dot k (fun x => r.getD x 0) (fun x => ent (back W Y k l) x j) = dot k (M i) fun x => dot k (W x) fun y => ent Y y j := dot_congr (fun c hc => hr c hc) fun c hc => back_ent W Y hc hj
  rw [h1, hI.2 _ i hi, ent_at (by rw [hY.len]; exact hi)]
/-- Data with these parts is what W makes of them. -/
theorem back_uniq (hI : Inv k M W) (hY : Shp Y k l) (hD : Shp D k l) (h : ∀ i (hi : i < k), ∃ r : List UInt8, (∀ c, c < k → r.getD c 0 = M i c) ∧ lin r D l = Y[i]'(by rw [hY.len]; exact hi)) : D = back W Y k l := by
  refine ent_ext hD (back_shp W Y k l) fun i j hi hj => ?_
  rw [back_ent W Y hi hj, ← hI.1 (fun x => ent D x j) i hi]
  refine dot_congr (fun _ _ => rfl) fun x hx => ?_
  obtain ⟨r, h1, h2⟩ := h x hx
  rw [ent_at (by rw [hY.len]; exact hx), ← h2, lin_at _ _ hj, hD.len]
  exact dot_congr (fun c hc => (h1 c hc).symm) fun _ _ => rfl
end
end Go.Gf
