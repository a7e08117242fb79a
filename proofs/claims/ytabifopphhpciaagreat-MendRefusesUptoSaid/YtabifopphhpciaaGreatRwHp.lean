/-
  Rows of bytes: read, written, of a shape. Lists of rows as matrices.
-/
import Derived.Test.YtabifopphhpciaaGreatMat
import Derived.Test.YtabifopphhpciaaGreatCpy
namespace Go.Gf
/-- A list of rows as a matrix. -/
def ent (R : List (List UInt8)) : Go.Gf.Mat := fun i c => (R.getD i []).getD c 0
structure Shp (R : List (List UInt8)) (m n : Nat) : Prop where
  len : R.length = m
  row : ∀ r ∈ R, r.length = n
theorem Shp.at_ {R : List (List UInt8)} {m n : Nat} (h : Shp R m n) {i : Nat} (hi : i < R.length) : R[i].length = n := h.row _ (List.getElem_mem hi)
theorem Shp.set {R : List (List UInt8)} {m n : Nat} (h : Shp R m n) {i : Nat} {r : List UInt8} (hr : r.length = n) : Shp (R.set i r) m n :=
  ⟨by rw [List.length_set]; exact h.len, fun x hx => (List.mem_or_eq_of_mem_set hx).elim (h.row x) fun e => e ▸ hr⟩
theorem ent_at {R : List (List UInt8)} {i : Nat} (hi : i < R.length) (c : Nat) : ent R i c = R[i].getD c 0 := by
  unfold ent; rw [List.getD_eq_getElem?_getD (l := R), List.getElem?_eq_getElem hi]; rfl
theorem ent_at2 {R : List (List UInt8)} {i c : Nat} (hi : i < R.length) (hc : c < R[i].length) : ent R i c = R[i][c] := by
  rw [ent_at hi, List.getD_eq_getElem?_getD, List.getElem?_eq_getElem hc]; rfl
theorem ent_set {R : List (List UInt8)} {i : Nat} {r : List UInt8} (hi : i < R.length) (j c : Nat) : ent (R.set i r) j c = if j = i then r.getD c 0 else ent R j c := by
  unfold ent
  rw [List.getD_eq_getElem?_getD (l := R.set i r), List.getElem?_set]
  by_cases h : i = j
  · subst h
    rw [if_pos rfl, if_pos hi, if_pos rfl]; rfl
  · rw [if_neg h, if_neg (Ne.symm h), List.getD_eq_getElem?_getD (l := R)]
theorem ent_blank (m n i c : Nat) : ent (List.replicate m (List.replicate n 0)) i c = 0 := by
  unfold ent
  rw [List.getD_eq_getElem?_getD (l := List.replicate m _), List.getElem?_replicate]
  split
  · rw [Option.getD_some, List.getD_eq_getElem?_getD, List.getElem?_replicate]; split <;> rfl
  · rfl
theorem Shp.blank (m n : Nat) : Shp (List.replicate m (List.replicate n 0)) m n := ⟨by simp, fun r hr => by rw [List.eq_of_mem_replicate hr]; simp⟩
theorem list_ext {l k : List UInt8} (h : l.length = k.length) (h2 : ∀ c, c < l.length → l.getD c 0 = k.getD c 0) : l = k := by
  apply List.ext_getElem h
  intro i h3 h4
  have := h2 i h3
  rwa [List.getD_eq_getElem?_getD, List.getElem?_eq_getElem h3, List.getD_eq_getElem?_getD, List.getElem?_eq_getElem h4] at this
theorem ent_ext {R Q : List (List UInt8)} {m n : Nat} (h : Shp R m n) (h' : Shp Q m n) (e : ∀ i c, i < m → c < n → ent R i c = ent Q i c) : R = Q := by
  apply List.ext_getElem (by rw [h.len, h'.len])
  intro i h1 h2
  refine list_ext (by rw [h.at_, h'.at_]) fun c hc => ?_
  rw [← ent_at h1, ← ent_at h2]
  exact e i c (by rw [← h.len]; exact h1) (by rw [← h.at_ h1]; exact hc)
theorem addR_len {c : UInt8} {bs xs : List UInt8} (h : xs.length = bs.length) : (addR c bs xs).length = bs.length := by unfold addR; rw [List.length_zipWith]; omega
theorem addR_at {c : UInt8} {bs xs : List UInt8} (h : xs.length = bs.length) (j : Nat) : (addR c bs xs).getD j 0 = bs.getD j 0 ^^^ mul c (xs.getD j 0) := by
  unfold addR
  simp only [List.getD_eq_getElem?_getD, List.getElem?_zipWith]
  by_cases hj : j < bs.length
  · rw [List.getElem?_eq_getElem hj, List.getElem?_eq_getElem (by omega)]; rfl
  · rw [List.getElem?_eq_none (by omega), List.getElem?_eq_none (by omega)]
    simp [mul_zero]
end Go.Gf
namespace Go.Proofs.YtabifopphhpciaaGreat
open Go Go.Vc Go.Vc.Asn Go.Gf
/-- What rows hold. -/
abbrev mt (rs : Rws) : List (List UInt8) := rs.map fun r => r.2
def upd (rs : Rws) (i : Nat) (bs : List UInt8) : Rws := rs.set i ((rs.getD i (Slc.nil, [])).1, bs)
theorem upd_len (rs : Rws) (i : Nat) (bs : List UInt8) : (upd rs i bs).length = rs.length := by unfold upd; rw [List.length_set]
theorem upd_at {rs : Rws} {i : Nat} (hi : i < rs.length) (bs : List UInt8) : upd rs i bs = rs.set i (rs[i].1, bs) := by
  unfold upd; rw [List.getD_eq_getElem?_getD, List.getElem?_eq_getElem hi]; rfl
theorem upd_mt {rs : Rws} (i : Nat) (bs : List UInt8) : mt (upd rs i bs) = (mt rs).set i bs := by unfold mt upd; rw [List.map_set]
theorem upd_sl {rs : Rws} (i : Nat) (bs : List UInt8) : (upd rs i bs).map (fun r => r.1.v) = rs.map fun r => r.1.v := by
  by_cases hi : i < rs.length
  · rw [upd_at hi, List.map_set]
    apply List.ext_getElem?
    intro j
    rw [List.getElem?_set]
    by_cases hj : i = j
    · subst hj
      rw [if_pos rfl, if_pos (by simpa using hi), List.getElem?_map, List.getElem?_eq_getElem hi]; rfl
    · rw [if_neg hj]
  · unfold upd; rw [List.set_eq_of_length_le (by omega)]
/-- Rows that can be read. -/
structure RdR (w : World) (s : Slc) (rs : Rws) : Prop where
  cel : Cel w s 1 (rs.map fun r => r.1.v)
  row : ∀ r ∈ rs, Byt w r.1 r.2
theorem RdR.fr0 {w w' : World} {s : Slc} {rs : Rws} (h : RdR w s rs) (f : Fr [] w w') : RdR w' s rs := ⟨h.cel.fr0 f, fun r hr => (h.row r hr).fr0 f⟩
theorem RdR.at_ {w : World} {s : Slc} {rs : Rws} (h : RdR w s rs) {i : Nat} (hi : i < rs.length) : Byt w rs[i].1 rs[i].2 := h.row _ (List.getElem_mem hi)
section
variable {w0 w : World} {A F : Asn} {s : Slc} {rs : Rws}
theorem rowsHave : ∀ {rs : Rws} {S : Nat → Prop}, (all rwA rs).p w S → ∀ r ∈ rs, Byt w r.1 r.2
  | [], _, _ => fun r hr => nomatch hr
  | x :: l, S, h => fun r hr => by
    obtain ⟨S1, S2, _, _, h1, h2⟩ := h
    rcases List.mem_cons.1 hr with rfl | hr
    · exact Own.cel h1.2
    · exact rowsHave (S := S2) h2 r hr
theorem rowsOf [h : Take (all rwA rs) A F] (H : Hp w0 w A) : ∀ r ∈ rs, Byt w r.1 r.2 := by
  obtain ⟨_, S, _, S1, S2, _, _, h1, _⟩ := H.take (all rwA rs)
  exact rowsHave (S := S1) h1
theorem rdR (H : Hp w0 w (star (own Ty_sl_uint8 1 s (rs.map fun r => r.1.v)) (star (all rwA rs) F))) : RdR w s rs := ⟨H.cel (s := s), rowsOf (rs := rs) H⟩
/-- A byte written. -/
theorem wrRow (rs : Rws) [h : Take (all rwA rs) A F] (H : Hp w0 w A) {i j : Nat} (hi : i < rs.length) (hj : j < rs[i].2.length) {v : UInt8} {K : World → Prop} (k : ∀ w', Hp w0 w' (star (all rwA (upd rs i (rs[i].2.set j v))) F) → K w') :
    ∃ a : Addr, rs[i].1.a = some a ∧ (0 : Int) ≤ (j : Int) ∧ ((j : Nat) : Int) < rs[i].1.l ∧ Sto w (a.add (Int.toNat (j : Int) * 1)) (u8v v) K := by
  have H := (H.take (all rwA rs)).ent (Ent.star (all_at rwA rs i hi) (Ent.refl _))
  have H : Hp w0 w (star (own Ty_uint8 1 rs[i].1 (rs[i].2.map u8v)) _) := H.assoc
  refine Hp.wr (s := rs[i].1) H (by simpa using hj) fun w' H => k w' ?_
  rw [← List.map_set] at H
  rw [upd_at hi]
  exact H.assoc'.ent (Ent.star (all_put rwA (rs[i].1, rs[i].2.set j v) rs i hi) (Ent.refl _))
/-- Row i to the front, and back with other bytes. -/
theorem pickRow (rs : Rws) [h : Take (all rwA rs) A F] (H : Hp w0 w A) {i : Nat} (hi : i < rs.length) : Hp w0 w (star (own Ty_uint8 1 rs[i].1 (rs[i].2.map u8v)) (star (all rwA (rs.take i ++ rs.drop (i + 1))) F)) :=
  ((H.take (all rwA rs)).ent (Ent.star (all_at rwA rs i hi) (Ent.refl _))).assoc
theorem putRow {i : Nat} (hi : i < rs.length) {bs : List UInt8} (H : Hp w0 w (star (own Ty_uint8 1 rs[i].1 (bs.map u8v)) (star (all rwA (rs.take i ++ rs.drop (i + 1))) F))) : Hp w0 w (star (all rwA (upd rs i bs)) F) := by
  rw [upd_at hi]
  exact (H.assoc').ent (Ent.star (all_put rwA (rs[i].1, bs) rs i hi) (Ent.refl _))
end
end Go.Proofs.YtabifopphhpciaaGreat
