/-
  Contracts of the package matrix: sized, Vandermonde, Poly, Mul, Rows, New.
-/
import Derived.Test.YtabifopphhpciaaGreatRwHp
namespace Go.Proofs.YtabifopphhpciaaGreat
open Go Go.Vc Go.Vc.Asn Go.Gf
theorem ofW (n : Nat) (h : n < 4611686018427387904) : wr .i64 ((n : Int) + 1) = ((n + 1 : Nat) : Int) := by rw [wr64 (by omega) (by omega)]; omega
section
variable {w0 w : World} {F : Asn} {q : Nat} {f : Option Addr} {s : Slc} {rs : Rws}
theorem matOpen (H : Hp w0 w (star (matA q f s rs) F)) : Hp w0 w (star (bk q Ty_matrix_Matrix #[.pointer f, s.v]) (star (own Ty_sl_uint8 1 s (rs.map fun r => r.1.v)) (star (all rwA rs) F))) := by
  have H : Hp w0 w (star (bk q Ty_matrix_Matrix #[.pointer f, s.v]) (star (star (own Ty_sl_uint8 1 s (rs.map fun r => r.1.v)) (all rwA rs)) F)) := H.assoc
  exact H.ent (Ent.star (Ent.refl _) Asn.assoc)
theorem matClose (H : Hp w0 w (star (bk q Ty_matrix_Matrix #[.pointer f, s.v]) (star (own Ty_sl_uint8 1 s (rs.map fun r => r.1.v)) (star (all rwA rs) F)))) : Hp w0 w (star (matA q f s rs) F) :=
  (H.ent (Ent.star (Ent.refl _) Asn.assoc')).assoc'
theorem sized_c {p : Addr} {m n : Nat} (hm : 1 ≤ m) (hm2 : m ≤ 256) (hn : 1 ≤ n) (hn2 : n ≤ 256) : Calls PP F_matrix_sized #[.pointer (some p), .int .i64 (m : Int), .int .i64 (n : Int)] w (Rt fun v w' => v = .int .i64 0 ∧ w' = w) := by
  refine sim_matrix_sized _ _ _ _ _ ?_
  unfold vc_matrix_sized
  refine ⟨fun h => by simp at h, fun _ => ⟨fun h => ?_, fun _ => ⟨fun h => ?_, fun _ => Rt.ok ⟨rfl, rfl⟩⟩⟩⟩
  · simp at h; omega
  · simp at h; omega
/-- A matrix and its rows, to be read. -/
structure RdM (w : World) (q : Nat) (f : Option Addr) (s : Slc) (rs : Rws) : Prop where
  box : Blk w q Ty_matrix_Matrix #[.pointer f, s.v]
  rows : RdR w s rs
theorem RdM.fr0 {w w' : World} (h : RdM w q f s rs) (g : Fr [] w w') : RdM w' q f s rs := ⟨h.box.fr g (by simp), h.rows.fr0 g⟩
theorem rdM (H : Hp w0 w (star (matA q f s rs) F)) : RdM w q f s rs := ⟨(matOpen H).isBlk (b := q), rdR (matOpen H).drop⟩
theorem vander_c {g k : Nat} {ps : Slc} {pb : List UInt8} (hK : Blk w g Ty_gf_Field fieldL.toArray) (hp : Byt w ps pb) (hm : 1 ≤ pb.length) (hm2 : pb.length ≤ 256) (hk : 1 ≤ k) (hk2 : k ≤ 256) :
    Calls PP F_matrix_Vandermonde #[.pointer (some (blk g)), ps.v, .int .i64 (k : Int)] w (Rt fun v w' => ∃ q s rs, v = .tuple #[.pointer (some (blk q)), .int .i64 0] ∧ Shp (mt rs) pb.length k ∧ (∀ i c, i < pb.length → c < k → ent (mt rs) i c = powX (pb.getD i 0) c) ∧ Hp w w' (star (matA q (some (blk g)) s rs) emp)) := by
  refine sim_matrix_Vandermonde _ _ _ _ _ ?_
  unfold vc_matrix_Vandermonde
  have hpl := hp.len
  refine call (sized_c (m := ps.l) (by omega) (by omega) hk hk2) ?_
  rintro _ w1 ⟨rfl, rfl⟩
  refine ⟨_, rfl, fun h => by simp at h, fun _ => ?_⟩
  refine call (blank_c (by omega) (by omega) (Hp.start w1)) ?_
  rintro _ w2 ⟨q, s, rs0, rfl, hrs0, H⟩
  have hS0 : Shp (mt rs0) pb.length k := by unfold mt; rw [hrs0, hpl]; exact Shp.blank _ _
  refine ⟨_, rfl, fun i w' => ∃ (j : Nat) (rs : Rws), i = (j : Int) ∧ j ≤ pb.length ∧ Shp (mt rs) pb.length k ∧ (∀ i c, i < j → c < k → ent (mt rs) i c = powX (pb.getD i 0) c) ∧ Hp w1 w' (star (bk q Ty_matrix_Matrix #[.pointer (some (blk g)), s.v]) (star (own Ty_sl_uint8 1 s (rs.map fun r => r.1.v)) (star (all rwA rs) emp))), fun i _ => pb.length - i.toNat, ⟨0, rs0, rfl, Nat.zero_le _, hS0, fun i c hi => by omega, matOpen H⟩, ?_⟩
  rintro _ w3 ⟨j, rs, rfl, hj, hS, hent, H⟩
  have hrl : rs.length = pb.length := by have := hS.len; simpa using this
  refine ⟨fun h => ?_, fun h => ?_⟩
  · have hlt : j < pb.length := by simp only [decide_eq_true_eq] at h; omega
    refine ⟨fun w' => ∃ (rs : Rws), Shp (mt rs) pb.length k ∧ (∀ i c, i < j + 1 → c < k → ent (mt rs) i c = powX (pb.getD i 0) c) ∧ Hp w1 w' (star (bk q Ty_matrix_Matrix #[.pointer (some (blk g)), s.v]) (star (own Ty_sl_uint8 1 s (rs.map fun r => r.1.v)) (star (all rwA rs) emp))), ?_, ?_⟩
    · refine (hp.fr0 H.fr).rd hlt fun a ha => ⟨blk q, rfl, s, H.cell (b := q) (i := 1) rfl, ?_⟩
      have hjr : j < rs.length := by omega
      have hrow : rs[j].2.length = k := hS.row _ (List.mem_map_of_mem (List.getElem_mem hjr))
      refine (rdR H.drop).cel.rdS hjr fun a2 ha2 => ?_
      refine wrRow rs (j := 0) (v := 1) H hjr (by omega) fun w4 H => ?_
      have e1 : pb[j] = pb.getD j 0 := by rw [List.getD_eq_getElem?_getD, List.getElem?_eq_getElem hlt]; rfl
      refine ⟨fun c w' => ∃ (t : Nat) (rs : Rws), c = (t : Int) ∧ 1 ≤ t ∧ t ≤ k ∧ Shp (mt rs) pb.length k ∧ (∀ i c, i < j → c < k → ent (mt rs) i c = powX (pb.getD i 0) c) ∧ (∀ c, c < t → ent (mt rs) j c = powX (pb.getD j 0) c) ∧ Hp w1 w' (star (bk q Ty_matrix_Matrix #[.pointer (some (blk g)), s.v]) (star (own Ty_sl_uint8 1 s (rs.map fun r => r.1.v)) (star (all rwA rs) emp))), fun c _ => k - c.toNat, ⟨1, upd rs j (rs[j].2.set 0 1), rfl, Nat.le_refl _, hk, ?_, ?_, ?_, ?_⟩, ?_⟩
      · rw [upd_mt]; exact hS.set (by rw [List.length_set]; exact hrow)
      · intro i c hi hc
        rw [upd_mt, ent_set (by simpa using hjr), if_neg (by omega)]
        exact hent i c hi hc
      · intro c hc
        have : c = 0 := by omega
        subst this
        rw [upd_mt, ent_set (by simpa using hjr), if_pos rfl, List.getD_eq_getElem?_getD, List.getElem?_set, if_pos rfl, if_pos (by omega)]
        rfl
      · rw [upd_sl]
        exact (H.own s).blk q
      rintro _ w5 ⟨t, rs, rfl, ht1, htk, hS, hent, hrw, H⟩
      have hrl : rs.length = pb.length := by have := hS.len; simpa using this
      have hjr : j < rs.length := by omega
      have hrow : rs[j].2.length = k := hS.row _ (List.mem_map_of_mem (List.getElem_mem hjr))
      refine ⟨fun h => ?_, fun h => ?_⟩
      · have htlt : t < k := by simp only [decide_eq_true_eq] at h; omega
        have ewm : wr .i64 ((t : Int) - 1) = ((t - 1 : Nat) : Int) := by rw [wr64 (by omega) (by omega)]; omega
        have H := H.drew 1
        have hR := rdR H.drop
        rw [ewm, ofW t (by omega)]
        refine ⟨s, H.cell (b := q) (i := 1) rfl, hR.cel.rdS hjr fun a3 ha3 => ⟨s, H.cell (b := q) (i := 1) rfl, hR.cel.rdS hjr fun a4 ha4 => (hR.at_ hjr).rd (by omega) fun a5 ha5 => ?_⟩⟩
        refine call (mul_c (f := g) _ _ (hK.fr H.fr (by simp))) ?_
        rintro _ w6 ⟨rfl, f6⟩
        have H := H.fr0 f6
        have hR := rdR H.drop
        refine ⟨_, rfl, H.cell (b := q) (i := 1) rfl, hR.cel.at' hjr ha3, wrRow rs (j := t) H hjr (by omega) fun w7 H => ?_⟩
        refine ⟨⟨t + 1, upd rs j (rs[j].2.set t (mul (rs[j].2[t - 1]'(by omega)) pb[j])), rfl, by omega, by omega, ?_, ?_, ?_, ?_⟩, by dsimp only; omega⟩
        · rw [upd_mt]; exact hS.set (by rw [List.length_set]; exact hrow)
        · intro i c hi hc
          rw [upd_mt, ent_set (by simpa using hjr), if_neg (by omega)]
          exact hent i c hi hc
        · intro c hc
          rw [upd_mt, ent_set (by simpa using hjr), if_pos rfl, List.getD_eq_getElem?_getD, List.getElem?_set]
          have hm1 : (mt rs)[j]'(by simpa using hjr) = rs[j].2 := by simp [mt]
          by_cases h2 : t = c
          · subst h2
            rw [if_pos rfl, if_pos (by omega)]
            have h3 := hrw (t - 1) (by omega)
            rw [ent_at (by simpa using hjr), hm1, List.getD_eq_getElem?_getD, List.getElem?_eq_getElem (by omega)] at h3
            have h3 : rs[j].2[t - 1]'(by omega) = powX (pb.getD j 0) (t - 1) := h3
            show mul _ _ = _
            rw [h3, e1, show t = (t - 1) + 1 by omega]
            rfl
          · rw [if_neg h2, ← List.getD_eq_getElem?_getD, ← hm1, ← ent_at (by simpa using hjr)]
            exact hrw c (by omega)
        · rw [upd_sl]
          exact (H.own s).blk q
      · have hte : t = k := by simp only [decide_eq_false_iff_not] at h; omega
        subst hte
        refine ⟨rs, hS, fun i c hi hc => ?_, H⟩
        by_cases hij : i = j
        · subst hij; exact hrw c hc
        · exact hent i c (by omega) hc
    · rintro w4 ⟨rs, hS, hent, H⟩
      rw [ofW j (by omega)]
      exact ⟨⟨j + 1, rs, rfl, by omega, hS, hent, H⟩, by dsimp only; omega⟩
  · have hje : j = pb.length := by simp only [decide_eq_false_iff_not] at h; omega
    subst hje
    exact Rt.ok ⟨q, s, rs, rfl, hS, hent, matClose H⟩
end
end Go.Proofs.YtabifopphhpciaaGreat
