/-
  Contract of the package matrix: Invert.
-/
import Derived.Test.YtabifopphhpciaaGreatMatI
namespace Go.Gf
/-- Two matrices each of which takes back what the other does. -/
def Inv (n : Nat) (M R : Mat) : Prop := (∀ x i, i < n → dot n (R i) (fun j => dot n (M j) x) = x i) ∧ (∀ y i, i < n → dot n (M i) (fun j => dot n (R j) y) = y i)
theorem sameKer_ext {A B : Mat} {n w : Nat} (h : ∀ i c, i < n → c < w → A i c = B i c) : SameKer A B n w := fun v =>
  ⟨fun k i hi => by rw [← k i hi]; exact dot_congr (fun c hc => (h i c hi hc).symm) fun _ _ => rfl, fun k i hi => by rw [← k i hi]; exact dot_congr (fun c hc => h i c hi hc) fun _ _ => rfl⟩
end Go.Gf
namespace Go.Proofs.YtabifopphhpciaaGreat
open Go Go.Vc Go.Vc.Asn Go.Gf
section
variable {w0 w : World} {F : Asn} {s : Slc} {rs : Rws} {g n q : Nat}
set_option maxHeartbeats 1000000 in
theorem invert_c (hK : Blk w g Ty_gf_Field fieldL.toArray) (hM : RdM w q (some (blk g)) s rs) (hS : Shp (mt rs) n n) (hn : 1 ≤ n) (hn2 : n ≤ 256) (hT : Triv (ent (mt rs)) n) :
    Calls PP F_matrix_Matrix_Invert #[.pointer (some (blk q))] w (Rt fun v w' => ∃ q' s' rs', v = .tuple #[.pointer (some (blk q')), .int .i64 0] ∧ Shp (mt rs') n n ∧ Go.Gf.Inv n (ent (mt rs)) (ent (mt rs')) ∧ Hp w w' (star (matA q' (some (blk g)) s' rs') emp)) := by
  refine sim_matrix_Matrix_Invert _ _ _ ?_
  unfold vc_matrix_Matrix_Invert
  have hl := shpLen hS
  have hsl : s.l = n := by rw [hM.rows.cel.lenM]; exact hl
  have hrn : ∀ i (hi : i < rs.length), rs[i].1.l = n := fun i hi => by rw [(hM.rows.at_ hi).len]; exact shpRow hS hi
  refine ⟨fun h => by simp at h, fun _ => ⟨_, rfl, s, hM.box.cell (i := 1) rfl, s, hM.box.cell (i := 1) rfl, hM.rows.cel.rdS (i := 0) (by omega) fun a ha => ⟨fun h => ?_, fun _ => ?_⟩⟩⟩
  · rw [hsl, hrn 0 (by omega)] at h; simp at h
  rw [hsl]
  have ew2 : wr .i64 (2 * (n : Int)) = ((n + n : Nat) : Int) := by rw [wr64 (by omega) (by omega)]; omega
  rw [ew2]
  refine ⟨_, hM.box.cell (i := 0) rfl, call (blank_c (by omega) (by omega) (Hp.start w)) ?_⟩
  rintro _ w1 ⟨b, t, rs0, rfl, hrs0, H⟩
  have hS0 : Shp (mt rs0) n (n + n) := by unfold mt; rw [hrs0]; exact Shp.blank _ _
  have hZ0 : ∀ i c, ent (mt rs0) i c = 0 := fun i c => by unfold mt; rw [hrs0]; exact ent_blank _ _ _ _
  refine ⟨_, rfl, s, (hM.fr0 H.fr).box.cell (i := 1) rfl, fun x w' => ∃ (j : Nat) (rs' : Rws), x = (j : Int) ∧ j ≤ n ∧ Shp (mt rs') n (n + n) ∧ (∀ i c, i < j → c < n + n → ent (mt rs') i c = aug (ent (mt rs)) n i c) ∧ (∀ i c, j ≤ i → ent (mt rs') i c = 0) ∧ Hp w w' (star (bk b Ty_matrix_Matrix #[.pointer (some (blk g)), t.v]) (star (own Ty_sl_uint8 1 t (rs'.map fun r => r.1.v)) (star (all rwA rs') emp))), fun x _ => n - x.toNat, ⟨0, rs0, rfl, Nat.zero_le _, hS0, fun i c hi => by omega, fun i c _ => hZ0 i c, matOpen H⟩, ?_⟩
  rintro _ w2 ⟨j, rs1, rfl, hj, hS1, hent, hz, H⟩
  have hl1 := shpLen hS1
  refine ⟨fun h => ?_, fun h => ?_⟩
  · have hlt : j < n := by simp only [decide_eq_true_eq] at h; omega
    have hjr : j < rs1.length := by omega
    have hw1 := shpRow hS1 hjr
    have hw := shpRow hS (i := j) (by omega)
    have hR := rdR H.drop
    have hBl := (hR.at_ hjr).len
    have hB := (hM.fr0 H.fr).rows.at_ (i := j) (by omega)
    refine (hM.fr0 H.fr).rows.cel.rdS (i := j) (by omega) fun a1 ha1 => ⟨_, rfl, t, H.cell (b := b) (i := 1) rfl, hR.cel.rdS hjr fun a2 ha2 => ?_⟩
    refine Hp.cpy (s := rs1[j].1) (d := rs1[j].1) (o := 0) slT_sl_uint8 (pickRow rs1 H hjr) hB (one_u8 _) (fun _ p hp => by rw [hp]; rfl) (by rw [List.length_map]; omega) fun w3 H => ?_
    rw [show min (rs[j]'(by omega)).1.l rs1[j].1.l = n by rw [hrn j (by omega)]; omega] at H
    have e1 : (rs1[j].2.map u8v).take 0 ++ ((rs[j]'(by omega)).2.map u8v).take n ++ (rs1[j].2.map u8v).drop (0 + n) = ((rs[j]'(by omega)).2 ++ rs1[j].2.drop n).map u8v := by
      rw [List.take_zero, List.nil_append, List.take_of_length_le (by rw [List.length_map]; omega), Nat.zero_add, List.map_append, List.map_drop]
    rw [e1] at H
    have ewn : wr .i64 ((n : Int) + (j : Int)) = ((n + j : Nat) : Int) := by rw [wr64 (by omega) (by omega)]; omega
    rw [ewn, ofW j (by omega)]
    refine ⟨t, H.cell (b := b) (i := 1) rfl, Cel.rdS (H.cel (s := t)) hjr fun a3 ha3 => Hp.wr (s := rs1[j].1) H (by simp; omega) fun w4 H => ?_⟩
    have H : Hp w w4 (star (own Ty_uint8 1 rs1[j].1 ((((rs[j]'(by omega)).2 ++ rs1[j].2.drop n).map u8v).set (n + j) (u8v 1))) _) := H
    rw [← List.map_set] at H
    have H := putRow hjr H
    refine ⟨⟨j + 1, _, rfl, by omega, ?_, ?_, ?_, by rw [upd_sl]; exact (H.own t).blk b⟩, by dsimp only; omega⟩
    · rw [upd_mt]; exact hS1.set (by simp; omega)
    · intro i c hi hc
      rw [upd_mt, ent_set (by rw [mt_len]; exact hjr)]
      by_cases hij : i = j
      · subst hij
        rw [if_pos rfl, List.getD_eq_getElem?_getD, List.getElem?_set]
        unfold aug
        by_cases h1 : n + i = c
        · subst h1
          rw [if_pos rfl, if_pos (by simp; omega), if_neg (by omega), if_pos rfl]; rfl
        · rw [if_neg h1]
          by_cases h2 : c < n
          · rw [if_pos h2, List.getElem?_append_left (by omega), ← List.getD_eq_getElem?_getD, ent_at (by rw [mt_len]; omega), mt_at (by omega)]
          · rw [if_neg h2, if_neg (Ne.symm h1), List.getElem?_append_right (by omega), List.getElem?_drop, hw, show n + (c - n) = c by omega, ← List.getD_eq_getElem?_getD]
            have h3 := hz i c (Nat.le_refl _)
            rw [ent_at (by rw [mt_len]; omega), mt_at hjr] at h3
            exact h3
      · rw [if_neg hij]; exact hent i c (by omega) hc
    · intro i c hi
      rw [upd_mt, ent_set (by rw [mt_len]; exact hjr), if_neg (by omega)]
      exact hz i c (by omega)
  · have hje : j = n := by simp only [decide_eq_false_iff_not] at h; omega
    subst hje
    have H := H.drew 1
    have hSK : SameKer (aug (ent (mt rs)) j) (ent (mt rs1)) j (j + j) := sameKer_ext fun i c hi hc => (hent i c hi hc).symm
    refine ⟨_, (hM.fr0 H.fr).box.cell (i := 0) rfl, _, rfl, t, H.cell (b := b) (i := 1) rfl, ?_⟩
    refine call (elim_c hK hS1 hn2 hT hSK ((H.take (all rwA rs1)).own t)) ?_
    rintro _ w3 ⟨pv, rs2, rfl, hpv, hS2, hD, hK2, H⟩
    have hl2 := shpLen hS2
    refine ⟨pv, rfl, fun h => ?_, fun _ => ⟨_, (hM.fr0 H.fr).box.cell (i := 0) rfl, call (blank_c (by omega) (by omega) H) ?_⟩⟩
    · rw [hpv] at h; simp at h
    rintro _ w4 ⟨d, t2, rsb, rfl, hrsb, H⟩
    have hSb : Shp (mt rsb) j j := by unfold mt; rw [hrsb]; exact Shp.blank _ _
    have htl : t.l = j := by
      have H2 := (H.take (all rwA rs2)).own t
      rw [(H2.cel (s := t)).lenM]; exact hl2
    refine ⟨_, rfl, t, H.cell (b := b) (i := 1) rfl, fun x w' => ∃ (k : Nat) (rs' : Rws), x = (k : Int) ∧ k ≤ j ∧ Shp (mt rs') j j ∧ (∀ i c, i < k → c < j → ent (mt rs') i c = ent (mt rs2) i (j + c)) ∧ Hp w w' (star (bk d Ty_matrix_Matrix #[.pointer (some (blk g)), t2.v]) (star (own Ty_sl_uint8 1 t2 (rs'.map fun r => r.1.v)) (star (all rwA rs') (OwR t rs2 (star (bk b Ty_matrix_Matrix #[.pointer (some (blk g)), t.v]) emp))))), fun x _ => j - x.toNat, ⟨0, rsb, rfl, Nat.zero_le _, hSb, fun i c hi => by omega, matOpen H⟩, ?_⟩
    rintro _ w5 ⟨k, rs3, rfl, hk, hS3, hent3, H⟩
    have hl3 := shpLen hS3
    refine ⟨fun h => ?_, fun h => ?_⟩
    · have hlt : k < j := by simp only [decide_eq_true_eq] at h; omega
      have hkr : k < rs3.length := by omega
      have hkr2 : k < rs2.length := by omega
      have hw3 := shpRow hS3 hkr
      have hw2 := shpRow hS2 hkr2
      refine (rdR H.drop.drop.drop).cel.rdS hkr2 fun a1 ha1 => ⟨_, rfl, t2, ?_⟩
      have H := H.drew 1
      have hB2 := (rdR H.drop.drop.drop).at_ hkr2
      have hB2l := hB2.len
      have hB3l := ((rdR H.drop).at_ hkr).len
      have hcut : Byt (w5.drewN 1) (rs2[k].1.cut 1 j rs2[k].1.l) (rs2[k].2.drop j) := by
        have := Cel.cut hB2 (l := j) (k := rs2[k].1.l) (by omega) (Nat.le_refl _)
        rw [Nat.mul_one, Nat.mul_one, List.take_of_length_le (by simp; omega), ← List.map_drop] at this
        exact this
      have hcutl := hcut.len
      rw [List.length_drop] at hcutl
      refine ⟨H.cell (b := d) (i := 1) rfl, (rdR H.drop).cel.rdS hkr fun a2 ha2 => ⟨by omega, by omega, by have := hB2.cap; omega, ?_⟩⟩
      rw [Int.toNat_natCast, Int.toNat_natCast]
      refine Hp.cpy (s := rs3[k].1) (d := rs3[k].1) (o := 0) slT_sl_uint8 (pickRow rs3 H hkr) hcut (one_u8 _) (fun _ p hp => by rw [hp]; rfl) (by rw [List.length_map]; omega) fun w6 H => ?_
      rw [show min (rs2[k].1.cut 1 j rs2[k].1.l).l rs3[k].1.l = j by omega, cpy_all (by rw [List.length_map]; omega) (by rw [List.length_map, List.length_drop]; omega)] at H
      have H := putRow hkr H
      rw [ofW k (by omega)]
      refine ⟨⟨k + 1, _, rfl, by omega, ?_, ?_, by rw [upd_sl]; exact ((H.own t2).blk d).ent (Ent.star (Ent.refl _) (Ent.star (Ent.refl _) (Ent.star (Ent.refl _) (Ent.refl _))))⟩, by dsimp only; omega⟩
      · rw [upd_mt]; exact hS3.set (by simp; omega)
      · intro i c hi hc
        rw [upd_mt, ent_set (by rw [mt_len]; exact hkr)]
        by_cases hik : i = k
        · subst hik
          rw [if_pos rfl, List.getD_eq_getElem?_getD, List.getElem?_drop, ent_at (by rw [mt_len]; exact hkr2), mt_at hkr2, List.getD_eq_getElem?_getD]
        · rw [if_neg hik]; exact hent3 i c (by omega) hc
    · have hke : k = j := by simp only [decide_eq_false_iff_not] at h; omega
      subst hke
      obtain ⟨i1, i2⟩ := inverse hD hK2
      refine Rt.ok ⟨d, t2, rs3, rfl, hS3, ⟨fun x i hi => ?_, fun y i hi => ?_⟩, ?_⟩
      · rw [← i1 x i hi]
        exact dot_congr (fun c hc => hent3 i c hi hc) fun _ _ => rfl
      · rw [← i2 y i hi]
        exact dot_congr (fun _ _ => rfl) fun c hc => dot_congr (fun c2 hc2 => hent3 c c2 hc hc2) fun _ _ => rfl
      · have H := (H.own t).drop
        have H := (H.take (all rwA rs2)).drop
        have H := (H.blk b).drop
        exact matClose H
end
end Go.Proofs.YtabifopphhpciaaGreat
