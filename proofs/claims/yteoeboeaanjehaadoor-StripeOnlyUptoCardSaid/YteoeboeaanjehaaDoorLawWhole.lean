/-
  Contract of the law StripeWhole.
-/
import Derived.Test.YteoeboeaanjehaaDoorLawStr
namespace Go.Proofs.YteoeboeaanjehaaDoor
open Go Go.Vc Go.Vc.Asn Go.Gf
theorem sizeI {n k : Nat} (hk : 1 ≤ k) (hk2 : k ≤ 1048576) (hn : n ≤ 1099511627776) : wr .i64 ((wr .i64 ((wr .i64 ((wr .i64 ((n : Int) + 4)) + (k : Int))) - 1)).tdiv (k : Int)) = (sizeN n k : Int) := by
  have e1 : wr .i64 ((n : Int) + 4) = ((n + 4 : Nat) : Int) := by rw [wr64 (by omega) (by omega)]; omega
  have e2 : wr .i64 (((n + 4 : Nat) : Int) + (k : Int)) = ((n + 4 + k : Nat) : Int) := by rw [wr64 (by omega) (by omega)]; omega
  have e3 : wr .i64 (((n + 4 + k : Nat) : Int) - 1) = ((n + 4 + k - 1 : Nat) : Int) := by rw [wr64 (by omega) (by omega)]; omega
  rw [e1, e2, e3, ← Int.ofNat_tdiv]
  have hb := size_bound (n := n) hk
  unfold sizeN at hb ⊢
  generalize (n + 4 + k - 1) / k = d at hb ⊢
  rw [wr64 (by omega) (by omega)]
theorem minI_nat (n : Nat) : minI (n : Int) 65536 = ((min n 65536 : Nat) : Int) := by unfold minI; split <;> omega
section
variable {w : World}
/-- The value that a law looks at. -/
theorem front {v : Slc} {vb : List UInt8} (hV : Byt w v vb) : ∃ u : List UInt8, u.length ≤ 65536 ∧ u.length ≤ vb.length ∧ (0 : Int) ≤ minI (v.l : Int) 65536 ∧ minI (v.l : Int) 65536 ≤ (v.c : Int) ∧ Byt w (v.cut 1 (Int.toNat 0) (Int.toNat (minI (v.l : Int) 65536))) u := by
  have hl := hV.len
  have hc := hV.cap
  rw [minI_nat, Int.toNat_natCast]
  refine ⟨vb.take (min v.l 65536), by rw [List.length_take]; omega, by rw [List.length_take]; omega, by omega, by omega, ?_⟩
  have := Cel.cut hV (l := 0) (k := min v.l 65536) (by omega) (by omega)
  rw [Nat.mul_one, Nat.mul_one, List.drop_zero, ← List.map_take, Nat.sub_zero] at this
  exact this
set_option maxHeartbeats 1000000 in
theorem stripeWhole_c (hG : ErrG w) {N K : Int} {v p : Slc} {vb : List UInt8} {zs : List Int} (hV : Byt w v vb) (hP : Cel w p 1 (zs.map fun i => Value.int .i64 i)) (hzl : zs.length ≤ 1099511627776) :
    Calls PP F_sherdlaw05_StripeWhole #[.agg #[.int .i64 N, .int .i64 K], v.v, p.v] w (Rt fun x w' => x = .bool true ∧ Fr [] w w') := by
  refine sim_sherdlaw05_StripeWhole _ _ _ _ _ _ ?_
  unfold vc_sherdlaw05_StripeWhole
  obtain ⟨u, hu, _, hm0, hmc, hU⟩ := front hV
  generalize v.cut 1 (Int.toNat 0) (Int.toNat (minI (v.l : Int) 65536)) = vs at hU ⊢
  refine (Hp.start w).new fun b w1 H => call (shape_c N K) ?_
  rintro _ w2 ⟨q, g, s, rs, n, k, rfl, hn12, hC, f2⟩
  have hk := hC.hk
  have hkn := hC.hkn
  have hf2 := H.fr.then_ f2
  have hU2 := hU.fr0 hf2
  have hul := hU.len
  have hgl := hC.gen.shp.len
  rw [mt_len] at hgl
  refine ⟨_, _, _, rfl, by omega, hm0, hmc, call (split_c hC hU2 hu) ?_⟩
  rintro _ w3 ⟨o, os, rfl, hos, H3⟩
  have hR := rdR H3.assoc
  have hosl : os.length = n := by have := congrArg List.length hos; simpa [hgl] using this
  have hol := hR.cel.lenM
  have hC3 := hC.fr0 H3.fr
  have hU3 := hU2.fr0 H3.fr
  have f03 := hf2.then_ H3.fr
  obtain ⟨S, hS⟩ : ∃ S, S = sizeN u.length k := ⟨_, rfl⟩
  have hSb := size_bound (n := u.length) hk
  have hDS := cutV_shp u hk
  have hAl : (strp u k).length = S * k := by rw [strp_len u hk, hS]
  have hsz := size_le (n := u.length) hk
  rw [← hS] at hSb hDS hsz
  have hrow : ∀ i (hi : i < os.length), os[i].2 = lin (rs[i]'(by omega)).2 (cutV u k) S := fun i hi => by rw [os_at hos hi (by omega), ← hS]
  have hrl : ∀ i (hi : i < os.length), os[i].1.l = S := fun i hi => by rw [(hR.at_ hi).len, hrow i hi, lin_len]
  refine ⟨_, _, rfl, fun h => ?_, fun _ => ⟨by omega, ?_⟩⟩
  · rw [hol, hosl] at h; simp at h
  rw [hul, sizeI hk (by omega) (by omega), ← hS]
  have eSk : wr .i64 ((S : Int) * (k : Int)) = ((S * k : Nat) : Int) := by
    have : S * k ≤ 65540 * 12 := Nat.mul_le_mul (by omega) (by omega)
    rw [← Int.natCast_mul, wr64 (by omega) (by omega)]
  rw [eSk]
  refine call (sizeX_c hk (by omega) hu) ?_
  rintro _ w4 ⟨rfl, rfl⟩
  refine ⟨_, _, rfl, fun a x w' => ∃ j : Nat, x = (j : Int) ∧ j ≤ n ∧ Hp w4 w' (star (own Ty_uint8 1 a (((cutV u k).take j).flatten.map u8v)) emp), fun _ x _ => n - x.toNat, ⟨0, rfl, Nat.zero_le _, (Hp.start w4).nilRow Ty_uint8 1⟩, ?_⟩
  rintro a _ w5 ⟨j, rfl, hj, H5⟩
  have hal := (H5.cel (s := a)).lenM
  have hfle := flat_le (cutV u k) j
  have hflat := cutV_flat u hk
  rw [hflat, hAl] at hfle
  have hSk : S * k ≤ 65540 * 12 := Nat.mul_le_mul (by omega) (by omega)
  refine ⟨fun h => ?_, fun h => ?_⟩
  · have hlt : j < os.length := by simp only [decide_eq_true_eq] at h; omega
    refine ⟨fun a w' => Hp w4 w' (star (own Ty_uint8 1 a (((cutV u k).take (j + 1)).flatten.map u8v)) emp), ?_, ?_⟩
    · refine call (cut1_c (hC3.fr0 H5.fr) (hU3.fr0 H5.fr) hu (by omega)) ?_
      rintro _ w6 ⟨c, rfl, H6⟩
      have hR6 := (hR.fr0 H5.fr).fr0 H6.fr
      have eg : (mt rs).getD j [] = (rs[j]'(by omega)).2 := by rw [List.getD_eq_getElem?_getD, List.getElem?_map, List.getElem?_eq_getElem (by omega)]; rfl
      rw [eg, ← hS, ← hrow j hlt] at H6
      have hBc : Byt w6 c os[j].2 := H6.cel (s := c)
      have H56 := H5.beside H6
      refine ⟨_, _, rfl, false, fun _ => hR6.cel.rdS hlt fun a2 ha2 => by rw [hrl j hlt]; simp, fun h => by simp at h, false, fun _ => ?_, fun h => by simp at h, fun k57 => ⟨fun h => by simp at h, fun _ => ⟨fun h => ?_, fun h => ?_⟩⟩⟩
      · exact ToStrD.rule slT_sl_uint8.ut und_string und_uint8 hBc (hR6.cel.rdS hlt fun a2 ha2 => ToStrD.rule slT_sl_uint8.ut und_string und_uint8 (hR6.at_ hlt) (by simp))
      · have hjk : j < k := by simp only [decide_eq_true_eq] at h; omega
        have hjD : j < (cutV u k).length := by rw [hDS.len]; exact hjk
        have hfirst : os[j].2 = (cutV u k)[j] := by
          have h1 := hC.gen.first (i := j) hkn hDS hjk
          rw [mt_at (by omega)] at h1
          rw [hrow j hlt, h1]
        have hle2 := flat_le (cutV u k) (j + 1)
        rw [hflat, hAl] at hle2
        have hst := flat_takes (cutV u k) j hjD
        have hsl2 := congrArg List.length hst
        rw [List.length_append, hDS.at_ hjD] at hsl2
        have H7 := H56.drew k57
        have hR7 := hR.fr0 H7.fr
        refine hR7.cel.rdS hlt fun a2 ha2 => Hp.app (s := a) slT_sl_uint8 H7 (hR7.at_ hlt) (one_u8 _) (by unfold maxLen; rw [hrl j hlt]; omega) (by rw [hrl j hlt]; omega) fun a3 w7 H8 _ => ?_
        rw [← List.map_append, hfirst, ← hst] at H8
        exact (H8.own c).drop.ent (Ent.star (Ent.refl _) emp_l')
      · have hjk : k ≤ j := by simp only [decide_eq_false_iff_not] at h; omega
        have e1 : (cutV u k).take (j + 1) = (cutV u k).take j := by
          rw [List.take_of_length_le (by rw [hDS.len]; omega), List.take_of_length_le (by rw [hDS.len]; omega)]
        rw [e1]
        exact ((H56.drew k57).own c).drop.ent emp_l'
    · rintro a2 w6 H6
      rw [ofW j (by omega)]
      exact ⟨⟨j + 1, rfl, by omega, H6⟩, by dsimp only; omega⟩
  · have hjn : j = n := by simp only [decide_eq_false_iff_not] at h; omega
    rw [List.take_of_length_le (by rw [hDS.len]; omega), hflat] at H5 hal
    rw [hAl] at hal
    refine ⟨fun h => ?_, fun _ => ?_⟩
    · rw [hal, ← hS] at h; simp at h
    have hA : Byt w5 a (strp u k) := H5.cel (s := a)
    have hAc := hA.cap
    have hA4 : 4 ≤ (strp u k).length := by omega
    refine hA.rd (i := 0) (by omega) fun a0 _ => hA.rd (i := 1) (by omega) fun a1 _ => hA.rd (i := 2) (by omega) fun a2 _ => hA.rd (i := 3) (by omega) fun a3 _ => fun k111 => ⟨by omega, by omega, by omega, ?_⟩
    rw [le_or, ← lenOf_at hA4]
    have hlen : lenOf (strp u k) = u.length := by unfold strp; rw [List.append_assoc]; exact lenOf_le4 (by omega) _
    rw [hlen]
    have H6 := H5.drew k111
    have hz : (strp u k).drop 4 = u ++ List.replicate (S * k - (u.length + 4)) 0 := by unfold strp; rw [← hS, List.append_assoc]; rfl
    have hcut : Byt (w5.drewN k111) (a.cut 1 (Int.toNat 4) (Int.toNat (a.l : Int))) (u ++ List.replicate (S * k - (u.length + 4)) 0) := by
      have := Cel.cut (hA.fr0 ((Hp.start w5).drew k111).fr) (l := 4) (k := a.l) (by omega) (Nat.le_refl _)
      rw [Nat.mul_one, Nat.mul_one, List.take_of_length_le (by simp; omega), ← List.map_drop, hz] at this
      rw [Int.toNat_natCast]
      exact this
    have hcl := hcut.len
    rw [List.length_append, List.length_replicate] at hcl
    generalize a.cut 1 (Int.toNat 4) (Int.toNat (a.l : Int)) = ac at hcut hcl ⊢
    refine ⟨fun x w' => ∃ i : Nat, x = (i : Int) ∧ i ≤ ac.l ∧ Fr [] (w5.drewN k111) w', fun x _ => ac.l - x.toNat, ⟨0, rfl, Nat.zero_le _, Fr.refl _ _⟩, ?_⟩
    rintro _ w6 ⟨i, rfl, hi, f6⟩
    refine ⟨fun h => ?_, fun h => ?_⟩
    · have hlt : i < ac.l := by simp only [decide_eq_true_eq] at h; omega
      have hil : i < (u ++ List.replicate (S * k - (u.length + 4)) (0 : UInt8)).length := by rw [List.length_append, List.length_replicate]; omega
      refine (hcut.fr0 f6).rd hil fun a4 _ => ⟨false, fun h => ?_, fun h => rfl, fun h => ?_, fun h => ?_⟩
      · have hiu : i < u.length := by simp only [decide_eq_true_eq] at h; omega
        obtain ⟨a5, g1, g2, _, l5, g4, g5⟩ := (hU3.fr0 (H6.fr.then_ f6)).rd (Q := fun _ l => l = (u[i].toNat : Int)) hiu fun _ _ => rfl
        refine ⟨a5, g1, g2, by omega, l5, g4, ?_⟩
        rw [g5, List.getElem_append_left hiu]
        simp
      · exfalso
        simp only [Bool.false_or, Bool.and_eq_true, decide_eq_true_eq] at h
        apply h.2
        rw [List.getElem_append_right (by omega), List.getElem_replicate]
        rfl
      · rw [ofW i (by omega)]
        exact ⟨⟨i + 1, rfl, by omega, f6⟩, by dsimp only; omega⟩
    · have hC6 := hC3.fr0 (H6.fr.then_ f6)
      have hR6 := hR.fr0 (H6.fr.then_ f6)
      have f06 := f03.then_ (H6.fr.then_ f6)
      refine call (chosen_c (n := n) (least := k) (by omega) (by omega) hkn (hP.fr0 f06) hzl) ?_
      rintro _ w7 ⟨co, xs, rfl, hnd, hlt, hle, H7⟩
      have hxl : xs.length ≤ n := by
        have := List.Nodup.length_le_of_subset hnd (fun x hx => List.mem_range.2 (hlt x hx))
        simpa using this
      refine ⟨co, rfl, call (parts_c (hR6.fr0 H7.fr) (H7.cel (s := co)) (fun x hx => by rw [hosl]; exact hlt x hx) (by omega) (by omega) (fun r hr => by
        obtain ⟨i, hi, rfl⟩ := List.getElem_of_mem hr
        rw [hrow i hi, lin_len]; omega)) ?_⟩
      rintro _ w8 ⟨po, ps, rfl, hps, H8⟩
      obtain ⟨hF, hpl⟩ := frags_of (n := n) (k := k) (v := u) (R := mt rs) (by rw [mt_len]; exact hgl) hos hnd hlt hps
      have hPs : RdP w8 po ps := ⟨H8.cel (s := po), partsOf (ps := ps) H8⟩
      have f08 := f06.then_ (H7.fr.then_ H8.fr)
      refine ⟨po, rfl, call (join_c (hG.fr0 f08) (hC6.fr0 (H7.fr.then_ H8.fr)) hPs (by omega) (fun r hr => by rw [hF.len r hr, ← hS]; omega)) ?_⟩
      rintro x w9 hJ
      obtain ⟨jo, rfl, H9⟩ := join_all hC.gen (by omega) hk hkn hu hF (by omega) hJ
      have f09 := f08.then_ H9.fr
      refine ⟨_, _, rfl, true, fun _ => ToStr.rule slT_sl_uint8.ut und_string und_uint8 (H9.cel (s := jo)) (ToStr.rule slT_sl_uint8.ut und_string und_uint8 (hU.fr0 f09) (by simp)), fun h => by simp at h, fun b w' => b = true ∧ Fr [] w w', ⟨fun _ => call (taken_c (hG.fr0 f09)) ?_, fun h => by simp at h⟩, ?_⟩
      · rintro _ w10 ⟨rfl, f10⟩
        exact ⟨true, rfl, rfl, f09.then_ f10⟩
      · rintro _ w10 ⟨rfl, f10⟩
        exact Rt.ok ⟨rfl, f10⟩
end
end Go.Proofs.YteoeboeaanjehaaDoor
