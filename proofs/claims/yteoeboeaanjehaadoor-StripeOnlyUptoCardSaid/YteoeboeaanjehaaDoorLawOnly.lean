/-
  Contract of the law StripeOnly.
-/
import Derived.Test.YteoeboeaanjehaaDoorLawWhole
namespace Go.Vc
theorem enc_set : ∀ (ps : List Pt) (i : Nat) (h : i < ps.length) (s : Slc) (b : List UInt8), (ps.flatMap Pt.enc).set (i * 2 + 1) s.v = (ps.set i ⟨ps[i].ix, s, b⟩).flatMap Pt.enc
  | [], _, h, _, _ => by simp at h
  | p :: r, 0, _, s, b => rfl
  | p :: r, i + 1, h, s, b => by
    have ih := enc_set r i (by simpa using h) s b
    rw [List.flatMap_cons, show (i + 1) * 2 + 1 = i * 2 + 1 + 2 by omega, List.set_cons_succ, List.flatMap_cons, List.getElem_cons_succ, ← ih]
    rfl
end Go.Vc
namespace Go.Proofs.YteoeboeaanjehaaDoor
open Go Go.Vc Go.Vc.Asn Go.Gf
section
variable {w : World}
theorem Frags.take {n k : Nat} {R : List (List UInt8)} {v : List UInt8} {ps : List Pt} (h : Frags n k R v ps) (m : Nat) : Frags n k R v (ps.take m) :=
  ⟨⟨fun p hp => h.1.ix p (List.mem_of_mem_take hp), by rw [List.map_take]; exact h.1.nd.sublist (List.take_sublist _ _)⟩, fun p hp => h.2 p (List.mem_of_mem_take hp)⟩
set_option maxHeartbeats 1000000 in
theorem stripeOnly_c (hG : ErrG w) {N K : Int} {v d p b : Slc} {vb : List UInt8} {ds : Rws} {zs : List Int} (hV : Byt w v vb) (hD : RdR w d ds) (hdl : ds.length ≤ 1048576) (hdb : ∀ r ∈ ds, r.2.length ≤ 1048576) (hP : Cel w p 1 (zs.map fun i => Value.int .i64 i)) (hzl : zs.length ≤ 1099511627776) :
    Calls PP F_sherdlaw05_StripeOnly #[.agg #[.int .i64 N, .int .i64 K], .agg #[v.v, d.v, p.v, b.v]] w (Rt fun x w' => x = .bool true ∧ Fr [] w w') := by
  refine sim_sherdlaw05_StripeOnly _ _ _ _ _ _ _ _ ?_
  unfold vc_sherdlaw05_StripeOnly
  obtain ⟨u, hu, _, hm0, hmc, hU⟩ := front hV
  generalize v.cut 1 (Int.toNat 0) (Int.toNat (minI (v.l : Int) 65536)) = vs at hU ⊢
  refine (Hp.start w).new fun b1 w1 H => H.new fun b2 w2 H => fun k15 => call (shape_c N K) ?_
  have H := H.drew k15
  rintro _ w3 ⟨q, g, s, rs, n, k, rfl, hn12, hC, f3⟩
  have hk := hC.hk
  have hkn := hC.hkn
  have hf3 := H.fr.then_ f3
  have hU3 := hU.fr0 hf3
  have hul := hU.len
  have hgl := hC.gen.shp.len
  rw [mt_len] at hgl
  refine ⟨_, _, _, rfl, by omega, hm0, hmc, call (split_c hC hU3 hu) ?_⟩
  rintro _ w4 ⟨o, os, rfl, hos, H4⟩
  have hR := rdR H4.assoc
  have hosl : os.length = n := by have := congrArg List.length hos; simpa [hgl] using this
  have hol := hR.cel.lenM
  have hC4 := hC.fr0 H4.fr
  have f04 := hf3.then_ H4.fr
  have hsz := size_bound (n := u.length) hk
  have hrow : ∀ i (hi : i < os.length), os[i].2 = lin (rs[i]'(by omega)).2 (cutV u k) (sizeN u.length k) := fun i hi => os_at hos hi (by omega)
  have hrl : ∀ r ∈ os, r.2.length ≤ 16777216 := fun r hr => by
    obtain ⟨i, hi, rfl⟩ := List.getElem_of_mem hr
    rw [hrow i hi, lin_len]; omega
  have room : ∀ xs : List Nat, xs.Nodup → (∀ x ∈ xs, x < n) → xs.length ≤ n := fun xs h1 h2 => by
    have := List.Nodup.length_le_of_subset h1 (fun x hx => List.mem_range.2 (h2 x hx))
    simpa using this
  refine ⟨_, _, rfl, fun h => ?_, fun _ => ?_⟩
  · rw [hol, hosl] at h; simp at h
  refine call (chosen_c (n := n) (least := 0) (by omega) (by omega) (by omega) (hP.fr0 f04) hzl) ?_
  rintro _ w5 ⟨co, xs, rfl, hnd, hlt, _, H5⟩
  have hxl := room xs hnd hlt
  refine ⟨co, rfl, call (parts_c (hR.fr0 H5.fr) (H5.cel (s := co)) (fun x hx => by rw [hosl]; exact hlt x hx) (by omega) (by omega) hrl) ?_⟩
  rintro _ w6 ⟨po, ps, rfl, hps, H6⟩
  obtain ⟨hF, hpl⟩ := frags_of (n := n) (k := k) (v := u) (R := mt rs) (by rw [mt_len]; exact hgl) hos hnd hlt hps
  have hPs : RdP w6 po ps := ⟨H6.cel (s := po), partsOf (ps := ps) H6⟩
  have hpol := hPs.len
  have hpoc := hPs.cel.cap
  have f06 := f04.then_ (H5.fr.then_ H6.fr)
  refine ⟨po, rfl, fun f w' => w' = w6 ∧ ∃ fs, RdP w6 f fs ∧ Frags n k (mt rs) u fs ∧ fs.length < k, ⟨fun h => ?_, fun h => ⟨rfl, ps, hPs, hF, ?_⟩⟩, ?_⟩
  · have ewk : wr .i64 ((k : Int) - 1) = ((k - 1 : Nat) : Int) := by rw [wr64 (by omega) (by omega)]; omega
    simp only [decide_eq_true_eq] at h
    rw [ewk, Int.toNat_natCast]
    refine ⟨by omega, by omega, by omega, rfl, ps.take (k - 1), ?_, hF.take _, by rw [List.length_take]; omega⟩
    have := hPs.cut (l := 0) (m := k - 1) (by omega) (by omega)
    rw [List.drop_zero, Nat.sub_zero] at this
    exact this
  · simp only [decide_eq_false_iff_not] at h; omega
  rintro f _ ⟨rfl, fs, hFs, hFF, hfl⟩
  refine call (join_c (hG.fr0 f06) (hC4.fr0 (H5.fr.then_ H6.fr)) hFs (by omega) (fun r hr => by rw [hFF.len r hr]; omega)) ?_
  rintro x w7 hJ
  obtain ⟨rfl, f7⟩ := join_few hFF hfl hJ
  refine ⟨_, _, rfl, fun h => by simp at h, fun _ => ?_⟩
  have f07 := f06.then_ f7
  have f47 := H5.fr.then_ (H6.fr.then_ f7)
  refine call (chosen_c (n := n) (least := k) (by omega) (by omega) hkn (hP.fr0 f07) hzl) ?_
  rintro _ w8 ⟨co2, xs2, rfl, hnd2, hlt2, hle2, H8⟩
  have hxl2 := room xs2 hnd2 hlt2
  refine ⟨co2, rfl, call (parts_c ((hR.fr0 f47).fr0 H8.fr) (H8.cel (s := co2)) (fun x hx => by rw [hosl]; exact hlt2 x hx) (by omega) (by omega) hrl) ?_⟩
  rintro _ w9 ⟨po2, ps2, rfl, hps2, H9⟩
  obtain ⟨hF2, hpl2⟩ := frags_of (n := n) (k := k) (v := u) (R := mt rs) (by rw [mt_len]; exact hgl) hos hnd2 hlt2 hps2
  have f08 := f07.then_ H8.fr
  have hddl := hD.cel.lenM
  have hlen0 : po2.l = ps2.length := by have := (H9.cel (s := po2)).len; rw [enc_len] at this; omega
  refine ⟨po2, rfl, fun x w' => ∃ (i : Nat) (cur : List Pt), x = (i : Int) ∧ i ≤ ds.length ∧ cur.map (·.ix) = ps2.map (·.ix) ∧ (∀ r ∈ cur, (∃ r' ∈ ps2, r.sl = r'.sl ∧ r.bs = r'.bs) ∨ Byt w r.sl r.bs) ∧ (∀ r ∈ cur, r.bs.length ≤ 16777216) ∧ Hp w8 w' (star (own Ty_api_Part 2 po2 (cur.flatMap Pt.enc)) (star (all partA ps2) emp)), fun x _ => ds.length - x.toNat, ⟨0, ps2, rfl, Nat.zero_le _, rfl, fun r hr => .inl ⟨r, hr, rfl, rfl⟩, fun r hr => by rw [hF2.len r hr]; omega, H9⟩, ?_⟩
  rintro _ w10 ⟨i, cur, rfl, hi, hix, hor, hbl, H10⟩
  have hcl : cur.length = ps2.length := by have := congrArg List.length hix; simpa using this
  have f010 := f08.then_ H10.fr
  refine ⟨fun h => ?_, fun h => ?_⟩
  · have hid : i < ds.length := by simp only [decide_eq_true_eq] at h; omega
    refine ⟨fun w' => ∃ cur : List Pt, cur.map (·.ix) = ps2.map (·.ix) ∧ (∀ r ∈ cur, (∃ r' ∈ ps2, r.sl = r'.sl ∧ r.bs = r'.bs) ∨ Byt w r.sl r.bs) ∧ (∀ r ∈ cur, r.bs.length ≤ 16777216) ∧ Hp w8 w' (star (own Ty_api_Part 2 po2 (cur.flatMap Pt.enc)) (star (all partA ps2) emp)), (hD.fr0 f010).cel.rdS hid fun a ha => ⟨fun h => ?_, fun _ => ⟨cur, hix, hor, hbl, H10⟩⟩, ?_⟩
    · simp only [Bool.and_eq_true, decide_eq_true_eq] at h
      have hip : i < cur.length := by omega
      have hcel := H10.cel (s := po2)
      obtain ⟨a2, ha2, _⟩ := hcel.get (i := i * 2 + 1) (by rw [enc_len]; omega)
      refine ⟨a2, ha2, by omega, by omega, ?_⟩
      rw [add_add, Int.toNat_natCast]
      refine H10.stoS (s := po2) (by rw [enc_len]; omega) ha2 fun w11 H11 => ?_
      rw [enc_set cur i hip ds[i].1 ds[i].2] at H11
      refine ⟨_, ?_, fun r hr => ?_, fun r hr => ?_, H11⟩
      · rw [List.map_set, ← hix]
        apply List.ext_getElem?
        intro t
        rw [List.getElem?_set]
        by_cases ht : i = t
        · subst ht
          rw [if_pos rfl, if_pos (by simpa using hip), List.getElem?_map, List.getElem?_eq_getElem hip]; rfl
        · rw [if_neg ht]
      · rcases List.mem_or_eq_of_mem_set hr with hr | rfl
        · exact hor r hr
        · exact .inr (hD.at_ hid)
      · rcases List.mem_or_eq_of_mem_set hr with hr | rfl
        · exact hbl r hr
        · have := hdb _ (List.getElem_mem hid)
          show ds[i].2.length ≤ _
          omega
    · rintro w11 ⟨cur2, h1, h2, h3, H11⟩
      rw [ofW i (by omega)]
      exact ⟨⟨i + 1, cur2, rfl, by omega, h1, h2, h3, H11⟩, by dsimp only; omega⟩
  · have hPc : RdP w10 po2 cur := ⟨H10.cel (s := po2), fun r hr => by
      rcases hor r hr with ⟨r', hr', e1, e2⟩ | hB
      · rw [e1, e2]; exact partsOf (ps := ps2) H10 r' hr'
      · exact hB.fr0 f010⟩
    have hFc : Fine n cur := ⟨fun r hr => by
      have : r.ix ∈ ps2.map (·.ix) := by rw [← hix]; exact List.mem_map_of_mem hr
      obtain ⟨r', hr', e⟩ := List.mem_map.1 this
      rw [← e]
      exact hF2.1.ix r' hr', by rw [hix]; exact hF2.1.nd⟩
    have hC10 := hC4.fr0 (f47.then_ (H8.fr.then_ H10.fr))
    refine call (join_c (hG.fr0 f010) hC10 hPc (by omega) hbl) ?_
    rintro x w11 (⟨e, he, rfl, _, f11⟩ | ⟨jo, D, l, y, rfl, h0, hDs, hpl', hA, hW, H11⟩)
    · refine ⟨_, _, rfl, fun _ => ⟨fun b w' => b = true ∧ Fr [] w w', ⟨fun _ => call (taken_c (hG.fr0 (f010.then_ f11))) ?_, fun h => by simp at h⟩, ?_⟩, fun h => by simp at h; exact absurd h he⟩
      · rintro _ w12 ⟨rfl, f12⟩
        exact ⟨true, rfl, rfl, (f010.then_ f11).then_ f12⟩
      · rintro _ w12 ⟨rfl, f12⟩
        exact Rt.ok ⟨rfl, f12⟩
    · obtain ⟨hy, hys, hyD⟩ := cut_of_whole hk hDs hW
      have hBy : Byt w11 jo y := H11.cel (s := jo)
      have f011 := f010.then_ H11.fr
      have hC11 := hC10.fr0 H11.fr
      refine ⟨_, _, rfl, fun h => by simp at h, fun _ => call (split_c hC11 hBy hy) ?_⟩
      rintro _ w12 ⟨o2, os2, rfl, hos2, H12⟩
      rw [hyD, hys] at hos2
      have hR2 := rdR H12.assoc
      have hosl2 : os2.length = n := by have := congrArg List.length hos2; simpa [hgl] using this
      have hol2 := hR2.cel.lenM
      have f012 := f011.then_ H12.fr
      have hPc12 := hPc.fr0 (H11.fr.then_ H12.fr)
      have hpcl := hPc.len
      refine ⟨_, _, rfl, fun h => ?_, fun _ => ⟨fun x w' => ∃ i : Nat, x = (i : Int) ∧ i ≤ cur.length ∧ Fr [] w12 w', fun x _ => cur.length - x.toNat, ⟨0, rfl, Nat.zero_le _, Fr.refl _ _⟩, ?_⟩⟩
      · rw [hol2, hosl2] at h; simp at h
      rintro _ w13 ⟨i, rfl, hi, f13⟩
      refine ⟨fun h => ?_, fun h => ?_⟩
      · have hic : i < cur.length := by simp only [decide_eq_true_eq] at h; omega
        have hxi := hFc.ix _ (List.getElem_mem hic)
        obtain ⟨t, ht⟩ : ∃ t : Nat, cur[i].ix = (t : Int) := ⟨cur[i].ix.toNat, by omega⟩
        have htn : t < os2.length := by omega
        have hag : os2[t].2 = cur[i].bs := by
          have h1 := hA (cur[i].ix.toNat, cur[i].bs) (List.mem_map_of_mem (List.getElem_mem hic))
          rw [ht, Int.toNat_natCast] at h1
          have h1 : lin ((mt rs).getD t []) D l = cur[i].bs := h1
          rw [List.getD_eq_getElem?_getD, List.getElem?_map, List.getElem?_eq_getElem (by omega)] at h1
          rw [os_at hos2 htn (by omega)]
          exact h1
        refine (hPc12.fr0 f13).rd hic fun a ha => ?_
        refine (Hp.start w13).new fun b3 w14 G => G.stoAll (b := b3) (by rfl) fun w15 G => ?_
        have hR15 := (hR2.fr0 f13).fr0 G.fr
        refine ⟨(t : Int), by rw [← ht]; exact G.cell (b := b3) (i := 0) rfl, hR15.cel.rdS htn fun a2 ha2 => ToStrD.rule slT_sl_uint8.ut und_string und_uint8 (hR15.at_ htn) ⟨_, G.cell (b := b3) (i := 1) rfl, ToStrD.rule slT_sl_uint8.ut und_string und_uint8 (((hPc12.fr0 f13).fr0 G.fr).at_ hic) fun k145 => ⟨fun h => ?_, fun _ => ?_⟩⟩⟩
        · rw [hag] at h; simp at h
        · rw [ofW i (by omega)]
          exact ⟨⟨i + 1, rfl, by omega, f13.then_ (G.drew k145).fr⟩, by dsimp only; omega⟩
      · refine call (taken_c (hG.fr0 (f012.then_ f13))) ?_
        rintro _ w14 ⟨rfl, f14⟩
        exact ⟨true, rfl, Rt.ok ⟨rfl, (f012.then_ f13).then_ f14⟩⟩
end
end Go.Proofs.YteoeboeaanjehaaDoor
