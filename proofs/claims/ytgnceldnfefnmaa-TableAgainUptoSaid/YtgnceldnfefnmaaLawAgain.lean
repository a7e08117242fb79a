/-
  Contract of TableAgain: a table is made again of its own updates, twice some of them; a copy goes its own way.
-/
import Derived.Test.YtgnceldnfefnmaaLawAgainP
import Derived.Test.YtgnceldnfefnmaaTableCopy
namespace Go.Proofs.Ytgnceldnfefnmaa
open Go Go.Vc Go.Vc.Asn Go.Tab Go.Sort
section
variable {w0 w : World} {F F' : Asn} {n : Nat} {T : Tc} {p : Nat}
/-- The table after these updates. -/
abbrev TbU (n : Nat) (us : List Upt) (T : Tc) : Prop := TbOk n DB (feU us) (heU us) T
theorem updU_c {us : List Upt} {u : Upt} (h : TbU n us T) (hu : Mine u) (hl : us.length ≤ 200000000000) (hr : Rdy w0 F u.s u.data) (H : Hp w0 w (star (tabA p T) F)) :
    Calls PP F_table_Table_Apply #[.pointer (some (blk p)), .agg u.c.toArray] w (Rt fun v w' => v = .tuple #[.bool (!ltT u.tag (fl n (feU us u.key)) && ((comesB u && !decide (u.tag ∈ heU us u.key)) || (endsB u && !decide (u.tag ∈ feU us u.key)))), .int .i64 0] ∧ ∃ T', TbU n (us ++ [u]) T' ∧ Hp w0 w' (star (tabA p T') F)) := by
  have h1 := feU_len us u.key
  have h2 := heU_len us u.key
  have h3 := hu.len
  refine Rt.mono (apply_k (u := u) h hu.may hu.pos hu.data (by omega) hr (by omega) H) ?_
  rintro v w' ⟨rfl, T', h', _, H⟩
  refine ⟨rfl, T', ?_, H⟩
  unfold TbU
  rw [feU_snoc, heU_snoc]
  exact h'
theorem RdU.rdy {s : Slc} {us : List Upt} (h : RdU w0 F s us) {u : Upt} (hu : u ∈ us) : Rdy w0 F u.s u.data := fun w' A H => (h w' A H).2 u hu
theorem TbU.tell {us : List Upt} (h : TbU n us T) (hl : us.length ≤ 200000000000) (hk : T.keys.length ≤ 1099511627776) : Tell T := by
  refine ⟨hk, fun k => ?_, fun k => (h.sh k).tagOk, fun k => TbOk.dataLen h (fun k t => Nat.le_trans (DB_len k t) (by decide)) k⟩
  have h1 := (h.sh k).len
  have h2 := feU_len us k
  have h3 := heU_len us k
  omega
set_option maxHeartbeats 4000000 in
theorem tableAgain_c {s r : Slc} {ms mo : List Mv} (d ct : Int) (hM : Cel w s 5 (ms.flatMap Mv.c)) (hO : Cel w r 5 (mo.flatMap Mv.c)) (hl : ms.length ≤ 1048576) (hl2 : mo.length ≤ 1048576) :
    Calls PP F_sherdlaw15_TableAgain #[.int .i64 d, s.v, .agg #[r.v, .int .i64 ct]] w (Rt fun v w' => v = .bool true ∧ Fr [] w w') := by
  have hsl := hM.flen mv_len (by decide)
  have hrl := hO.flen mv_len (by decide)
  have hn1 := modI_lo d (m := 5) (by decide)
  have hn2 := modI_hi d (m := 5) (by decide)
  obtain ⟨n, hn⟩ := Int.eq_ofNat_of_zero_le hn1
  have hc1 := modI_lo ct (m := 9) (by decide)
  refine sim_sherdlaw15_TableAgain _ _ _ _ _ _ ?_
  unfold vc_sherdlaw15_TableAgain
  refine (Hp.start w).new fun b0 w1 H k10 => ?_
  have H := (H.drew k10).drop
  refine call (small_c d) ?_
  rintro _ _ ⟨rfl, rfl⟩
  rw [hn]
  refine ⟨_, rfl, call (done_c (F := emp) (by omega) (RdM.old hM) (by omega) H) ?_⟩
  rintro _ w2 ⟨p, T, rfl, hT, H⟩
  have ht := TabS.tell hT (by omega)
  obtain ⟨tb1, tb2⟩ := TabS.tellB hT (by omega)
  refine ⟨_, _, rfl, fun h => by simp at h, fun _ => ?_⟩
  refine call (all_c ht H) ?_
  rintro _ w3 ⟨sA, hA, rfl, hab, H⟩
  obtain ⟨a1, a2⟩ := TabS.hds hT (by omega) hab
  refine ⟨_, rfl, call (updates_c (B := 2000000000) (C := 3) ht tb1 tb2 (by decide) (H.take (tabA p T))) ?_⟩
  rintro _ w4 ⟨sU, us, rfl, hus, hul, H⟩
  have hmine : ∀ u ∈ us, Mine u := fun u hu => mine_of (TbOk.own_of hT hus hu)
  refine ⟨_, rfl, call (tnew_c (n : Int)) ?_⟩
  rintro _ w5 (⟨h, _⟩ | ⟨_, pa, ga, rfl, K⟩)
  · exfalso; rcases h with h | h <;> omega
  have H := H.join K
  refine ⟨_, _, rfl, call (tnew_c (n : Int)) ?_⟩
  rintro _ w6 (⟨h, _⟩ | ⟨_, pb, gb, rfl, K⟩)
  · exfalso; rcases h with h | h <;> omega
  have H := H.join K
  refine ⟨_, _, rfl, ?_⟩
  have h0a : TbU n [] ⟨n, ga, []⟩ := TbOk.new n DB ga
  have h0b : TbU n [] ⟨n, gb, []⟩ := TbOk.new n DB gb
  -- the first table
  refine ⟨fun i w' => ∃ (j : Nat) (Ta : Tc), i = (j : Int) ∧ j ≤ us.length ∧ TbU n (us.take j) Ta ∧ Hp w w' (star (tabA pa Ta) (star (updsA sU us) (star (tabA pb ⟨n, gb, []⟩) (star (tabA p T) (star (heldsA sA hA) emp))))), fun i _ => us.length - i.toNat, ⟨0, _, rfl, Nat.zero_le _, h0a, ?_⟩, ?_⟩
  · refine H.ent ?_
    exact Ent.pick (P := tabA pa _) (Ent.pick (P := updsA sU us) (Ent.pick (P := tabA pb _) (Ent.pick (P := tabA p T) (Ent.pick (P := heldsA sA hA) (Ent.refl _)))))
  rintro _ w7 ⟨j, Ta, rfl, hj, hTa, H⟩
  have hU : RdU w (star (updsA sU us) (star (tabA pb ⟨n, gb, []⟩) (star (tabA p T) (star (heldsA sA hA) emp)))) sU us := RdU.upds
  have hUl := (hU _ _ H).1.flen ut_len (by decide)
  refine ⟨fun h => ?_, fun h => ?_⟩
  · have hlt : j < us.length := by rw [hUl] at h; simp only [decide_eq_true_eq] at h; omega
    have hx : us[j]? = some us[j] := List.getElem?_eq_getElem hlt
    have htk : us.take (j + 1) = us.take j ++ [us[j]] := by rw [List.take_succ_eq_append_getElem hlt]
    have hdo := TbOk.own_does hT hus hlt (hTa.fe _).1
    have ewr : wr .i64 ((j : Int) + 1) = ((j + 1 : Nat) : Int) := by rw [wr64 (by omega) (by omega)]; omega
    have hmem : us[j] ∈ us := List.getElem_mem _
    obtain ⟨a, ha, hc⟩ := (hU _ _ H).1.elem ut_len hx (by decide)
    generalize us[j] = u at *
    refine ⟨a, ha, by omega, by omega, _, hc 0 _ rfl, _, hc 1 _ rfl, _, hc 2 _ rfl, _, hc 3 _ rfl, _, hc 4 _ rfl, _, hc 5 _ rfl, _, hc 6 _ rfl, H.new fun b65 w8 H => H.stoAll (b := b65) (by rfl) fun w9 H => ⟨_, H.cell (b := b65) (i := 0) rfl, _, H.cell (b := b65) (i := 1) rfl, _, H.cell (b := b65) (i := 2) rfl, _, H.cell (b := b65) (i := 3) rfl, _, H.cell (b := b65) (i := 4) rfl, _, H.cell (b := b65) (i := 5) rfl, _, H.cell (b := b65) (i := 6) rfl, ?_⟩⟩
    refine call (updU_c (u := u) hTa (hmine u hmem) (by rw [List.length_take]; omega) (hU.rdy hmem) H.drop) ?_
    rintro _ w10 ⟨rfl, T', hT', H⟩
    rw [hdo]
    rw [← htk] at hT'
    exact ⟨_, _, rfl, fun h => by simp at h, fun _ => ⟨⟨j + 1, T', by rw [ewr], by omega, hT', H⟩, by dsimp only; rw [ewr]; omega⟩⟩
  have hje : j = us.length := by rw [hUl] at h; simp only [decide_eq_false_iff_not] at h; omega
  subst hje
  rw [List.take_length] at hTa
  clear h hU hUl
  -- the second: some of them
  refine ⟨fun i w' => ∃ (j : Nat) (Tb : Tc), i = (j : Int) ∧ j ≤ us.length ∧ TbU n (us.take (min j (modI ct 9).toNat)) Tb ∧ Hp w w' (star (tabA pb Tb) (star (updsA sU us) (star (tabA pa Ta) (star (tabA p T) (star (heldsA sA hA) emp))))), fun i _ => us.length - i.toNat, ⟨0, _, rfl, Nat.zero_le _, by rw [Nat.zero_min]; exact h0b, ?_⟩, ?_⟩
  · refine H.ent ?_
    exact Ent.pick (P := tabA pb _) (Ent.pick (P := updsA sU us) (Ent.pick (P := tabA pa _) (Ent.pick (P := tabA p T) (Ent.pick (P := heldsA sA hA) (Ent.refl _)))))
  rintro _ w8 ⟨j, Tb, rfl, hj, hTb, H⟩
  have hU : RdU w (star (updsA sU us) (star (tabA pa Ta) (star (tabA p T) (star (heldsA sA hA) emp)))) sU us := RdU.upds
  have hUl := (hU _ _ H).1.flen ut_len (by decide)
  refine ⟨fun h => ?_, fun h => ?_⟩
  · have hlt : j < us.length := by rw [hUl] at h; simp only [decide_eq_true_eq] at h; omega
    have ewr : wr .i64 ((j : Int) + 1) = ((j + 1 : Nat) : Int) := by rw [wr64 (by omega) (by omega)]; omega
    refine ⟨fun w' => ∃ Tb, TbU n (us.take (min (j + 1) (modI ct 9).toNat)) Tb ∧ Hp w w' (star (tabA pb Tb) (star (updsA sU us) (star (tabA pa Ta) (star (tabA p T) (star (heldsA sA hA) emp))))), ⟨fun hc => ?_, fun hc => ?_⟩, fun w9 ⟨Tb, hTb, H⟩ => ⟨⟨j + 1, Tb, by rw [ewr], by omega, hTb, H⟩, by dsimp only; rw [ewr]; omega⟩⟩
    · rw [modI_wr ct (by decide) (by decide)] at hc
      have hjc : j < (modI ct 9).toNat := by simp only [decide_eq_true_eq] at hc; omega
      rw [Nat.min_eq_left (by omega)] at hTb
      rw [Nat.min_eq_left (by omega)]
      have hx : us[j]? = some us[j] := List.getElem?_eq_getElem hlt
      have htk : us.take (j + 1) = us.take j ++ [us[j]] := by rw [List.take_succ_eq_append_getElem hlt]
      have hmem : us[j] ∈ us := List.getElem_mem _
      obtain ⟨a, ha, hc⟩ := (hU _ _ H).1.elem ut_len hx (by decide)
      generalize us[j] = u at *
      refine ⟨a, ha, by omega, by omega, _, hc 0 _ rfl, _, hc 1 _ rfl, _, hc 2 _ rfl, _, hc 3 _ rfl, _, hc 4 _ rfl, _, hc 5 _ rfl, _, hc 6 _ rfl, ?_⟩
      refine call (updU_c (u := u) hTb (hmine u hmem) (by rw [List.length_take]; omega) (hU.rdy hmem) H) ?_
      rintro _ w10 ⟨rfl, T', hT', H⟩
      rw [← htk] at hT'
      exact ⟨_, _, rfl, T', hT', H⟩
    · rw [modI_wr ct (by decide) (by decide)] at hc
      have hjc : (modI ct 9).toNat ≤ j := by simp only [decide_eq_false_iff_not] at hc; omega
      rw [Nat.min_eq_right (by omega)] at hTb
      rw [Nat.min_eq_right (by omega)]
      exact ⟨Tb, hTb, H⟩
  have hje : j = us.length := by rw [hUl] at h; simp only [decide_eq_false_iff_not] at h; omega
  subst hje
  clear h hU hUl
  -- and all of them
  refine ⟨fun i w' => ∃ (j : Nat) (Tb : Tc), i = (j : Int) ∧ j ≤ us.length ∧ TbU n (us.take (min us.length (modI ct 9).toNat) ++ us.take j) Tb ∧ Hp w w' (star (tabA pb Tb) (star (updsA sU us) (star (tabA pa Ta) (star (tabA p T) (star (heldsA sA hA) emp))))), fun i _ => us.length - i.toNat, ⟨0, _, rfl, Nat.zero_le _, by rw [List.take_zero, List.append_nil]; exact hTb, H⟩, ?_⟩
  clear H hTb
  rintro _ w9 ⟨j, Tb, rfl, hj, hTb, H⟩
  have hU : RdU w (star (updsA sU us) (star (tabA pa Ta) (star (tabA p T) (star (heldsA sA hA) emp)))) sU us := RdU.upds
  have hUl := (hU _ _ H).1.flen ut_len (by decide)
  refine ⟨fun h => ?_, fun h => ?_⟩
  · have hlt : j < us.length := by rw [hUl] at h; simp only [decide_eq_true_eq] at h; omega
    have hx : us[j]? = some us[j] := List.getElem?_eq_getElem hlt
    have htk : us.take (j + 1) = us.take j ++ [us[j]] := by rw [List.take_succ_eq_append_getElem hlt]
    have ewr : wr .i64 ((j : Int) + 1) = ((j + 1 : Nat) : Int) := by rw [wr64 (by omega) (by omega)]; omega
    have hmem : us[j] ∈ us := List.getElem_mem _
    obtain ⟨a, ha, hc⟩ := (hU _ _ H).1.elem ut_len hx (by decide)
    generalize us[j] = u at *
    refine ⟨a, ha, by omega, by omega, _, hc 0 _ rfl, _, hc 1 _ rfl, _, hc 2 _ rfl, _, hc 3 _ rfl, _, hc 4 _ rfl, _, hc 5 _ rfl, _, hc 6 _ rfl, H.new fun b65 w10 H => H.stoAll (b := b65) (by rfl) fun w11 H => ⟨_, H.cell (b := b65) (i := 0) rfl, _, H.cell (b := b65) (i := 1) rfl, _, H.cell (b := b65) (i := 2) rfl, _, H.cell (b := b65) (i := 3) rfl, _, H.cell (b := b65) (i := 4) rfl, _, H.cell (b := b65) (i := 5) rfl, _, H.cell (b := b65) (i := 6) rfl, ?_⟩⟩
    refine call (updU_c (u := u) hTb (hmine u hmem) (by rw [List.length_append, List.length_take, List.length_take]; omega) (hU.rdy hmem) H.drop) ?_
    rintro _ w12 ⟨rfl, T', hT', H⟩
    rw [List.append_assoc, ← htk] at hT'
    exact ⟨_, _, rfl, ⟨j + 1, T', by rw [ewr], by omega, hT', H⟩, by dsimp only; rw [ewr]; omega⟩
  have hje : j = us.length := by rw [hUl] at h; simp only [decide_eq_false_iff_not] at h; omega
  subst hje
  rw [List.take_length] at hTb
  clear h hU hUl
  -- the copy
  refine call (copy_c (fun y hy => by rw [← sh_of hT.keys hy]; exact ht.data _) (fun y hy => by rw [← sh_of hT.keys hy]; exact ht.tag _) (H.take (tabA p T))) ?_
  rintro _ w10 ⟨pc, Tc0, rfl, hsame, H⟩
  have hTc0 : TabS n ms Tc0 := TbOk.same hT hsame
  refine ⟨_, rfl, ?_⟩
  refine ⟨fun i w' => ∃ (j : Nat) (Tc : Tc), i = (j : Int) ∧ j ≤ mo.length ∧ TabS n (ms ++ mo.take j) Tc ∧ Hp w w' (star (tabA pc Tc) (star (tabA pb Tb) (star (tabA pa Ta) (star (tabA p T) (star (heldsA sA hA) emp))))), fun i _ => mo.length - i.toNat, ⟨0, _, rfl, Nat.zero_le _, by rw [List.take_zero, List.append_nil]; exact hTc0, ?_⟩, ?_⟩
  · refine (H.take (updsA sU us)).drop.ent ?_
    exact Ent.pick (P := tabA pc _) (Ent.pick (P := tabA pb _) (Ent.pick (P := tabA pa _) (Ent.pick (P := tabA p T) (Ent.pick (P := heldsA sA hA) (Ent.refl _)))))
  rintro _ w11 ⟨j, Tc, rfl, hj, hTc, H⟩
  refine ⟨fun h => ?_, fun h => ?_⟩
  · have hlt : j < mo.length := by rw [hrl] at h; simp only [decide_eq_true_eq] at h; omega
    have hx : mo[j]? = some mo[j] := List.getElem?_eq_getElem hlt
    have htk : mo.take (j + 1) = mo.take j ++ [mo[j]] := by rw [List.take_succ_eq_append_getElem hlt]
    have ewr : wr .i64 ((j : Int) + 1) = ((j + 1 : Nat) : Int) := by rw [wr64 (by omega) (by omega)]; omega
    obtain ⟨a, ha, hc⟩ := Cel.elem mv_len (hO.fr0 H.fr) hx (by decide)
    generalize mo[j] = mv at *
    refine ⟨a, ha, by omega, by omega, _, hc 0 _ rfl, _, hc 1 _ rfl, _, hc 2 _ rfl, _, hc 3 _ rfl, _, hc 4 _ rfl, H.new fun b53 w12 H => H.stoAll (b := b53) (by rfl) fun w13 H => ⟨_, H.cell (b := b53) (i := 0) rfl, _, H.cell (b := b53) (i := 1) rfl, _, H.cell (b := b53) (i := 2) rfl, _, H.cell (b := b53) (i := 3) rfl, _, H.cell (b := b53) (i := 4) rfl, ?_⟩⟩
    refine move_c (m := mv) hTc (by rw [List.length_append, List.length_take]; omega) (H.drop) fun T' w14 b hT' _ _ H => ⟨_, _, rfl, ⟨j + 1, T', by rw [ewr], by omega, ?_, H⟩, by dsimp only; rw [ewr]; omega⟩
    rw [htk, ← List.append_assoc]
    exact hT'
  have hje : j = mo.length := by rw [hrl] at h; simp only [decide_eq_false_iff_not] at h; omega
  subst hje
  rw [List.take_length] at hTc
  refine H.newRow (e := Ty_sherdlaw15_Move) (n := 0) (size := 5) [] rfl rfl (by decide) fun b254 w12 H => ?_
  refine H.app (s := ⟨some (blk b254), 0, 0⟩) slT_sl_sherdlaw15_Move (hM.fr0 H.fr) (one_mv ms) (by unfold maxLen; simp only; omega) (by simp only; omega) fun o1 w13 H ho1 => ?_
  simp only at ho1
  refine H.app (s := o1) slT_sl_sherdlaw15_Move (hO.fr0 H.fr) (one_mv mo) (by unfold maxLen; omega) (by omega) fun o2 w14 H ho2 => ?_
  have eF : [] ++ ms.flatMap Mv.c ++ mo.flatMap Mv.c = (ms ++ mo).flatMap Mv.c := by simp
  rw [eF] at H
  refine call (done_c (ms := ms ++ mo) (by omega) RdM.own (by rw [List.length_append]; omega) H) ?_
  rintro _ w15 ⟨p5, T5, rfl, hT5, H⟩
  have H : Hp w w15 (star (tabA p5 T5) (star (tabA pc Tc) (star (tabA pb Tb) (star (tabA pa Ta) (star (tabA p T) (star (heldsA sA hA) emp)))))) := (H.own o2).drop
  have hsub : ∀ u, u ∈ us.take (min us.length (modI ct 9).toNat) ++ us ↔ u ∈ us := fun u => by
    rw [List.mem_append]
    exact ⟨fun h => h.elim List.mem_of_mem_take id, .inr⟩
  have hallA : allS Ta = allS T := TbOk.all_cut hT hTa (TbOk.own_fe hT hus fun _ => Iff.rfl) (TbOk.own_he hT hus fun _ => Iff.rfl)
  have hallB : allS Tb = allS T := TbOk.all_cut hT hTb (TbOk.own_fe hT hus hsub) (TbOk.own_he hT hus hsub)
  have hallC : allS Tc = allS T5 := TbOk.all_ext hTc hT5 (fun _ _ => Iff.rfl) (fun _ _ => Iff.rfl)
  have kA : Ta.keys.length = T.keys.length := by rw [← allS_len, hallA, allS_len]
  have kB : Tb.keys.length = T.keys.length := by rw [← allS_len, hallB, allS_len]
  have tA : Tell Ta := TbU.tell hTa (by omega) (by omega)
  have tB : Tell Tb := TbU.tell hTb (by rw [List.length_append, List.length_take]; omega) (by omega)
  have tC := TabS.tell hTc (by rw [List.length_append]; omega)
  have t5 := TabS.tell hT5 (by rw [List.length_append]; omega)
  refine ⟨_, _, rfl, fun b w' => b = true ∧ Hp w w' (star (tabA p5 T5) (star (tabA pc Tc) (star (tabA pb Tb) (star (tabA pa Ta) (star (tabA p T) (star (heldsA sA hA) emp)))))), ⟨fun _ => ?_, fun h => by simp at h⟩, ?_⟩
  · refine call (all_c tA (H.take (tabA pa Ta))) ?_
    rintro _ w16 ⟨sx, hx, rfl, hxb, H⟩
    rw [hallA] at hxb
    obtain ⟨x1, x2⟩ := TabS.hds hT (by omega) hxb
    refine ⟨_, rfl, call (sameAll_c (RdH.helds (hs := hx)) (RdH.helds (hs := hA)) x1 x2 H) ?_⟩
    rintro _ w17 ⟨rfl, H⟩
    refine ⟨_, rfl, by rw [hxb, hab]; simp, ?_⟩
    refine (H.drop).ent ?_
    exact Ent.pick (P := tabA p5 T5) (Ent.pick (P := tabA pc Tc) (Ent.pick (P := tabA pb Tb) (Ent.refl _)))
  rintro _ w16 ⟨rfl, H⟩
  refine ⟨fun b w' => b = true ∧ Hp w w' (star (tabA p5 T5) (star (tabA pc Tc) (star (tabA p T) (star (heldsA sA hA) emp)))), ⟨fun _ => ?_, fun h => by simp at h⟩, ?_⟩
  · refine call (all_c tB (H.take (tabA pb Tb))) ?_
    rintro _ w17 ⟨sx, hx, rfl, hxb, H⟩
    rw [hallB] at hxb
    obtain ⟨x1, x2⟩ := TabS.hds hT (by omega) hxb
    refine ⟨_, rfl, call (sameAll_c (RdH.helds (hs := hx)) (RdH.helds (hs := hA)) x1 x2 H) ?_⟩
    rintro _ w18 ⟨rfl, H⟩
    refine ⟨_, rfl, by rw [hxb, hab]; simp, ?_⟩
    exact (((H.drop.take (tabA pb Tb)).drop).take (tabA pa Ta)).drop
  rintro _ w17 ⟨rfl, H⟩
  refine ⟨fun b w' => b = true ∧ Hp w w' (star (tabA p5 T5) (star (tabA pc Tc) emp)), ⟨fun _ => ?_, fun h => by simp at h⟩, ?_⟩
  · refine call (all_c ht (H.take (tabA p T))) ?_
    rintro _ w18 ⟨sx, hx, rfl, hxb, H⟩
    obtain ⟨x1, x2⟩ := TabS.hds hT (by omega) hxb
    refine ⟨_, rfl, call (sameAll_c (RdH.helds (hs := hx)) (RdH.helds (hs := hA)) x1 x2 H) ?_⟩
    rintro _ w19 ⟨rfl, H⟩
    refine ⟨_, rfl, by rw [hxb, hab]; simp, ?_⟩
    exact (((H.drop.take (tabA p T)).drop).take (heldsA sA hA)).drop
  rintro _ w18 ⟨rfl, H⟩
  refine ⟨fun b w' => b = true ∧ Fr [] w w', ⟨fun _ => ?_, fun h => by simp at h⟩, ?_⟩
  · refine call (all_c tC (H.take (tabA pc Tc))) ?_
    rintro _ w19 ⟨sx, hx, rfl, hxb, H⟩
    obtain ⟨x1, x2⟩ := TabS.hds hTc (by rw [List.length_append]; omega) hxb
    refine ⟨_, rfl, call (all_c t5 (H.take (tabA p5 T5))) ?_⟩
    rintro _ w20 ⟨sy, hy, rfl, hyb, H⟩
    refine ⟨_, rfl, call (sameAll_c (RdH.helds (hs := hx)) (RdH.helds (hs := hy)) x1 x2 H) ?_⟩
    rintro _ w21 ⟨rfl, H⟩
    exact ⟨_, rfl, by rw [hxb, hyb, hallC]; simp, H.fr⟩
  rintro _ w19 ⟨rfl, f⟩
  refine ⟨fun b w' => b = true ∧ Fr [] w w', ⟨fun _ => call taken_c ?_, fun h => by simp at h⟩, fun b w' h => Rt.ok ⟨by rw [h.1], h.2⟩⟩
  rintro _ w20 ⟨rfl, f2⟩
  exact ⟨_, rfl, rfl, f.then_ f2⟩
end
end Go.Proofs.Ytgnceldnfefnmaa
