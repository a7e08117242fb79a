/-
  RecordTorn's contract.
-/
import Derived.Test.YtnhgnfflihoaiaaDoorLawScan
namespace Go.Proofs.YtnhgnfflihoaiaaDoor
open Go Go.Vc
set_option maxHeartbeats 1000000 in
theorem recordTorn_c {n k d s : Int} {us : Slc} {l : List Upd} {w : World} {cut_ : Int} {b : UInt8} (hG : GT w) (hU : Ups w us l) (hN : l.length ≤ 1048576) :
    Calls PP F_sherdlaw11_RecordTorn #[.agg #[.int .i64 n, .int .i64 k, .int .i64 d, .int .i64 s, us.v], .int .i64 cut_, u8v b] w (Rt fun v w' => v = .bool true ∧ Fr [] w w') := by
  refine sim_sherdlaw11_RecordTorn _ _ _ _ _ _ _ _ _ ?_
  unfold vc_sherdlaw11_RecordTorn
  refine New.intro fun b9 w1 n9 => call (written_c (hG.fr0 n9.fr) (hU.fr0 n9.fr) hN) ?_
  rintro _ w2 ⟨f2, p, all, marks, uss, X, rfl, W⟩
  have hm : HdOk (wHd n k d s) := wHd_may n k d s
  have hu : Upo (keptW (l.map Vc_up)) := keptW_may
  have hul : (keptW (l.map Vc_up)).length ≤ 1048576 := Nat.le_trans (keptW_len _) (by simpa using hN)
  generalize wHd n k d s = H at *
  generalize keptW (l.map Vc_up) = K at *
  have hLen := wBs_len hm hu hul
  have hHl := Hd_bs_len hm
  have F2 := n9.fr.then_ f2
  refine ⟨_, _, _, _, all, marks, uss, _, rfl, New.intro fun b22 w3 n22 => n22.blk.stoAll rfl fun w4 h4 f4 => ⟨by simp, fun _ => ?_⟩⟩
  have F4 : Fr [] w2 w4 := n22.fr.local_ f4 fun x hx => .inr (by simp at hx; rw [hx, n22.at_]; exact Nat.le_refl _)
  have W4 := W.fr0 F4
  have hal : all.l = (wBs H K).length := W4.oall.byt.len
  have halc := W4.oall.byt.cap
  have hmp : 9 ≤ (wBs H K).length := by simp only [wBs, List.length_append]; omega
  rw [hal, wr64 (by omega) (by omega)]
  refine call (mod_c w4 (by omega) (by omega)) ?_
  rintro _ _ ⟨rfl, rfl⟩
  have hi0 := Int.emod_nonneg cut_ (by omega : ((wBs H K).length : Int) + 1 ≠ 0)
  have hi1 := Int.emod_lt_of_pos cut_ (by omega : (0 : Int) < ((wBs H K).length : Int) + 1)
  obtain ⟨m, hi⟩ := Int.eq_ofNat_of_zero_le hi0
  rw [hi] at hi1 ⊢
  have hil : m ≤ (wBs H K).length := by omega
  have hend := markAt_end H K
  refine ⟨(m : Int), rfl, New.intro fun b34 w5 nb => ⟨by omega, by omega, by omega, ?_⟩⟩
  have hE : Made w4 w5 (Slc.mk (some (blk b34)) 0 0) [] := ⟨nb.fr, Own.made nb.blk (by simp) (by decide), fun k hk => by simp [Slc.blks] at hk; rw [hk, nb.at_]; exact Nat.le_refl _⟩
  rw [Int.toNat_natCast]
  have hcutB : Byt w5 (all.cut 1 0 m) ((wBs H K).take m) := cut_all (l := 0) (k := m) (show Byt w5 all (wBs H K) from (W4.oall.own.fr0 nb.fr).cel) (Nat.zero_le _) hil (by simp)
  refine hE.app hcutB (by simp; omega) fun s1 w6 hM1 hl1 => ?_
  rw [List.nil_append] at hM1
  have W6 := W4.fr0 hM1.fr
  have hmks := W6.mks
  have hml : marks.l = K.length + 1 := by have := hmks.len; simp [mksZ_len] at this; omega
  have F6 : Fr [] w w6 := (F2.then_ F4).then_ hM1.fr
  have Fx : Fr [] w1 w6 := (f2.then_ F4).then_ hM1.fr
  have hset : ((wBs H K).take m).length ≤ 1099511627776 := by simp; omega
  have hB4 := h4
  by_cases hhd : m < H.bs.length
  · have ho := torn_head (us := K) hm hhd
    refine call (scan_n (hG.fr0 F6) hM1.byt hset ho) ?_
    rintro _ w7 ⟨f7, rfl⟩
    refine ⟨_, _, _, _, _, _, _, _, _, rfl, New.intro fun b53 w8 n53 => n53.blk.stoAll rfl fun w9 h9 f9 => ?_⟩
    have F9 : Fr [] w6 w9 := (f7.then_ n53.fr).local_ f9 fun x hx => .inr (by simp at hx; rw [hx, n53.at_]; exact f7.size)
    obtain ⟨a, ha, hc⟩ := mks_cell (W6.fr0 F9).mks (i := 0) (Nat.zero_le _)
    rw [markAt_zero] at hc
    refine ⟨a, ha, by omega, by omega, _, hc, fun _ => ⟨true, fun _ => ⟨_, h9.cell (i := 0) rfl, _, h9.cell (i := 1) rfl, _, h9.cell (i := 2) rfl, _, h9.cell (i := 3) rfl, rfl⟩, fun h => by simp at h, Rt.ok ⟨rfl, F6.then_ F9⟩⟩, fun h => by simp at h; omega⟩
  · -- the head is whole
    have hex : ∃ i, i ≤ K.length ∧ markAt H K i ≤ m ∧ (i < K.length → m < markAt H K (i + 1)) := by
      have key : ∀ f i, K.length - i ≤ f → i ≤ K.length → markAt H K i ≤ m → ∃ i, i ≤ K.length ∧ markAt H K i ≤ m ∧ (i < K.length → m < markAt H K (i + 1)) := by
        intro f
        induction f with
        | zero => intro i h1 h2 h3; exact ⟨i, h2, h3, fun h => by omega⟩
        | succ f ih =>
          intro i h1 h2 h3
          by_cases hx : i < K.length ∧ markAt H K (i + 1) ≤ m
          · exact ih (i + 1) (by omega) (by omega) hx.2
          · exact ⟨i, h2, h3, fun h => by
              rcases Nat.lt_or_ge m (markAt H K (i + 1)) with hh | hh
              · exact hh
              · exact absurd ⟨h, hh⟩ hx⟩
      exact key _ 0 (Nat.le_refl _) (Nat.zero_le _) (by rw [markAt_zero]; omega)
    obtain ⟨i0, hi0l, hi0m, hi0n⟩ := hex
    have uniq : ∀ i, i ≤ K.length → markAt H K i ≤ m → (i < K.length → m < markAt H K (i + 1)) → i = i0 := by
      intro i h1 h2 h3
      rcases Nat.lt_trichotomy i i0 with h | h | h
      · have := h3 (by omega)
        have := markAt_mono (h := H) (us := K) (show i + 1 ≤ i0 by omega)
        omega
      · exact h
      · have := hi0n (by omega)
        have := markAt_mono (h := H) (us := K) (show i0 + 1 ≤ i by omega)
        omega
    obtain ⟨o1, o2, o3, o4, o5⟩ := torn_scan hm hu hi0l hi0m hi0n hil
    refine call (scan_u (hG.fr0 F6) hM1.byt hset o1) ?_
    rintro _ w7 ⟨f7, q, us2, su, se, rfl, hF⟩
    rw [o2, o5]
    refine ⟨H.n, H.k, H.d, H.s, su, se, _, some (blk q), 0, rfl, New.intro fun b53 w8 n53 => n53.blk.stoAll rfl fun w9 h9 f9 => ?_⟩
    have F79 : Fr [] w7 w9 := n53.fr.local_ f9 fun x hx => .inr (by simp at hx; rw [hx, n53.at_]; exact Nat.le_refl _)
    have F9 : Fr [] w6 w9 := f7.then_ F79
    have W9 := W6.fr0 F9
    have hF9 := hF.fr0 F79
    have hB22 : Blk w9 b22 Ty_api_Head #[.int .i64 H.n, .int .i64 H.k, .int .i64 H.d, .int .i64 H.s] := by
      have := h4.fr (hM1.fr.then_ F9) (by simp)
      exact this
    obtain ⟨a, ha, hc⟩ := mks_cell W9.mks (i := 0) (Nat.zero_le _)
    rw [markAt_zero] at hc
    refine ⟨a, ha, by omega, by omega, _, hc, fun h => by simp at h; omega, fun _ => ?_⟩
    -- the count of whole records
    refine ⟨fun iv w' => w9 = w' ∧ iv = (i0 : Int), ⟨fun iv w' => w9 = w' ∧ ∃ i : Nat, iv = (i : Int) ∧ i ≤ K.length ∧ markAt H K i ≤ m, fun iv _ => K.length - iv.toNat, ⟨rfl, 0, rfl, Nat.zero_le _, by rw [markAt_zero]; omega⟩, ?_⟩, ?_⟩
    · rintro _ _ ⟨rfl, i, rfl, h1, h2⟩
      rw [wr64 (by omega) (by omega), hml]
      by_cases hlt : i < K.length
      · obtain ⟨a, ha, hc⟩ := mks_cell W9.mks (i := i + 1) (by omega)
        refine ⟨decide ((markAt H K (i + 1) : Int) ≤ (m : Int)), fun _ => ⟨a, ha, by omega, by omega, _, by rw [show ((i : Int) + 1).toNat = i + 1 by omega]; exact hc, rfl⟩, fun h => by simp at h; omega, fun hx => ?_, fun hx => ⟨rfl, ?_⟩⟩
        · simp only [decide_eq_true_eq] at hx
          exact ⟨⟨rfl, i + 1, rfl, by omega, by omega⟩, by dsimp only; omega⟩
        · simp only [decide_eq_false_iff_not] at hx
          rw [uniq i h1 h2 fun _ => by omega]
      · refine ⟨false, fun h => by simp at h; omega, fun _ => rfl, fun h => by simp at h, fun _ => ⟨rfl, ?_⟩⟩
        rw [uniq i h1 h2 fun h => absurd h hlt]
    rintro _ _ ⟨rfl, rfl⟩
    obtain ⟨a2, ha2, hc2⟩ := mks_cell W9.mks hi0l
    refine ⟨fun want w' => w9 = w' ∧ want = (if markAt H K i0 = m then 0 else 30), ⟨a2, ha2, by omega, by omega, _, by rw [Int.toNat_natCast]; exact hc2, fun h => ⟨rfl, ?_⟩, fun h => ⟨rfl, ?_⟩⟩, ?_⟩
    · simp only [decide_eq_true_eq] at h
      rw [if_pos (by omega)]
    · simp only [decide_eq_false_iff_not] at h
      rw [if_neg (by omega)]
    rintro _ _ ⟨rfl, rfl⟩
    refine ⟨false, fun _ => ⟨_, h9.cell (i := 0) rfl, _, h9.cell (i := 1) rfl, _, h9.cell (i := 2) rfl, _, h9.cell (i := 3) rfl, _, hB22.cell (i := 0) rfl, _, hB22.cell (i := 1) rfl, _, hB22.cell (i := 2) rfl, _, hB22.cell (i := 3) rfl, by simp⟩, fun h => by simp at h, ?_⟩
    have hXl : X.length = K.length := by have := congrArg List.length W9.up; simpa using this
    have hup : us2.map Vc_up = (X.take i0).map Vc_up := by rw [hF.up, o3, List.map_take, W9.up]
    have hul2 := congrArg List.length hup
    have F0 : Fr [] w1 w9 := Fx.then_ F9
    have hux := W9.ups F0
    have huc := hux.cel.cap
    have hull := hux.len
    have hm9 := W9.mks
    have hmc := hm9.cap
    refine ⟨fun x w' => x = false ∧ Fr [] w9 w', ⟨fun _ => ⟨by omega, by omega, by omega, ?_⟩, fun h => by simp at h⟩, ?_⟩
    · rw [Int.toNat_natCast]
      refine call (updates_u hF9.ups (hux.cut (k := i0) (by omega)) hup (by simp at hul2; omega)) ?_
      rintro _ w10 ⟨rfl, f10⟩
      exact ⟨_, rfl, rfl, f10⟩
    rintro _ w10 ⟨rfl, f10⟩
    refine ⟨fun x w' => x = false ∧ Fr [] w9 w', ⟨fun _ => ?_, fun h => by simp at h⟩, ?_⟩
    · rw [wr64 (by omega) (by omega)]
      refine ⟨by omega, by omega, by omega, ?_⟩
      rw [show ((i0 : Int) + 1).toNat = i0 + 1 by omega]
      refine call (ints_c ((hF9.fr0 f10).mks o2 o4) (cut0 (hm9.fr0 f10) (k := i0 + 1) (by rw [mksZ_len]; omega)) (by rw [mksZ_len]; simp; omega)) ?_
      rintro _ w11 ⟨rfl, f11⟩
      refine ⟨_, rfl, ?_, f10.then_ f11⟩
      rw [mksZ_take hi0l]
      simp
    rintro _ w11 ⟨rfl, f11⟩
    refine ⟨fun x w' => x = false ∧ Fr [] w9 w', ⟨fun _ => ?_, fun h => by simp at h⟩, ?_⟩
    · refine call (count_c (hF9.fr0 f11).rw) ?_
      rintro _ _ ⟨rfl, rfl⟩
      refine ⟨_, rfl, ?_, f11⟩
      simp at hul2
      simp
      omega
    rintro _ w12 ⟨rfl, f12⟩
    have F12 := F6.then_ (F9.then_ f12)
    refine ⟨fun h => by simp at h, fun _ => ⟨fun _ => Rt.ok ⟨rfl, F12⟩, fun hb => New.intro fun b171 w13 nb2 => ?_⟩⟩
    have hb82 : b ≠ 82 := by
      intro e
      subst e
      simp at hb
    have W12 := W9.fr0 f12
    have hE2 : Made w12 w13 (Slc.mk (some (blk b171)) 0 0) [] := ⟨nb2.fr, Own.made nb2.blk (by simp) (by decide), fun k hk => by simp [Slc.blks] at hk; rw [hk, nb2.at_]; exact Nat.le_refl _⟩
    refine hE2.app (W12.oall.own.fr0 nb2.fr).cel (by simp; omega) fun s2 w14 hM2 hl2 => ?_
    rw [List.nil_append] at hM2
    refine New.intro fun b177 w15 nb3 => ?_
    refine (hM2.more nb3.fr).app (Made.one hM2.fr nb3).byt (by simp; omega) fun s3 w16 hM3 hl3 => ?_
    have F16 := F12.then_ hM3.fr
    obtain ⟨p1, p2, p3, p4, p5⟩ := more_scan (b := b) hm hu hb82
    refine call (scan_u (hG.fr0 F16) hM3.byt (by simp; omega) p1) ?_
    rintro _ w17 ⟨f17, q2, us3, su3, se3, rfl, hF3⟩
    rw [p5]
    refine ⟨_, _, _, _, su3, se3, 32, _, 0, rfl, ?_⟩
    have F1217 := hM3.fr.then_ f17
    have W17 := W12.fr0 F1217
    have hux17 := W17.ups ((F0.then_ f12).then_ F1217)
    have hup3 : us3.map Vc_up = X.map Vc_up := by rw [hF3.up, p3, W9.up]
    have hul3 := congrArg List.length hup3
    refine ⟨fun x w' => x = true ∧ Fr [] w17 w', ⟨fun _ => ?_, fun h => by simp at h⟩, ?_⟩
    · refine call (updates_u hF3.ups hux17 hup3 (by simp at hul3; omega)) ?_
      rintro _ w18 ⟨rfl, f18⟩
      exact ⟨_, rfl, rfl, f18⟩
    rintro _ w18 ⟨rfl, f18⟩
    refine ⟨fun x w' => x = true ∧ Fr [] w17 w', ⟨fun _ => ?_, fun h => by simp at h⟩, ?_⟩
    · refine call (ints_c ((hF3.fr0 f18).mks p2 p4) (W17.fr0 f18).mks (by rw [mksZ_len]; omega)) ?_
      rintro _ w19 ⟨rfl, f19⟩
      exact ⟨_, rfl, by simp, f18.then_ f19⟩
    rintro _ w19 ⟨rfl, f19⟩
    exact Rt.ok ⟨rfl, F16.then_ (f17.then_ f19)⟩
end Go.Proofs.YtnhgnfflihoaiaaDoor
