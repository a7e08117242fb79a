/-
  RecordSpoilt's contract.
-/
import Derived.Test.YtnhgnfflihoaiaaDoorLawScan
namespace Go.Proofs.YtnhgnfflihoaiaaDoor
open Go Go.Vc
theorem xor_ne (a : UInt8) (m : Int) (h0 : 0 ≤ m) (h1 : m < 255) : ∃ y : UInt8, xorI .u8 (a.toNat : Int) (wr .u8 (wr .i64 (1 + m))) = (y.toNat : Int) ∧ y ≠ a := by
  obtain ⟨k, rfl⟩ := Int.eq_ofNat_of_zero_le h0
  rw [wr64 (by omega) (by omega), wr8u (by omega) (by omega)]
  have : ∀ (x : Fin 256) (k : Fin 255), xorI .u8 (x.val : Int) (1 + (k.val : Int)) = ((x.val ^^^ (1 + k.val) : Nat) : Int) ∧ (x.val ^^^ (1 + k.val)) < 256 ∧ (x.val ^^^ (1 + k.val)) ≠ x.val := by decide +kernel
  obtain ⟨e1, e2, e3⟩ := this ⟨a.toNat, a.toNat_lt⟩ ⟨k, by omega⟩
  simp only at e1 e2 e3
  refine ⟨UInt8.ofNat (a.toNat ^^^ (1 + k)), ?_, fun e => e3 ?_⟩
  · rw [e1, u8_small e2]
  · rw [← u8_small e2, e]
set_option maxHeartbeats 1000000 in
theorem recordSpoilt_c {n k d s : Int} {us : Slc} {l : List Upd} {w : World} {at_ by_ : Int} (hG : GT w) (hU : Ups w us l) (hN : l.length ≤ 1048576) :
    Calls PP F_sherdlaw11_RecordSpoilt #[.agg #[.int .i64 n, .int .i64 k, .int .i64 d, .int .i64 s, us.v], .int .i64 at_, .int .i64 by_] w (Rt fun v w' => v = .bool true ∧ Fr [] w w') := by
  refine sim_sherdlaw11_RecordSpoilt _ _ _ _ _ _ _ _ _ ?_
  unfold vc_sherdlaw11_RecordSpoilt
  refine New.intro fun b9 w1 n9 => call (written_c (hG.fr0 n9.fr) (hU.fr0 n9.fr) hN) ?_
  rintro _ w2 ⟨f2, p, all, marks, uss, X, rfl, W⟩
  have hm : HdOk (wHd n k d s) := wHd_may n k d s
  have hu : Upo (keptW (l.map Vc_up)) := keptW_may
  have hul : (keptW (l.map Vc_up)).length ≤ 1048576 := Nat.le_trans (keptW_len _) (by simpa using hN)
  generalize wHd n k d s = H at *
  generalize keptW (l.map Vc_up) = K at *
  have hLen := wBs_len hm hu hul
  have hHl := Hd_bs_len hm
  have F2 := n9.fr.then_ f2
  refine ⟨_, _, _, _, all, marks, uss, _, rfl, New.intro fun b22 w3 n22 => n22.blk.stoAll rfl fun w4 h4 f4 => ⟨by simp, fun _ => ?_⟩⟩
  have F4 : Fr [] w2 w4 := n22.fr.local_ f4 fun x hx => .inr (by simp at hx; rw [hx, n22.at_]; exact Nat.le_refl _)
  have W4 := W.fr0 F4
  have hal : all.l = (wBs H K).length := W4.oall.byt.len
  have hmp : 9 ≤ (wBs H K).length := by simp only [wBs, List.length_append]; omega
  rw [hal]
  refine call (mod_c w4 (by omega) (by omega)) ?_
  rintro _ _ ⟨rfl, rfl⟩
  have hi0 := Int.emod_nonneg at_ (by omega : ((wBs H K).length : Int) ≠ 0)
  have hi1 := Int.emod_lt_of_pos at_ (by omega : (0 : Int) < ((wBs H K).length : Int))
  obtain ⟨i, hi⟩ := Int.eq_ofNat_of_zero_le hi0
  rw [hi] at hi1 ⊢
  have hil : i < (wBs H K).length := by omega
  have hmks := W4.mks
  have hml : marks.l = K.length + 1 := by have := hmks.len; simp [mksZ_len] at this; omega
  have hend := markAt_end H K
  -- the piece
  refine ⟨(i : Int), rfl, fun pc fr w' => w4 = w' ∧ ∃ p : Nat, pc = (p : Int) ∧ p ≤ K.length ∧ i < markAt H K p ∧ ((p = 0 ∧ fr = 0) ∨ ∃ q, p = q + 1 ∧ fr = (markAt H K q : Int) ∧ markAt H K q ≤ i), ⟨fun pc fr w' => w4 = w' ∧ ∃ p : Nat, pc = (p : Int) ∧ p ≤ K.length ∧ ((p = 0 ∧ fr = 0) ∨ ∃ q, p = q + 1 ∧ fr = (markAt H K q : Int) ∧ markAt H K q ≤ i), fun pc _ _ => K.length - pc.toNat, ⟨rfl, 0, rfl, Nat.zero_le _, .inl ⟨rfl, rfl⟩⟩, ?_⟩, ?_⟩
  · rintro _ fr _ ⟨rfl, p', rfl, hp, hfr⟩
    obtain ⟨a, ha, hc⟩ := mks_cell hmks hp
    refine ⟨a, ha, by omega, by omega, _, hc, fun hle => ⟨a, ha, by omega, by omega, _, hc, ?_⟩, fun hgt => ?_⟩
    · simp only [decide_eq_true_eq] at hle
      have hlt : p' < K.length := by
        rcases Nat.lt_or_ge p' K.length with h | h
        · exact h
        · have : p' = K.length := by omega
          subst this
          omega
      rw [wr64 (by omega) (by omega)]
      exact ⟨⟨rfl, p' + 1, rfl, by omega, .inr ⟨p', rfl, rfl, by omega⟩⟩, by dsimp only; omega⟩
    · simp only [decide_eq_false_iff_not] at hgt
      exact ⟨rfl, p', rfl, hp, by omega, hfr⟩
  rintro _ fr _ ⟨rfl, p', rfl, hp, hip, hfr⟩
  -- where the body begins
  refine ⟨fun body w' => w4 = w' ∧ ∀ q, p' = q + 1 → (i : Int) ≥ body → ∃ hq : q < K.length, markAt H K q + 1 + (uv K[q].body.length).length ≤ i, ⟨fun body w' => w4 = w' ∧ ∃ c : Nat, body = fr + 2 + c ∧ (fr.toNat + 1 + c ≤ (wBs H K).length + 1) ∧ 0 ≤ fr ∧ fr ≤ 69206017000 ∧ ∀ j, j < c → ∃ b, (wBs H K)[fr.toNat + 1 + j]? = some b ∧ 128 ≤ b.toNat, fun body _ => (wBs H K).length + 10 - body.toNat, ?_, ?_⟩, ?_⟩
  · have hfb : 0 ≤ fr ∧ fr ≤ 69206017000 ∧ fr.toNat ≤ (wBs H K).length := by
      rcases hfr with ⟨_, rfl⟩ | ⟨q, _, rfl, hq⟩
      · omega
      · omega
    rw [wr64 (by omega) (by omega)]
    exact ⟨rfl, 0, by omega, by omega, hfb.1, hfb.2.1, fun j hj => absurd hj (by omega)⟩
  · rintro _ _ ⟨rfl, c, rfl, hc1, hf0, hf1, hc⟩
    obtain ⟨fr, rfl⟩ := Int.eq_ofNat_of_zero_le hf0
    rw [Int.toNat_natCast] at hc1 hc
    have e1 : wr .i64 ((fr : Int) + 2 + (c : Int) - 1) = ((fr + 1 + c : Nat) : Int) := by rw [wr64 (by omega) (by omega)]; omega
    rw [e1]
    by_cases hlt : fr + 1 + c < (wBs H K).length
    · obtain ⟨a, ha, hcell⟩ := W4.oall.byt.get hlt
      refine ⟨decide (128 ≤ (((wBs H K)[fr + 1 + c]).toNat : Int)), fun _ => ⟨a, ha, by omega, by omega, _, by rw [Int.toNat_natCast, Nat.mul_one]; exact hcell, rfl⟩, fun h => by simp at h; omega, fun hx => ?_, fun hx => ⟨rfl, ?_⟩⟩
      · simp only [decide_eq_true_eq] at hx
        rw [wr64 (by omega) (by omega)]
        refine ⟨⟨rfl, c + 1, by omega, by omega, hf0, hf1, fun j hj => ?_⟩, by dsimp only; omega⟩
        rcases Nat.lt_or_ge j c with h | h
        · exact hc j h
        · have : j = c := by omega
          subst this
          exact ⟨_, List.getElem?_eq_getElem hlt, by omega⟩
      · simp only [decide_eq_false_iff_not] at hx
        intro q hpq hge
        rcases hfr with ⟨h0, _⟩ | ⟨q', hq', hfr, hqi⟩
        · omega
        obtain rfl : q' = q := by omega
        have hfr : fr = markAt H K q' := by omega
        refine ⟨by omega, ?_⟩
        obtain ⟨r, hr, hk2⟩ := wBs_next H K q' (by omega)
        have hL : (wBs H (K.take q')).length = fr := hfr.symm
        have hb : ∀ j, j < (uv K[q'].body.length).length → (wBs H K)[fr + 1 + j]? = (uv K[q'].body.length)[j]? := by
          intro j hj
          rw [hr, List.append_assoc, List.getElem?_append_right (by omega), hL]
          rw [show fr + 1 + j - fr = j + 1 by omega]
          simp only [recPre, List.cons_append, List.nil_append, List.getElem?_cons_succ, List.append_assoc]
          rw [List.getElem?_append_left hj]
        rcases Nat.lt_or_ge (c + 1) (uv K[q'].body.length).length with h | h
        · have := hb c (by omega)
          rw [List.getElem?_eq_getElem hlt, List.getElem?_eq_getElem (by omega)] at this
          injection this with this
          have h128 := uv_bytes K[q'].body.length c (by omega) h
          rw [this] at hx
          omega
        · omega
    · refine ⟨false, fun h => by simp at h; omega, fun _ => rfl, fun h => by simp at h, fun _ => ⟨rfl, fun q hpq hge => ?_⟩⟩
      omega
  rintro body _ ⟨rfl, hbody⟩
  refine New.intro fun b46 w5 nb => ?_
  have hE : Made w4 w5 (Slc.mk (some (blk b46)) 0 0) [] := ⟨nb.fr, Own.made nb.blk (by simp) (by decide), fun k hk => by simp [Slc.blks] at hk; rw [hk, nb.at_]; exact Nat.le_refl _⟩
  refine hE.app (W4.oall.own.fr0 nb.fr).cel (by simp; omega) fun s1 w6 hM1 hl1 => ?_
  rw [List.nil_append] at hM1
  have hs1 : s1.l = (wBs H K).length := hM1.byt.len
  obtain ⟨a, ha, hcell⟩ := (hM1.more (drewFr w6 1)).byt.get hil
  refine ⟨a, ha, by omega, by omega, ((wBs H K)[i].toNat : Int), by rw [Int.toNat_natCast, Nat.mul_one]; exact hcell, call (mod_c _ (by omega) (by omega)) ?_⟩
  rintro _ _ ⟨rfl, rfl⟩
  have hb0 := Int.emod_nonneg by_ (by omega : (255 : Int) ≠ 0)
  have hb1 := Int.emod_lt_of_pos by_ (by omega : (0 : Int) < 255)
  refine ⟨_, rfl, by rw [Int.toNat_natCast, Nat.mul_one]; exact hcell, a, ha, by omega, by omega, ?_⟩
  obtain ⟨y, hy, hne⟩ := xor_ne (wBs H K)[i] (by_ % 255) hb0 hb1
  rw [hy, Int.toNat_natCast, Nat.mul_one]
  have hM2 := hM1.more (drewFr w6 1)
  refine hM2.own.sto (i := i) (by simpa using hil) ha fun w7 hO7 f7 => ?_
  have F7 : Fr [] w4 w7 := hM2.fr.local_ f7 fun x hx => .inr (hM2.new x hx)
  have hbad : Byt w7 s1 ((wBs H K).set i y) := by
    have := hO7.cel
    unfold Byt
    rw [List.map_set]
    exact this
  have W7 := W4.fr0 F7
  have Fall : Fr [] w w7 := (F2.then_ F4).then_ F7
  have hset : ((wBs H K).set i y).length ≤ 1099511627776 := by simp; omega
  rcases Nat.eq_zero_or_pos p' with h0 | h0
  · subst h0
    rw [markAt_zero] at hip
    by_cases h4 : H.bs.length - 4 ≤ i
    · have ho := spoilt_head hm h4 hip hil hne
      refine call (scan_n (hG.fr0 Fall) hbad hset ho) ?_
      rintro _ w8 ⟨f8, rfl⟩
      refine ⟨_, _, _, _, _, _, _, _, _, rfl, New.intro fun b80 w9 n80 => n80.blk.stoAll rfl fun w10 h10 f10 => ⟨fun _ => ?_, by simp⟩⟩
      have F10 : Fr [] w7 w10 := (f8.then_ n80.fr).local_ f10 fun x hx => .inr (by simp at hx; rw [hx, n80.at_]; exact f8.size)
      obtain ⟨m, hm1, hm2⟩ := mks_cell (W7.fr0 F10).mks (i := 0) (Nat.zero_le _)
      exact ⟨m, hm1, by omega, by omega, _, hm2, Rt.ok ⟨by simp, Fall.then_ F10⟩⟩
    · -- not the head's sum: whatever is found
      refine call (Rt.mono (Post' := fun v w' => Fr [] w7 w' ∧ ∃ (h : Hd) (a b : Slc) (x y : Int) (p : Option Addr), v = .tuple #[h.v, a.v, b.v, .int .i64 x, .pointer p, .int .i64 y]) (scan_c (hG.fr0 Fall) hbad hset) ?_) ?_
      · rintro v w' ⟨f, h1 | h1⟩
        · exact ⟨f, ⟨0, 0, 0, 0⟩, Slc.nil, Slc.nil, 0, 63, none, h1.2⟩
        · obtain ⟨_, q, us, su, se, _, h2, _⟩ := h1
          exact ⟨f, _, su, se, _, 0, _, h2⟩
      rintro _ w8 ⟨f8, h, a2, b2, x, y2, p2, rfl⟩
      refine ⟨_, _, _, _, a2, b2, _, _, _, rfl, New.intro fun b80 w9 n80 => n80.blk.stoAll rfl fun w10 h10 f10 => ⟨fun _ => ?_, by simp⟩⟩
      have F10 : Fr [] w7 w10 := (f8.then_ n80.fr).local_ f10 fun x hx => .inr (by simp at hx; rw [hx, n80.at_]; exact f8.size)
      obtain ⟨m, hm1, hm2⟩ := mks_cell (W7.fr0 F10).mks (i := 0) (Nat.zero_le _)
      refine ⟨m, hm1, by omega, by omega, _, hm2, Rt.ok ⟨?_, Fall.then_ F10⟩⟩
      rw [markAt_zero, wr64 (by omega) (by omega), show decide ((i : Int) < (H.bs.length : Int) - 4) = true by simp; omega]
      simp
  · obtain ⟨q, rfl⟩ : ∃ q, p' = q + 1 := ⟨p' - 1, by omega⟩
    by_cases hib : (i : Int) < body
    · refine call (Rt.mono (Post' := fun v w' => Fr [] w7 w' ∧ ∃ (h : Hd) (a b : Slc) (x y : Int) (p : Option Addr), v = .tuple #[h.v, a.v, b.v, .int .i64 x, .pointer p, .int .i64 y]) (scan_c (hG.fr0 Fall) hbad hset) ?_) ?_
      · rintro v w' ⟨f, h1 | h1⟩
        · exact ⟨f, ⟨0, 0, 0, 0⟩, Slc.nil, Slc.nil, 0, 63, none, h1.2⟩
        · obtain ⟨_, q, us, su, se, _, h2, _⟩ := h1
          exact ⟨f, _, su, se, _, 0, _, h2⟩
      rintro _ w8 ⟨f8, h, a2, b2, x, y2, p2, rfl⟩
      refine ⟨_, _, _, _, a2, b2, _, _, _, rfl, New.intro fun b80 w9 n80 => n80.blk.stoAll rfl fun w10 h10 f10 => ⟨fun h => by simp at h; omega, fun _ => ⟨fun _ => ?_, fun h => by simp at h; omega⟩⟩⟩
      have F10 : Fr [] w7 w10 := (f8.then_ n80.fr).local_ f10 fun x hx => .inr (by simp at hx; rw [hx, n80.at_]; exact f8.size)
      exact Rt.ok ⟨rfl, Fall.then_ F10⟩
    · obtain ⟨hq, hbq⟩ := hbody q rfl (by omega)
      obtain ⟨o1, o2, o3, o4, o5⟩ := spoilt_scan hm hu hq hbq hip hil hne
      refine call (scan_u (hG.fr0 Fall) hbad hset o1) ?_
      rintro _ w8 ⟨f8, q2, us2, su, se, rfl, hF⟩
      rw [o5]
      refine ⟨_, _, _, _, su, se, _, _, _, rfl, New.intro fun b80 w9 n80 => n80.blk.stoAll rfl fun w10 h10 f10 => ⟨fun h => by simp at h; omega, fun _ => ⟨fun h => by simp at h; omega, fun _ => ?_⟩⟩⟩
      have F810 : Fr [] w8 w10 := n80.fr.local_ f10 fun x hx => .inr (by simp at hx; rw [hx, n80.at_]; exact Nat.le_refl _)
      have F10 := f8.then_ F810
      have hF10 := hF.fr0 F810
      have W10 := W7.fr0 F10
      have hXl : X.length = K.length := by have := congrArg List.length W10.up; simpa using this
      have hup : us2.map Vc_up = (X.take q).map Vc_up := by rw [hF.up, o3, List.map_take, W10.up]
      have hul2 := congrArg List.length hup
      have F0 : Fr [] w1 w10 := ((f2.then_ F4).then_ F7).then_ F10
      have hux := W10.ups F0
      have huc := hux.cel.cap
      have hull := hux.len
      have eq1 : wr .i64 ((q : Int) + 1 - 1) = (q : Int) := by rw [wr64 (by omega) (by omega)]; omega
      refine ⟨fun x w' => x = true ∧ Fr [] w w' ∧ Fr [] w10 w', ⟨fun _ => ?_, fun h => by simp at h⟩, ?_⟩
      · rw [show (((q + 1 : Nat) : Int) - 1) = (q : Int) + 1 - 1 by omega, eq1]
        refine ⟨by omega, by omega, by omega, ?_⟩
        rw [Int.toNat_natCast]
        refine call (updates_u hF10.ups (hux.cut (k := q) (by omega)) hup (by simp at hul2; omega)) ?_
        rintro _ w11 ⟨rfl, f11⟩
        exact ⟨_, rfl, rfl, (Fall.then_ F10).then_ f11, f11⟩
      rintro _ w11 ⟨rfl, F11, f11⟩
      have W11 := W10.fr0 f11
      have hm11 := W11.mks
      have hmc := hm11.cap
      have hsk := hF10.fr0 f11
      refine ⟨fun x w' => x = true ∧ Fr [] w w', ⟨fun _ => ⟨by omega, by omega, by omega, ?_⟩, fun h => by simp at h⟩, ?_⟩
      · rw [Int.toNat_natCast]
        refine call (ints_c (hsk.mks o2 o4) (cut0 hm11 (k := q + 1) (by rw [mksZ_len]; omega)) (by rw [mksZ_len]; simp; omega)) ?_
        rintro _ w12 ⟨rfl, f12⟩
        refine ⟨_, rfl, ?_, F11.then_ f12⟩
        rw [mksZ_take (by omega)]
        simp
      · rintro _ w12 ⟨rfl, F12⟩
        exact Rt.ok ⟨rfl, F12⟩
end Go.Proofs.YtnhgnfflihoaiaaDoor
