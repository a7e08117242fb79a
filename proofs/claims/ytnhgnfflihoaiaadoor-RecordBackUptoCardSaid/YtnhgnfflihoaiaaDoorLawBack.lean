/-
  RecordBack's contract.
-/
import Derived.Test.YtnhgnfflihoaiaaDoorLawAny
namespace Go.Proofs.YtnhgnfflihoaiaaDoor
open Go Go.Vc
set_option maxHeartbeats 1000000 in
theorem recordBack_c {n k d s : Int} {us : Slc} {l : List Upd} {w : World} {mo : Upd} (hG : GT w) (hU : Ups w us l) (hN : l.length ≤ 1048576) (hD : Byt w mo.data mo.ds) :
    Calls PP F_sherdlaw11_RecordBack #[.agg #[.int .i64 n, .int .i64 k, .int .i64 d, .int .i64 s, us.v], mo.v] w (Rt fun v w' => v = .bool true ∧ Fr [] w w') := by
  have hgp := hG.pos
  refine sim_sherdlaw11_RecordBack _ _ _ _ _ _ _ _ _ _ _ _ _ _ ?_
  unfold vc_sherdlaw11_RecordBack
  refine New.intro fun b14 w1 n14 => New.intro fun b17 w2 n17 => ?_
  have F2 := n14.fr.then_ n17.fr
  refine call (written_c (hG.fr0 F2) (hU.fr0 F2) hN) ?_
  rintro _ w3 ⟨f3, p, all, marks, uss, X, rfl, W⟩
  have hm : HdOk (wHd n k d s) := wHd_may n k d s
  have hu : Upo (keptW (l.map Vc_up)) := keptW_may
  have hul : (keptW (l.map Vc_up)).length ≤ 1048576 := Nat.le_trans (keptW_len _) (by simpa using hN)
  generalize wHd n k d s = H at *
  generalize keptW (l.map Vc_up) = K at *
  have hLen := wBs_len hm hu hul
  have hHl := Hd_bs_len hm
  have F3 := F2.then_ f3
  refine ⟨_, _, _, _, all, marks, uss, _, rfl, New.intro fun b30 w4 n30 => n30.blk.stoAll rfl fun w5 h5 f5 => ?_⟩
  have F35 : Fr [] w3 w5 := n30.fr.local_ f5 fun x hx => .inr (by simp at hx; rw [hx, n30.at_]; exact Nat.le_refl _)
  have W5 := W.fr0 F35
  have F5 := F3.then_ F35
  have hb17 : Blk w5 b17 Ty_api_Update mo.cells.toArray := n17.blk.fr (f3.then_ F35) (by simp)
  have hXl : X.length = K.length := by have := congrArg List.length W5.up; simpa using this
  have hux := W5.ups (f3.then_ F35)
  have hull := hux.len
  have hpn : w.heap.size ≤ p := Nat.le_trans F2.size W.pn
  refine ⟨fun x w' => x = false ∧ w5 = w', ⟨fun _ => call (count_c W5.rw) ?_, fun h => by simp at h⟩, ?_⟩
  · rintro _ _ ⟨rfl, rfl⟩
    exact ⟨_, rfl, by simp; omega, rfl⟩
  rintro _ _ ⟨rfl, rfl⟩
  refine ⟨fun h => by simp at h, fun _ => ?_⟩
  have hw2 := scanT_whole hm hu
  obtain ⟨r1, r2, _⟩ := scanT_log hm hu (more := []) (bs := wBs H K) (by simp)
  refine call (scan_o (hG.fr0 F5) W5.oall.byt (by omega) r1) ?_
  rintro _ w6 ⟨f6, q, us2, su, se, rfl, hF, hOse⟩
  rw [r2, hw2]
  have hup : us2.map Vc_up = X.map Vc_up := by rw [hF.up, hw2, W5.up]
  have hupK : us2.map Vc_up = K := by rw [hF.up, hw2]
  have hFl : us2.length = K.length := by have := congrArg List.length hupK; simpa using this
  have hsul : su.l = K.length := by have := hF.ups.len; omega
  refine ⟨H.n, H.k, H.d, H.s, su, se, 0, some (blk q), 0, rfl, New.intro fun b60 w7 n60 => n60.blk.stoAll rfl fun w8 h8 f8 => ?_⟩
  have F68 : Fr [] w6 w8 := n60.fr.local_ f8 fun x hx => .inr (by simp at hx; rw [hx, n60.at_]; exact Nat.le_refl _)
  have F58 := f6.then_ F68
  have W8 := W5.fr0 F58
  have hF8 := hF.fr0 F68
  have hO8 := hOse.fr0 F68
  have h5' : Blk w8 b30 Ty_api_Head #[.int .i64 H.n, .int .i64 H.k, .int .i64 H.d, .int .i64 H.s] := h5.fr F58 (by simp)
  refine ⟨false, fun _ => ⟨_, h8.cell (i := 0) rfl, _, h8.cell (i := 1) rfl, _, h8.cell (i := 2) rfl, _, h8.cell (i := 3) rfl, _, h5'.cell (i := 0) rfl, _, h5'.cell (i := 1) rfl, _, h5'.cell (i := 2) rfl, _, h5'.cell (i := 3) rfl, by simp⟩, fun h => by simp at h, ?_⟩
  refine ⟨fun x w' => x = false ∧ Fr [] w8 w', ⟨fun _ => call (updates_u hF8.ups (W8.ups ((f3.then_ F35).then_ F58)) hup (by omega)) ?_, fun h => by simp at h⟩, ?_⟩
  · rintro _ w9 ⟨rfl, f9⟩
    exact ⟨_, rfl, rfl, f9⟩
  rintro _ w9 ⟨rfl, f9⟩
  refine ⟨fun x w' => x = false ∧ Fr [] w8 w', ⟨fun _ => call (ints_c ((hF8.fr0 f9).mks (hd := H) (l := K) r2 (by rw [hw2])) (W8.fr0 f9).mks (by rw [mksZ_len]; omega)) ?_, fun h => by simp at h⟩, ?_⟩
  · rintro _ w10 ⟨rfl, f10⟩
    exact ⟨_, rfl, by simp, f9.then_ f10⟩
  rintro _ w10 ⟨rfl, f10⟩
  refine ⟨fun x w' => x = false ∧ Fr [] w8 w', ⟨fun _ => call (count_c (hF8.fr0 f10).rw) ?_, fun h => by simp at h⟩, ?_⟩
  · rintro _ _ ⟨rfl, rfl⟩
    exact ⟨_, rfl, by simp; omega, f10⟩
  rintro _ w11 ⟨rfl, f11⟩
  refine ⟨fun h => by simp at h, fun _ => ?_⟩
  -- both writers go on
  have F11 := F5.then_ (F58.then_ f11)
  have hb17 := hb17.fr (F58.then_ f11) (by simp)
  have W11 := W8.fr0 f11
  have hF11 := hF8.fr0 f11
  have hO11 := hO8.fr0 f11
  have h8 := h8.fr f11 (by simp)
  have hD11 := hD.fr0 F11
  have hqp : q ≠ p := by
    obtain ⟨cs, hB, _⟩ := W5.rw.blk
    have := hB.lt
    have := hF.qn
    omega
  have hwq : w5.heap.size ≤ q := hF.qn
  have ll := logLast_len H.last K (le4_len _)
  refine ⟨_, hb17.cell (i := 0) rfl, _, hb17.cell (i := 1) rfl, _, hb17.cell (i := 2) rfl, _, hb17.cell (i := 3) rfl, _, hb17.cell (i := 4) rfl, _, hb17.cell (i := 5) rfl, mo.data, hb17.cell (i := 6) rfl, call (put_u (hG.fr0 F11) (by omega) W11.rw ll (by omega) hD11) ?_⟩
  rintro _ w12 ⟨m1, body1, s1, hm1, hbody1, rfl, hrow1, f12, hR12⟩
  obtain ⟨pcs, hBp, hBp2⟩ := W11.rw.blk
  have F12 : Fr [] w w12 := F11.local_ f12 fun x hx => .inr (by simp at hx; omega)
  have F512 : Fr [p] w5 w12 := ((F58.then_ f11).sub (T := [p]) fun k hk => absurd hk (by simp)).local_ f12 fun x hx => .inl hx
  have hF12 := hF11.frW hO11 W11.rw f12 hqp
  have hO12 := hO11.fr f12 fun k hk hx => by simp at hx; subst hx; exact hO11.ne hBp (by decide) hk
  have hA12 := W11.oall.own.fr f12 fun k hk hx => by simp at hx; subst hx; exact W11.oall.own.ne hBp (by decide) hk
  have hb12 := hb17.fr f12 (by simp; exact hb17.ne_ hBp (by decide))
  have h12 := h8.fr f12 (by simp; exact h8.ne_ hBp (by decide))
  have hRq := hF12.rw
  rw [hw2] at hRq
  simp only at hRq
  rw [hFl] at hRq
  refine ⟨s1, m1, rfl, _, hb12.cell (i := 0) rfl, _, hb12.cell (i := 1) rfl, _, hb12.cell (i := 2) rfl, _, hb12.cell (i := 3) rfl, _, hb12.cell (i := 4) rfl, _, hb12.cell (i := 5) rfl, mo.data, hb12.cell (i := 6) rfl, call (put_u (hG.fr0 F12) (by have := F5.size; omega) hRq ll (by omega) (hD.fr0 F12)) ?_⟩
  rintro _ w13 ⟨m2, body2, s2, hm2, hbody2, rfl, hrow2, f13, hR13⟩
  obtain ⟨qcs, hBq, hBq2⟩ := hRq.blk
  have F13 : Fr [] w w13 := F12.local_ f13 fun x hx => .inr (by simp at hx; have := F5.size; omega)
  have hm12 : m1 = m2 := by rw [hm1, hm2]
  have hbody12 : body1 = body2 := by rw [hbody1, hbody2]
  subst hm12
  subst hbody12
  have hrow1' : Byt w13 s1 (putOut m1 (logLast H.last K) body1) := (hrow1.own.fr f13 fun k hk hx => by simp at hx; subst hx; exact hrow1.own.ne hBq (by decide) hk).cel
  have hu13 : Ups w13 su us2 := hF12.ups.frB hF12.own f13 fun k hk => by simp at hk; subst hk; exact ⟨_, qcs, by decide, hBq, hBq2⟩
  have huo13 : Own Ty_api_Update 7 w13 su (us2.map Upd.cells).flatten := hF12.own.fr f13 fun k hk hx => by simp at hx; subst hx; exact hF12.own.ne hBq (by decide) hk
  have hA13 := hA12.fr f13 fun k hk hx => by simp at hx; subst hx; exact hA12.ne hBq (by decide) hk
  have h13 := h12.fr f13 (by simp; exact h12.ne_ hBq (by decide))
  refine ⟨s2, m1, rfl, fun x w' => x = false ∧ w13 = w', ⟨fun _ => call (same_c hrow1' hrow2.byt) ?_, fun h => by simp at h⟩, ?_⟩
  · rintro _ _ ⟨rfl, rfl⟩
    exact ⟨_, rfl, rfl, rfl⟩
  rintro _ _ ⟨rfl, rfl⟩
  refine ⟨fun h => by simp at h, fun _ => ⟨_, h13.cell (i := 0) rfl, _, h13.cell (i := 1) rfl, _, h13.cell (i := 2) rfl, _, h13.cell (i := 3) rfl, call (new_c (hG.fr0 F13)) ?_⟩⟩
  rintro _ w14 ⟨f14, h14⟩
  rcases h14 with ⟨hx, _⟩ | ⟨_, v, z, rfl, hz, hv, hR⟩
  · exact absurd hm hx
  have hhb : headBs H.n.toNat H.k.toNat H.d.toNat H.s.toNat = H.bs := rfl
  have hlast : le4 (crc (headPre H.n.toNat H.k.toNat H.d.toNat H.s.toNat)) = H.last := rfl
  rw [hhb] at hz
  rw [hlast] at hR
  refine ⟨some (blk v), z, 0, rfl, fun h => by simp at h, fun _ => ?_⟩
  have F14 := F13.then_ f14
  have hu14 := hu13.fr0 f14
  have huo14 := huo13.fr0 f14
  have hA14 := hA13.fr0 f14
  let Inv : Nat → Slc → World → Prop := fun i again w' => i ≤ K.length ∧ Fr [] w w' ∧ Row w w' again (wBs H (K.take i)) ∧ RW w' v (logLast H.last (K.take i)) (i : Int) ∧ Ups w' su us2 ∧ Own Ty_api_Update 7 w' su (us2.map Upd.cells).flatten ∧ Own Ty_uint8 1 w' all ((wBs H K).map u8v)
  have hvn : w.heap.size ≤ v := Nat.le_trans F13.size hv
  have hendT := markAt_end H K
  refine ⟨fun again iv w' => ∃ i : Nat, iv = (i : Int) ∧ Inv i again w', fun _ iv _ => K.length - iv.toNat, ⟨0, rfl, Nat.zero_le _, F14, ?_, ?_, hu14, huo14, hA14⟩, ?_⟩
  · have := hz.since F13.size
    simpa [wBs, logB] using this
  · simpa [logLast] using hR
  rintro again _ w15 ⟨i, rfl, hi, F15, hA, hRv, hu15, huo15, hA15⟩
  have hiA : (wBs H (K.take i)).length ≤ (wBs H K).length := by have := markAt_mono (h := H) (us := K) hi; rw [hendT] at this; exact this
  rw [hsul]
  refine ⟨fun hlt => ?_, fun hge => ?_⟩
  · simp only [decide_eq_true_eq] at hlt
    have hlt' : i < K.length := by omega
    obtain ⟨a1, ha1, hc1⟩ := hu15.get (k := i) (by omega)
    have hxe : Vc_up (us2[i]'(by omega)) = K[i] := by
      have := congrArg (·[i]?) hupK
      rw [List.getElem?_map, List.getElem?_eq_getElem (by omega), List.getElem?_eq_getElem hlt'] at this
      simpa using this
    have hxd := hu15.dat (us2[i]'(by omega)) (List.getElem_mem _)
    refine ⟨a1, ha1, by omega, by omega, _, hc1 0 _ rfl, _, hc1 1 _ rfl, _, hc1 2 _ rfl, _, hc1 3 _ rfl, _, hc1 4 _ rfl, _, hc1 5 _ rfl, (us2[i]'(by omega)).data, hc1 6 _ rfl, call (again_step (h := H) hlt' hu hxe (hG.fr0 F15) (by omega) hRv (by omega) hxd.1) ?_⟩
    rintro _ w16 ⟨sP, rfl, hrow, f16, hR16⟩
    obtain ⟨vcs, hBv, hBv2⟩ := hRv.blk
    have F16 : Fr [] w w16 := F15.local_ f16 fun x hx => .inr (by simp at hx; omega)
    have hA16 : Own Ty_uint8 1 w16 again _ := hA.own.fr f16 fun k hk hx => by simp at hx; subst hx; exact hA.own.ne hBv (by decide) hk
    have hAl16 := hA15.fr f16 fun k hk hx => by simp at hx; subst hx; exact hA15.ne hBv (by decide) hk
    have hu16 : Ups w16 su us2 := hu15.frB huo15 f16 fun k hk => by simp at hk; subst hk; exact ⟨_, vcs, by decide, hBv, hBv2⟩
    have huo16 : Own Ty_api_Update 7 w16 su (us2.map Upd.cells).flatten := huo15.fr f16 fun k hk hx => by simp at hx; subst hx; exact huo15.ne hBv (by decide) hk
    have hnext := wBs_take_next H K i hlt'
    have hnl2 := congrArg List.length hnext
    rw [List.length_append] at hnl2
    have hnl : (wBs H (K.take (i + 1))).length ≤ (wBs H K).length := by have := markAt_mono (h := H) (us := K) (show i + 1 ≤ K.length by omega); rw [hendT] at this; exact this
    refine ⟨sP, 0, rfl, fun h => by simp at h, fun _ => New.intro fun b3 w17 n3 => ?_⟩
    have hE3 : Made w16 w17 (Slc.mk (some (blk b3)) 0 0) [] := ⟨n3.fr, Own.made n3.blk (by simp) (by decide), fun k hk => by simp [Slc.blks] at hk; rw [hk, n3.at_]; exact Nat.le_refl _⟩
    refine hE3.app (hA16.fr0 n3.fr).cel (by rw [List.length_nil]; omega) fun s3 w18 hM3 _ => ?_
    rw [List.nil_append] at hM3
    refine hM3.app (hrow.own.fr0 hM3.fr).cel (by omega) fun s4 w19 hM4 hl4 => ?_
    rw [← hnext] at hM4
    rw [wr64 (by omega) (by omega)]
    exact ⟨⟨i + 1, rfl, by omega, F16.then_ hM4.fr, ⟨hM4.own, fun k hk => Nat.le_trans F16.size (hM4.new k hk)⟩, hR16.fr hM4.fr (by simp) fun _ _ _ => by simp, hu16.fr0 hM4.fr, huo16.fr0 hM4.fr, hAl16.fr0 hM4.fr⟩, by dsimp only; omega⟩
  · simp only [decide_eq_false_iff_not] at hge
    have hiT : i = K.length := by omega
    subst hiT
    rw [List.take_length] at hA
    refine call (same_c hA.byt (show Byt w15 all (wBs H K) from hA15.cel)) ?_
    rintro _ _ ⟨rfl, rfl⟩
    exact ⟨true, rfl, Rt.ok ⟨rfl, F15⟩⟩
end Go.Proofs.YtnhgnfflihoaiaaDoor
