/-
  RecordAny's contract.
-/
import Derived.Test.YtnhgnfflihoaiaaDoorLawScan
namespace Go.Proofs.YtnhgnfflihoaiaaDoor
open Go Go.Vc
theorem Ups.frB {w w' : World} {s : Slc} {l : List Upd} {S : List Nat} (h : Ups w s l) (ho : Own Ty_api_Update 7 w s (l.map Upd.cells).flatten) (f : Fr S w w') (hS : ∀ k ∈ S, ∃ T cs, T ≠ Ty_api_Update ∧ Blk w k T cs ∧ ∀ (i : Nat) (b : UInt8), cs[i]? ≠ some (u8v b)) : Ups w' s l := by
  refine ⟨(ho.fr f fun k hk hx => ?_).cel, fun u hu => ⟨(h.dat u hu).1.frB f fun k hk => ?_, (h.dat u hu).2⟩⟩
  · obtain ⟨T, cs, h1, h2, _⟩ := hS k hx
    exact ho.ne h2 (Ne.symm h1) hk
  · obtain ⟨T, cs, _, h2, h3⟩ := hS k hk
    exact ⟨T, cs, h2, h3⟩
/-- Over a step of another writer. -/
theorem Fnd.frW {w0 w w' : World} {bs : List UInt8} {q p : Nat} {us : List Upd} {su se : Slc} {last : List UInt8} {n : Int} (h : Fnd w0 w bs q us su se) (ho : Own Ty_int 1 w se (((readH bs).bs.length :: (scanT bs).2.1).map fun n => Value.int .i64 ((n : Nat) : Int))) (hp : RW w p last n) (f : Fr [p] w w') (hne : q ≠ p) : Fnd w0 w' bs q us su se := by
  obtain ⟨cs, hB, hB2⟩ := hp.blk
  refine ⟨h.up, h.ups.frB h.own f fun k hk => ?_, h.own.fr f fun k hk hx => ?_, (ho.fr f fun k hk hx => ?_).cel, h.rw.fr f (by simpa using hne) fun b cs2 hb hx => ?_, h.qn, h.l4⟩
  · simp at hk; subst hk
    exact ⟨_, cs, by decide, hB, hB2⟩
  · simp at hx; subst hx
    exact h.own.ne hB (by decide) hk
  · simp at hx; subst hx
    exact ho.ne hB (by decide) hk
  · simp at hx; subst hx
    exact hb.ne_ hB (by decide) rfl
theorem scan_o {w : World} {s : Slc} {bs : List UInt8} (hG : GT w) (h : Byt w s bs) (hm : bs.length ≤ 1099511627776) (ho : okH bs = true) :
    Calls PP F_record_Scan #[s.v] w (Rt fun v w' => Fr [] w w' ∧ ∃ q us su se, v = .tuple #[(readH bs).v, Slc.v su, Slc.v se, .int .i64 (scanT bs).2.2.1, .pointer (some (blk q)), .int .i64 0] ∧ Fnd w w' bs q us su se ∧ Own Ty_int 1 w' se (((readH bs).bs.length :: (scanT bs).2.1).map fun n => Value.int .i64 ((n : Nat) : Int))) := by
  refine Rt.mono (scan_c hG h hm) ?_
  rintro v w' ⟨f, h1 | h1⟩
  · rw [h1.1] at ho; cases ho
  · obtain ⟨_, q, us, su, se, e1, rfl, e3, e4, e5, e6, e7, _, _, e8⟩ := h1
    refine ⟨f, q, us, su, se, rfl, ⟨e1, ⟨e3.cel, fun u hu => ⟨(e5 u hu).own.cel, ?_⟩⟩, e3, e4.cel, e6, e7, e8⟩, e4⟩
    have hm : Vc_up u ∈ (scanT bs).1 := by rw [← e1]; exact List.mem_map.2 ⟨u, hu, rfl⟩
    have := Upo_len ((scanT_inv ho).may _ hm)
    simp only [Vc_up] at this
    omega
theorem upo_count : ∀ (last : List UInt8) (us : List Up), us.length ≤ (logB last us).length
  | last, [] => by simp
  | last, u :: r => by
    have := upo_count (recSum last u.body) r
    simp [logB, recPre]
    omega
theorem wBs_take_next (h : Hd) (us : List Up) (i : Nat) (hi : i < us.length) : wBs h (us.take (i + 1)) = wBs h (us.take i) ++ (recPre us[i].body ++ recSum (logLast h.last (us.take i)) us[i].body) := by
  rw [List.take_succ_eq_append_getElem hi]
  unfold wBs
  rw [logB_snoc, List.append_assoc]
/-- One of a log's updates is put: the bytes grow by its record. -/
theorem again_step {w : World} {p : Nat} {h : Hd} {us : List Up} {i : Nat} (hi : i < us.length) (hu : Upo us) {x : Upd} (hx : Vc_up x = us[i]) (hG : GT w) (hg : G_sum_steps ≠ p) (hR : RW w p (logLast h.last (us.take i)) (i : Int)) (hl : i < 9223372036854775807) (hd : Byt w x.data x.ds) :
    Calls PP F_record_Writer_Put #[.pointer (some (blk p)), .agg #[.int .i64 x.kind, .string x.key, .int .i64 x.cnt, .int .i64 x.cli, .bool x.fin, .bool x.has, x.data.v]] w (Rt fun v w' =>
      ∃ s, v = .tuple #[Slc.v s, .int .i64 0] ∧ Row w w' s (recPre us[i].body ++ recSum (logLast h.last (us.take i)) us[i].body) ∧ Fr [p] w w' ∧ RW w' p (logLast h.last (us.take (i + 1))) ((i + 1 : Nat) : Int)) := by
  have hm := (hu us[i] (List.getElem_mem _)).1
  have hm' : mayV x.kind x.key.size x.cnt x.cli x.fin x.has x.ds.length = 0 := by rw [← hx] at hm; exact hm
  refine Rt.mono (put_c hG hg hR (logLast_len _ _ (le4_len _)) hl hd) ?_
  rintro _ w' (⟨h1, _⟩ | ⟨_, s, body, hb, rfl, hr, f, hW⟩)
  · exact absurd hm' h1
  · have hb' : body = us[i].body := by rw [hb, ← hx]; rfl
    rw [hb'] at hr hW
    refine ⟨s, rfl, hr, f, ?_⟩
    rw [List.take_succ_eq_append_getElem hi, logLast_snoc]
    exact hW
set_option maxHeartbeats 1000000 in
theorem recordAny_c {n k d s : Int} {us data : Slc} {l : List Upd} {w : World} {ds : List UInt8} (hG : GT w) (hU : Ups w us l) (hN : l.length ≤ 1048576) (hD : Byt w data ds) (hdl : ds.length ≤ 1048576) :
    Calls PP F_sherdlaw11_RecordAny #[.agg #[.int .i64 n, .int .i64 k, .int .i64 d, .int .i64 s, us.v], data.v] w (Rt fun v w' => v = .bool true ∧ Fr [] w w') := by
  have hgp := hG.pos
  refine sim_sherdlaw11_RecordAny _ _ _ _ _ _ _ _ ?_
  unfold vc_sherdlaw11_RecordAny
  refine New.intro fun b9 w1 n9 => call (written_c (hG.fr0 n9.fr) (hU.fr0 n9.fr) hN) ?_
  rintro _ w2 ⟨f2, p, all, marks, uss, X, rfl, W⟩
  have hm : HdOk (wHd n k d s) := wHd_may n k d s
  have hu : Upo (keptW (l.map Vc_up)) := keptW_may
  have hul : (keptW (l.map Vc_up)).length ≤ 1048576 := Nat.le_trans (keptW_len _) (by simpa using hN)
  generalize wHd n k d s = H at *
  generalize keptW (l.map Vc_up) = K at *
  have hLen := wBs_len hm hu hul
  have hHl := Hd_bs_len hm
  have F2 := n9.fr.then_ f2
  refine ⟨_, _, _, _, all, marks, uss, _, rfl, New.intro fun b22 w3 n22 => n22.blk.stoAll rfl fun w4 h4 f4 => ⟨by simp, fun _ => New.intro fun b30 w5 nb => ?_⟩⟩
  have F4 : Fr [] w2 w4 := n22.fr.local_ f4 fun x hx => .inr (by simp at hx; rw [hx, n22.at_]; exact Nat.le_refl _)
  have W4 := W.fr0 F4
  have hE : Made w4 w5 (Slc.mk (some (blk b30)) 0 0) [] := ⟨nb.fr, Own.made nb.blk (by simp) (by decide), fun k hk => by simp [Slc.blks] at hk; rw [hk, nb.at_]; exact Nat.le_refl _⟩
  refine hE.app (W4.oall.own.fr0 nb.fr).cel (by simp; omega) fun s1 w6 hM1 hl1 => ?_
  rw [List.nil_append] at hM1
  have F6a : Fr [] w w6 := (F2.then_ F4).then_ hM1.fr
  refine hM1.app (hD.fr0 F6a) (by omega) fun s2 w7 hM2 hl2 => ?_
  have F7 : Fr [] w w7 := (F2.then_ F4).then_ hM2.fr
  obtain ⟨o1, o2, _⟩ := scanT_log hm hu (more := ds) rfl
  have hbl : (wBs H K ++ ds).length ≤ 69208000000 := by simp; omega
  generalize hbs : wBs H K ++ ds = bs at *
  have hI := scanT_inv o1
  have hI2 : Upo (scanT bs).1 := hI.may
  have hmarks : (scanT bs).2.1 = logMarks H.bs.length (scanT bs).1 := by rw [hI.marks, o2]
  have hHL : headLast bs = H.last := headLast_hd (rest := logB H.last K ++ ds) (by rw [← hbs, wBs, List.append_assoc]) hm
  have hpre : ∃ more, bs = wBs H (scanT bs).1 ++ more := by
    obtain ⟨more, hd⟩ := hI.pre
    rw [o2, hHL] at hd
    refine ⟨more, ?_⟩
    have hbt : bs.take H.bs.length = H.bs := by rw [← hbs, wBs, List.append_assoc, List.take_left]
    rw [wBs, List.append_assoc, ← hd, ← hbt]
    conv => lhs; rw [← List.take_append_drop H.bs.length bs]
    rw [List.length_take, Nat.min_eq_left (by rw [← hbs]; simp only [wBs, List.length_append]; omega)]
  have hstop : (scanT bs).2.2.2.1 = (wBs H (scanT bs).1).length := by rw [hI.stop, o2, hHL]; simp [wBs]
  have hle := hI.le
  have hwhy := hI.why
  rw [hstop] at hle hwhy
  refine call (scan_o (hG.fr0 F7) hM2.byt (by omega) o1) ?_
  rintro _ w8 ⟨f8, q, us2, su, se, rfl, hF, hOse⟩
  rw [o2]
  generalize hT : scanT bs = T at *
  have hs2 : s2.l = bs.length := hM2.byt.len
  have hs2c := hM2.byt.cap
  have hFl : us2.length = T.1.length := by have := congrArg List.length hF.up; rw [hT] at this; simpa using this
  have hsul : su.l = T.1.length := by have := hF.ups.len; omega
  have hmk0 : Cel w8 se 1 ((mksZ H T.1).map (Value.int .i64)) := by
    have := hF.mks (hd := H) (l := T.1) o2 (by rw [hT]; exact hmarks)
    exact this
  have hsel : se.l = T.1.length + 1 := by have := hmk0.len; simp [mksZ_len] at this; omega
  have hTl : T.1.length ≤ bs.length := by
    have := upo_count H.last T.1
    simp [wBs] at hle
    omega
  have hendT := markAt_end H T.1
  refine ⟨H.n, H.k, H.d, H.s, su, se, _, some (blk q), 0, rfl, New.intro fun b50 w9 n50 => n50.blk.stoAll rfl fun w10 h10 f10 => ?_⟩
  have F810 : Fr [] w8 w10 := n50.fr.local_ f10 fun x hx => .inr (by simp at hx; rw [hx, n50.at_]; exact Nat.le_refl _)
  have hF10 := hF.fr0 F810
  have hO10 := hOse.fr0 F810
  have hmk10 := hmk0.fr0 F810
  rw [hsul, hsel, hs2, wr64 (by omega) (by omega)]
  obtain ⟨a, ha, hc⟩ := mks_cell hmk10 (i := T.1.length) (Nat.le_refl _)
  rw [hendT] at hc
  refine ⟨false, fun _ => ⟨a, ha, by omega, by omega, _, by rw [Int.toNat_natCast]; exact hc, by simp; omega⟩, fun h => by simp at h, false, fun _ => ⟨a, ha, by omega, by omega, _, by rw [Int.toNat_natCast]; exact hc, ?_⟩, fun h => by simp at h, fun h => by simp at h, fun _ => ?_⟩
  · by_cases hx : T.2.2.1 = 0
    · have := hwhy.1 hx
      simp [hx, this]
    · have : ¬ (wBs H T.1).length = bs.length := fun e => hx (hwhy.2 e)
      simp [hx]
      omega
  refine ⟨_, h10.cell (i := 0) rfl, _, h10.cell (i := 1) rfl, _, h10.cell (i := 2) rfl, _, h10.cell (i := 3) rfl, call (new_c (hG.fr0 (F7.then_ (f8.then_ F810)))) ?_⟩
  rintro _ w11 ⟨f11, h11⟩
  rcases h11 with ⟨hx, _⟩ | ⟨_, v, z, rfl, hz, hv, hR⟩
  · exact absurd hm hx
  have hhb : headBs H.n.toNat H.k.toNat H.d.toNat H.s.toNat = H.bs := rfl
  have hlast : le4 (crc (headPre H.n.toNat H.k.toNat H.d.toNat H.s.toNat)) = H.last := rfl
  rw [hhb] at hz
  rw [hlast] at hR
  have hzl := hz.byt.len
  have F11 : Fr [] w w11 := F7.then_ ((f8.then_ F810).then_ f11)
  have F711 : Fr [] w7 w11 := (f8.then_ F810).then_ f11
  have hvn : w7.heap.size ≤ v := Nat.le_trans (f8.then_ F810).size hv
  have hqv : q ≠ v := by
    obtain ⟨cs, hB, _⟩ := hF10.rw.blk
    have := hB.lt
    omega
  obtain ⟨a0, ha0, hc0⟩ := mks_cell (hmk10.fr0 f11) (i := 0) (Nat.zero_le _)
  rw [markAt_zero] at hc0
  refine ⟨some (blk v), z, 0, rfl, false, fun _ => ⟨a0, ha0, by omega, by omega, _, hc0, by simp; omega⟩, fun h => by simp at h, fun h => by simp at h, fun _ => ?_⟩
  -- made again
  let Inv : Nat → Slc → World → Prop := fun i again w' => i ≤ T.1.length ∧ Fr [] w w' ∧ Fr [] w7 w' ∧ Row w7 w' again (wBs H (T.1.take i)) ∧ RW w' v (logLast H.last (T.1.take i)) (i : Int) ∧ Fnd w7 w' bs q us2 su se ∧ Own Ty_int 1 w' se (((readH bs).bs.length :: (scanT bs).2.1).map fun n => Value.int .i64 ((n : Nat) : Int)) ∧ Blk w' b50 Ty_api_Head #[.int .i64 H.n, .int .i64 H.k, .int .i64 H.d, .int .i64 H.s]
  have hmk : ∀ {w' : World}, Fnd w7 w' bs q us2 su se → Cel w' se 1 ((mksZ H T.1).map (Value.int .i64)) := fun h => h.mks (hd := H) (l := T.1) o2 (by rw [hT]; exact hmarks)
  refine ⟨fun again iv w' => ∃ i : Nat, iv = (i : Int) ∧ Inv i again w', fun _ iv _ => T.1.length - iv.toNat, ⟨0, rfl, Nat.zero_le _, F11, F711, ?_, ?_, hF10.fr0 f11, (by rw [hT]; exact hO10.fr0 f11), h10.fr f11 (by simp)⟩, ?_⟩
  · have := hz.since (f8.then_ F810).size
    simpa [wBs, logB] using this
  · simpa [logLast] using hR
  rintro again _ w12 ⟨i, rfl, hi, F12, F712, hA, hRv, hF12, hO12, hb50⟩
  have hiA : (wBs H (T.1.take i)).length ≤ bs.length := Nat.le_trans (by have := markAt_mono (h := H) (us := T.1) hi; rw [hendT] at this; exact this) hle
  refine ⟨fun hlt => ?_, fun hge => ?_⟩
  · simp only [decide_eq_true_eq] at hlt
    have hlt' : i < T.1.length := by omega
    obtain ⟨a1, ha1, hc1⟩ := hF12.ups.get (k := i) (by omega)
    have hxe : Vc_up (us2[i]'(by omega)) = T.1[i] := by
      have := congrArg (·[i]?) hF.up
      simp only [hT] at this
      rw [List.getElem?_map, List.getElem?_eq_getElem (by omega), List.getElem?_eq_getElem hlt'] at this
      simpa using this
    have hxd := hF12.ups.dat (us2[i]'(by omega)) (List.getElem_mem _)
    refine ⟨a1, ha1, by omega, by omega, _, hc1 0 _ rfl, _, hc1 1 _ rfl, _, hc1 2 _ rfl, _, hc1 3 _ rfl, _, hc1 4 _ rfl, _, hc1 5 _ rfl, (us2[i]'(by omega)).data, hc1 6 _ rfl, call (again_step (h := H) hlt' hI2 hxe (hG.fr0 F12) (by have := F7.size; omega) hRv (by omega) hxd.1) ?_⟩
    rintro _ w13 ⟨sP, rfl, hrow, f13, hR13⟩
    obtain ⟨vcs, hBv, _⟩ := hRv.blk
    have F13 : Fr [] w w13 := F12.local_ f13 fun x hx => .inr (by simp at hx; have := F7.size; omega)
    have F713 : Fr [] w7 w13 := F712.local_ f13 fun x hx => .inr (by simp at hx; omega)
    have hA13 : Own Ty_uint8 1 w13 again _ := hA.own.fr f13 fun k hk hx => by simp at hx; subst hx; exact hA.own.ne hBv (by decide) hk
    have hF13 := hF12.frW hO12 hRv f13 hqv
    have hO13 : Own Ty_int 1 w13 se _ := hO12.fr f13 fun k hk hx => by simp at hx; subst hx; exact hO12.ne hBv (by decide) hk
    have hb13 := hb50.fr f13 (by simp; exact hb50.ne_ hBv (by decide))
    have hnext := wBs_take_next H T.1 i hlt'
    have hnl : (wBs H (T.1.take (i + 1))).length ≤ bs.length := Nat.le_trans (by have := markAt_mono (h := H) (us := T.1) (show i + 1 ≤ T.1.length by omega); rw [hendT] at this; exact this) hle
    have hnl2 := congrArg List.length hnext
    rw [List.length_append] at hnl2
    refine ⟨sP, 0, rfl, New.intro fun b3 w14 n3 => ?_⟩
    have hE3 : Made w13 w14 (Slc.mk (some (blk b3)) 0 0) [] := ⟨n3.fr, Own.made n3.blk (by simp) (by decide), fun k hk => by simp [Slc.blks] at hk; rw [hk, n3.at_]; exact Nat.le_refl _⟩
    refine hE3.app (hA13.fr0 n3.fr).cel (by rw [List.length_nil]; omega) fun s3 w15 hM3 _ => ?_
    rw [List.nil_append] at hM3
    refine hM3.app (hrow.own.fr0 hM3.fr).cel (by omega) fun s4 w16 hM4 hl4 => ?_
    rw [← hnext] at hM4
    have hs4 : s4.l = (wBs H (T.1.take (i + 1))).length := hM4.byt.len
    have hF16 := hF13.fr0 hM4.fr
    obtain ⟨a4, ha4, hc4⟩ := mks_cell (hmk hF16) (i := i + 1) (by omega)
    rw [wr64 (by omega) (by omega)]
    refine ⟨false, fun _ => ⟨a4, ha4, by omega, by omega, _, by rw [show ((i : Int) + 1).toNat = i + 1 by omega]; exact hc4, by rw [hs4]; simp [markAt]⟩, fun h => by simp at h, fun h => by simp at h, fun _ => ⟨⟨i + 1, rfl, by omega, F13.then_ hM4.fr, F713.then_ hM4.fr, ⟨hM4.own, fun k hk => Nat.le_trans F713.size (hM4.new k hk)⟩, hR13.fr hM4.fr (by simp) fun _ _ _ => by simp, hF16, hO13.fr0 hM4.fr, hb13.fr hM4.fr (by simp)⟩, by dsimp only; omega⟩⟩
  · simp only [decide_eq_false_iff_not] at hge
    have hiT : i = T.1.length := by omega
    subst hiT
    rw [List.take_length] at hA hRv
    obtain ⟨more, hmore⟩ := hpre
    have hag : again.l = (wBs H T.1).length := hA.byt.len
    have hs2B : Byt w12 s2 bs := (hM2.own.fr0 F712).cel
    have hcut : Byt w12 (s2.cut 1 0 (wBs H T.1).length) (wBs H T.1) := cut_all (l := 0) (k := (wBs H T.1).length) hs2B (Nat.zero_le _) hle (by rw [hmore]; simp)
    rw [hag]
    refine ⟨by omega, by omega, by omega, ?_⟩
    rw [Int.toNat_natCast]
    refine call (same_c hA.byt hcut) ?_
    rintro _ _ ⟨rfl, rfl⟩
    have hw2 := scanT_whole hm hI2
    obtain ⟨r1, r2, _⟩ := scanT_log hm hI2 (more := []) (bs := wBs H T.1) (by simp)
    refine ⟨true, rfl, by simp, fun _ => call (scan_o (hG.fr0 F12) hA.byt (by omega) r1) ?_⟩
    rintro _ w13 ⟨f13, q3, us3, su3, se3, rfl, hF3, hO3⟩
    rw [r2, hw2]
    refine ⟨H.n, H.k, H.d, H.s, su3, se3, 0, some (blk q3), 0, rfl, New.intro fun b193 w14 n193 => n193.blk.stoAll rfl fun w15 h15 f15 => ?_⟩
    have F15 : Fr [] w13 w15 := n193.fr.local_ f15 fun x hx => .inr (by simp at hx; rw [hx, n193.at_]; exact Nat.le_refl _)
    have F1215 := f13.then_ F15
    have hb15 := hb50.fr F1215 (by simp)
    have hF3' := hF3.fr0 F15
    have hF12' := hF12.fr0 F1215
    refine ⟨true, fun _ => ⟨_, h15.cell (i := 0) rfl, _, h15.cell (i := 1) rfl, _, h15.cell (i := 2) rfl, _, h15.cell (i := 3) rfl, _, hb15.cell (i := 0) rfl, _, hb15.cell (i := 1) rfl, _, hb15.cell (i := 2) rfl, _, hb15.cell (i := 3) rfl, by simp⟩, fun h => by simp at h, ?_⟩
    have hupe : us3.map Vc_up = us2.map Vc_up := by rw [hF3.up, hF.up, hw2, hT]
    have hule := congrArg List.length hupe
    simp at hule
    refine ⟨fun x w' => x = true ∧ Fr [] w15 w', ⟨fun _ => ?_, fun h => by simp at h⟩, ?_⟩
    · refine call (updates_u hF3'.ups hF12'.ups hupe (by omega)) ?_
      rintro _ w16 ⟨rfl, f16⟩
      exact ⟨_, rfl, rfl, f16⟩
    rintro _ w16 ⟨rfl, f16⟩
    refine ⟨fun x w' => x = true ∧ Fr [] w15 w', ⟨fun _ => ?_, fun h => by simp at h⟩, ?_⟩
    · refine call (ints_c ((hF3'.fr0 f16).mks (hd := H) (l := T.1) r2 (by rw [hw2])) (hmk (hF12'.fr0 f16)) (by rw [mksZ_len]; omega)) ?_
      rintro _ w17 ⟨rfl, f17⟩
      exact ⟨_, rfl, by simp, f16.then_ f17⟩
    rintro _ w17 ⟨rfl, f17⟩
    exact Rt.ok ⟨rfl, F12.then_ (F1215.then_ f17)⟩
end Go.Proofs.YtnhgnfflihoaiaaDoor
