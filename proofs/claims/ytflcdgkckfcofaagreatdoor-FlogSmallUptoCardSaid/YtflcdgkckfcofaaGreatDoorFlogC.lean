/-
  The contract of flog.Log.Append.
-/
import Derived.Test.YtflcdgkckfcofaaGreatDoorFlogB
namespace Go.Proofs.YtflcdgkckfcofaaGreatDoor
open Go Go.Vc Go.Vc.Asn Go.Disk
theorem putS_c {w0 : World} {F : Asn} {p : Nat} {t : Slc} {last : List UInt8} {n : Nat} {kind cnt cli : Int} {key : ByteArray} {fin has : Bool} {data : Slc} {ds : List UInt8} {w : World} (hG : GT w0) (hg : G_sum_steps < w0.heap.size) (hl : last.length = 4) (hn : n < 9223372036854775807) (hd : Byt w data ds)
    (hO : Own Ty_uint8 1 w t (last.map u8v)) (H : Hp w0 w (star (bk p Ty_record_Writer #[t.v, .int .i64 (n : Int)]) F)) :
    Calls PP F_record_Writer_Put #[.pointer (some (blk p)), .agg #[.int .i64 kind, .string key, .int .i64 cnt, .int .i64 cli, .bool fin, .bool has, data.v]] w (Rt fun v w' =>
      (mayV kind key.size cnt cli fin has ds.length ≠ 0 ∧ v = .tuple #[Slc.nil.v, .int .i64 (mayV kind key.size cnt cli fin has ds.length)] ∧ Hp w0 w' (star (bk p Ty_record_Writer #[t.v, .int .i64 (n : Int)]) F)) ∨
      (mayV kind key.size cnt cli fin has ds.length = 0 ∧ ∃ s, v = .tuple #[Slc.v s, .int .i64 0] ∧ Hp w0 w' (star (star (own Ty_uint8 1 s ((recPre (bodyBs kind.toNat key cnt.toNat cli.toNat fin has ds) ++ recSum last (bodyBs kind.toNat key cnt.toNat cli.toNat fin has ds)).map u8v)) (PW p (recSum last (bodyBs kind.toNat key cnt.toNat cli.toNat fin has ds), ((n + 1 : Nat) : Int)))) F))) := by
  have hR : RW w p last (n : Int) := ⟨t, H.isBlk, hO⟩
  have hp : w0.heap.size ≤ p := by
    obtain ⟨fr, S, h1, S1, S2, g1, g2, ⟨h5, h6⟩, hb⟩ := H
    exact h1 p ((g1 p).2 (.inl ((h5 p).2 rfl)))
  refine Rt.mono (put2_c (hG.fr0 H.fr) (by omega) hR hl hn hd) ?_
  rintro v w' (⟨h0, rfl, f⟩ | ⟨h0, s, body, rfl, rfl, hrow, f, x, hB, hO, hx, hap⟩)
  · exact .inl ⟨h0, rfl, H.fr0 f⟩
  · refine .inr ⟨h0, s, rfl, H.step fun S hS hP => ?_⟩
    obtain ⟨h5, h6⟩ := hP
    refine ⟨[p], fun k => k ∈ s.blks ∨ (k = p ∨ k ∈ x.blks), fun k hk => by simp at hk; rw [hk]; exact (h5 p).2 rfl, f, star_p ⟨fun _ => Iff.rfl, hrow.own⟩ ⟨x, star_p ⟨fun _ => Iff.rfl, hB⟩ ⟨fun _ => Iff.rfl, hO⟩ fun k hk hk' => ?_⟩ fun k hk hk' => ?_, fun k hk => ?_⟩
    · rw [hk] at hk'; exact hO.ne hB (by decide) hk'
    · rcases hk' with rfl | hk'
      · exact hrow.own.ne hB (by decide) hk
      · exact hap k hk hk'
    · rcases hk with hk | rfl | hk
      · exact .inr (hrow.new k hk)
      · exact .inl ((h5 k).2 rfl)
      · exact .inr (hx k hk)
section
variable {w0 w : World} {A F B : Asn} {us : Slc} {l : List Upd} {p q : Nat} {L : LogM} {D : DiskM} {last : List UInt8} {n : Nat}
abbrev logW (p q : Nat) (L : LogM) (x : List UInt8 × Int) (D : DiskM) (F : Asn) : Asn := star (logA p L) (star (PW q x) (star (diskA L.d D) F))
theorem lappend_c (hG : GT w0) (hE : ErrG w0) (hU : UpsA w0 A us l) (hl : l.length ≤ 1048576) (hq : L.q = some q) (hs : L.slot < 2) (hlast : last.length = 4) (hn : n ≤ 1152921504606846976) (hby : 0 ≤ L.bytes ∧ L.bytes ≤ 1152921504606846976)
    (hB : BdS D.p (l.length * 66000) 2) (H : Hp w0 w (logW p q L (last, (n : Int)) D (star A F))) :
    Calls PP F_flog_Log_Append #[.pointer (some (blk p)), us.v] w (Rt fun v w' =>
      ((L.broken ≠ 0 ∨ l = []) ∧ v = .int .i64 L.broken ∧ Hp w0 w' (logW p q L (last, (n : Int)) D (star A F))) ∨
      (L.broken = 0 ∧ badU l ≠ 0 ∧ v = .int .i64 (badU l) ∧ Hp w0 w' (logW p q L (last, (n : Int)) D (star A F))) ∨
      (L.broken = 0 ∧ l ≠ [] ∧ badU l = 0 ∧ v = .int .i64 (appR D.p L.slot (logB last (l.map Vc_up))).2 ∧ ∃ D', D'.p = (appR D.p L.slot (logB last (l.map Vc_up))).1 ∧
        (((appR D.p L.slot (logB last (l.map Vc_up))).2 = 0 ∧ ∃ q', Hp w0 w' (logW p q' { L with q := some q', bytes := L.bytes + ((logB last (l.map Vc_up)).length : Int) } (logLast last (l.map Vc_up), ((n + l.length : Nat) : Int)) D' (star A F))) ∨
         ((appR D.p L.slot (logB last (l.map Vc_up))).2 ≠ 0 ∧ Hp w0 w' (logW p q { L with broken := (appR D.p L.slot (logB last (l.map Vc_up))).2 } (last, (n : Int)) D' (star A F)))))) := by
  refine sim_flog_Log_Append _ _ _ _ ?_
  unfold vc_flog_Log_Append
  have hGp := hG.pos
  have hU0 := hU.at_ (A := A) H
  refine ⟨fun h => by simp at h, fun _ => ⟨_, rfl, L.broken, logCell H rfl, fun h => ⟨L.broken, logCell H rfl, Rt.ok (.inl ⟨?_, rfl, H⟩)⟩, fun h => ?_⟩⟩
  · rw [hU0.len] at h
    simp at h
    exact h
  have hbr : L.broken = 0 := by
    by_cases h0 : L.broken = 0
    · exact h0
    · simp [h0] at h
  have hne : l ≠ [] := by
    intro h0
    rw [hU0.len, h0] at h
    simp at h
  have hlp : 0 < l.length := List.length_pos_iff.2 hne
  refine ⟨fun i w' => ∃ j : Nat, i = (j : Int) ∧ j ≤ l.length ∧ (∀ u ∈ l.take j, (Vc_up u).may = 0) ∧ Hp w0 w' (logW p q L (last, (n : Int)) D (star A F)), fun i _ => l.length - i.toNat, ⟨0, rfl, Nat.zero_le _, fun u hu => by simp at hu, H⟩, ?_⟩
  clear H hU0
  rintro _ w1 ⟨j, rfl, hj, hok, H⟩
  have hUw := hU.at_ (A := A) H
  refine ⟨fun h => ?_, fun h => ?_⟩
  · have hlt : j < l.length := by rw [hUw.len] at h; simp at h; omega
    refine rdU hlt hUw fun a ha => ?_
    refine putU (u := l[j]) H rfl fun b w2 H => ?_
    have hd := ((hU.at_ (A := A) H).dat _ (List.getElem_mem hlt)).1
    refine call (refused_c (hG.fr0 H.fr) hd) ?_
    rintro _ w3 ⟨rfl, f3⟩
    have H := H.drop.fr0 f3
    refine ⟨_, rfl, fun h' => ?_, fun h' => ?_⟩
    · have hb : (Vc_up l[j]).may ≠ 0 := by simpa [Up.may, Vc_up] using h'
      refine Rt.ok (.inr (.inl ⟨hbr, ?_, ?_, H⟩))
      · rw [badU_take l j hlt hok hb]; exact hb
      · rw [badU_take l j hlt hok hb]; rfl
    · have hb : (Vc_up l[j]).may = 0 := by simpa [Up.may, Vc_up] using h'
      refine ⟨⟨j + 1, wrj (by omega), hlt, fun u hu => ?_, H⟩, by rw [wrj (j := j) (by omega)]; dsimp only; omega⟩
      rw [take_snoc hlt] at hu
      rcases List.mem_append.1 hu with hu | hu
      · exact hok u hu
      · rw [List.mem_singleton.1 hu]; exact hb
  have hje : j = l.length := by rw [hUw.len] at h; simp at h; omega
  subst hje
  rw [List.take_length] at hok
  clear hj h
  refine ⟨some (blk q), logCell H (by show some (Value.pointer (L.q.map blk)) = _; rw [hq]; rfl), blk q, rfl, ?_⟩
  have H2 : Hp w0 w1 (star (Asn.ex fun s : Slc => star (bk q Ty_record_Writer #[s.v, .int .i64 (n : Int)]) (own Ty_uint8 1 s (last.map u8v))) (star (logA p L) (star (diskA L.d D) (star A F)))) := H.take (PW q (last, (n : Int)))
  clear H
  obtain ⟨t, H⟩ := H2.ex
  refine ⟨t, H.cell (b := q) (i := 0) rfl, _, H.cell (b := q) (i := 1) rfl, ?_⟩
  refine H.new fun b w2 H => ?_
  refine H.stoAll (b := b) (vs := [t.v, .int .i64 (n : Int)]) (by rfl) fun w3 H => ?_
  have hREST : ∃ REST, REST = star (star (bk q Ty_record_Writer #[t.v, .int .i64 (n : Int)]) (own Ty_uint8 1 t (last.map u8v))) (star (logA p L) (star (diskA L.d D) (star A F))) := ⟨_, rfl⟩
  obtain ⟨REST, hREST⟩ := hREST
  have hT : ∀ {w'}, Hp w0 w' REST → Own Ty_uint8 1 w' t (last.map u8v) := fun H => by rw [hREST] at H; exact H.isOwn (s := t)
  have hUR : ∀ {w'}, Hp w0 w' REST → Ups w' us l := fun H => by rw [hREST] at H; exact hU.at_ (A := A) H
  rw [← hREST] at H
  refine ⟨fun d' i w' => ∃ j : Nat, i = (j : Int) ∧ j ≤ l.length ∧ ((j = 0 ∧ Hp w0 w' (star (own Ty_uint8 1 d' []) (star (bk b Ty_record_Writer #[t.v, .int .i64 (n : Int)]) REST))) ∨ (1 ≤ j ∧ Hp w0 w' (star (own Ty_uint8 1 d' ((logB last ((l.take j).map Vc_up)).map u8v)) (star (PW b (logLast last ((l.take j).map Vc_up), ((n + j : Nat) : Int))) REST)))), fun _ i _ => l.length - i.toNat, ⟨0, rfl, Nat.zero_le _, .inl ⟨rfl, H.nilRow Ty_uint8 1⟩⟩, ?_⟩
  clear H
  rintro d' _ w4 ⟨j, rfl, hj, H⟩
  have hR : Hp w0 w4 REST := by rcases H with ⟨_, H⟩ | ⟨_, H⟩ <;> exact H.drop.drop
  have hUw := hUR hR
  refine ⟨fun h => ?_, fun h => ?_⟩
  · have hlt : j < l.length := by rw [hUw.len] at h; simp at h; omega
    have hmay : (Vc_up l[j]).may = 0 := hok _ (List.getElem_mem hlt)
    refine rdU hlt hUw fun a ha => ?_
    have key : ∀ (Q : Value → World → Prop), (∀ y w6, Hp w0 w6 (star (own Ty_uint8 1 d' ((logB last ((l.take j).map Vc_up)).map u8v)) (star (own Ty_uint8 1 y ((recPre (Vc_up l[j]).body ++ recSum (logLast last ((l.take j).map Vc_up)) (Vc_up l[j]).body).map u8v)) (star (PW b (recSum (logLast last ((l.take j).map Vc_up)) (Vc_up l[j]).body, ((n + j + 1 : Nat) : Int))) REST))) → Q (.tuple #[Slc.v y, .int .i64 0]) w6) →
        ∀ w5, Fr [] w4 w5 → Calls PP F_record_Writer_Put #[.pointer (some (blk b)), .agg #[.int .i64 l[j].kind, .string l[j].key, .int .i64 l[j].cnt, .int .i64 l[j].cli, .bool l[j].fin, .bool l[j].has, l[j].data.v]] w5 (Rt Q) := by
      intro Q hQ w5 f5
      have hd := ((hUR hR).dat _ (List.getElem_mem hlt)).1.fr0 f5
      rcases H with ⟨rfl, H⟩ | ⟨hj1, H⟩
      · refine Rt.mono (putS_c hG hGp hlast (by omega) hd (hT (hR.fr0 f5)) (H.fr0 f5).swap) ?_
        rintro _ w6 (⟨h0, _⟩ | ⟨_, y, rfl, H⟩)
        · exact absurd hmay h0
        · refine hQ y w6 ?_
          have H := H.assoc.take (own Ty_uint8 1 d' [])
          exact H
      · refine Rt.mono (putH_c hG hGp (logLast_len _ _ hlast) (by omega) hd (H.fr0 f5).swap) ?_
        rintro _ w6 (⟨h0, _⟩ | ⟨_, y, rfl, H⟩)
        · exact absurd hmay h0
        · refine hQ y w6 ?_
          have H := H.assoc.own d'
          exact H
    refine putU (u := l[j]) (Hp.start w4) rfl fun b2 w5 H5 => ?_
    refine call (key (fun v w6 => ∃ y, v = .tuple #[Slc.v y, .int .i64 0] ∧ Hp w0 w6 (star (own Ty_uint8 1 d' ((logB last ((l.take j).map Vc_up)).map u8v)) (star (own Ty_uint8 1 y ((recPre (Vc_up l[j]).body ++ recSum (logLast last ((l.take j).map Vc_up)) (Vc_up l[j]).body).map u8v)) (star (PW b (recSum (logLast last ((l.take j).map Vc_up)) (Vc_up l[j]).body, ((n + j + 1 : Nat) : Int))) REST)))) (fun y w6 H => ⟨y, rfl, H⟩) w5 H5.fr) ?_
    rintro _ w6 ⟨y, rfl, H⟩
    refine ⟨y, 0, rfl, ?_⟩
    have hokU : ∀ u ∈ (l.take j).map Vc_up, u.may = 0 := fun u hu => by obtain ⟨v, hv, rfl⟩ := List.mem_map.1 hu; exact hok v (List.mem_of_mem_take hv)
    have hlen := logB_len last ((l.take j).map Vc_up) hokU
    rw [List.length_map, List.length_take_of_le hj] at hlen
    have hrl := (recPre_len hmay).1
    have hy := H.cel (s := y)
    have hyl := hy.lenM
    have hdl := (H.cel (s := d')).lenM
    rw [List.length_append, recSum_len] at hyl
    have hjm : j * 66000 ≤ 1048576 * 66000 := Nat.mul_le_mul (by omega) (Nat.le_refl _)
    refine Hp.app slT_sl_uint8 (H.own d') hy (one_u8 _) (by unfold maxLen; omega) (by omega) fun d2 w7 H _ => ⟨⟨j + 1, wrj (by omega), hlt, .inr ⟨by omega, ?_⟩⟩, ?_⟩
    · have H := (H.own y).drop
      have H := H.own d2
      have e1 : (l.take (j + 1)).map Vc_up = (l.take j).map Vc_up ++ [Vc_up l[j]] := by rw [take_snoc hlt, List.map_append]; rfl
      rw [e1, logB_snoc, logLast_snoc, List.map_append]
      exact H
    · rw [wrj (j := j) (by omega)]; dsimp only; omega
  · have hje : j = l.length := by rw [hUw.len] at h; simp at h; omega
    subst hje
    rcases H with ⟨h0, _⟩ | ⟨_, H⟩
    · omega
    rw [List.take_length] at H
    rw [hREST] at H
    clear hR hUw hj h hT hUR hREST
    have hokU : ∀ u ∈ l.map Vc_up, u.may = 0 := fun u hu => by obtain ⟨v, hv, rfl⟩ := List.mem_map.1 hu; exact hok v hv
    have hlen := logB_len last (l.map Vc_up) hokU
    rw [List.length_map] at hlen
    have hlm : l.length * 66000 ≤ 1048576 * 66000 := Nat.mul_le_mul (by omega) (Nat.le_refl _)
    have hbad := badU_ok l hok
    generalize hbs : logB last (l.map Vc_up) = bs at *
    have H := H.drew 1
    have H := H.take (logA p L)
    refine ⟨_, logCell H rfl, _, logCell H rfl, ?_⟩
    have hD : Byt (w4.drewN 1) d' bs := H.cel (s := d')
    have hdl := (H.cel (s := d')).lenM
    refine call (dAppend_c (i := L.slot) hs (hB.bd hlen) hD (by omega) (H.take (diskA L.d D))) ?_
    rintro _ w5 ⟨rfl, D1, hD1, H⟩
    refine ⟨_, rfl, call where_c ?_⟩
    rintro ev w6 ⟨hE1, f6⟩
    have H := H.fr0 f6
    refine ⟨ev, rfl, _, hE1.nilI, fun h1 => ?_, fun h1 => ?_⟩
    · have h1 : (actR D.p L.slot false (gApp L.slot bs)).2 ≠ 0 := by simpa using h1
      have er : appR D.p L.slot bs = actR D.p L.slot false (gApp L.slot bs) := by unfold appR; rw [if_pos h1]
      refine call (lfailed_c hE hE1 (H.take (logA p L))) ?_
      rintro _ w7 ⟨rfl, H⟩
      refine ⟨_, rfl, Rt.ok (.inr (.inr ⟨hbr, hne, hbad, by rw [er], D1, by rw [er]; exact hD1, .inr ⟨by rw [er]; exact h1, ?_⟩⟩))⟩
      rw [er]
      have H := (H.own d').drop
      have H := (H.take (PW b (logLast last (l.map Vc_up), ((n + l.length : Nat) : Int)))).drop
      have H := ((H.own t).blk q).assoc'
      have H : Hp w0 w7 (star (PW q (last, (n : Int))) _) := Hp.exI (f := fun s : Slc => star (bk q Ty_record_Writer #[s.v, .int .i64 (n : Int)]) (own Ty_uint8 1 s (last.map u8v))) t H
      exact H.take (logA p _)
    · have h0 : (actR D.p L.slot false (gApp L.slot bs)).2 = 0 := by simpa using h1
      have er : appR D.p L.slot bs = actR (actR D.p L.slot false (gApp L.slot bs)).1 L.slot false (gSync L.slot) := by unfold appR; rw [if_neg (by simp [h0])]
      have hB1 : BdS (actR D.p L.slot false (gApp L.slot bs)).1 0 1 := (hB.le (n' := 0 + bs.length) (m' := 1 + 1) (by omega) (by omega)).act (gs_app hs bs)
      have H := H.drew 1
      have H := H.take (logA p L)
      refine ⟨_, logCell H rfl, _, logCell H rfl, ?_⟩
      rw [← hD1] at hB1
      refine call (dSync_c (i := L.slot) hs (hB1.bd (Nat.le_refl _)) (H.take (diskA L.d D1))) ?_
      rintro _ w7 ⟨rfl, D2, hD2, H⟩
      rw [hD1] at hD2
      refine ⟨_, rfl, call where_c ?_⟩
      rintro ev2 w8 ⟨hE2, f8⟩
      have H := H.fr0 f8
      refine ⟨ev2, rfl, _, hE2.nilI, fun h2 => ?_, fun h2 => ?_⟩
      · have h2 : (actR D1.p L.slot false (gSync L.slot)).2 ≠ 0 := by simpa using h2
        rw [hD1, ← er] at h2 hE2
        refine call (lfailed_c hE hE2 (H.take (logA p L))) ?_
        rintro _ w9 ⟨rfl, H⟩
        refine ⟨_, rfl, Rt.ok (.inr (.inr ⟨hbr, hne, hbad, rfl, D2, by rw [er]; exact hD2, .inr ⟨h2, ?_⟩⟩))⟩
        have H := (H.own d').drop
        have H := (H.take (PW b (logLast last (l.map Vc_up), ((n + l.length : Nat) : Int)))).drop
        have H := ((H.own t).blk q).assoc'
        have H : Hp w0 w9 (star (PW q (last, (n : Int))) _) := Hp.exI (f := fun s : Slc => star (bk q Ty_record_Writer #[s.v, .int .i64 (n : Int)]) (own Ty_uint8 1 s (last.map u8v))) t H
        exact H.take (logA p _)
      · have h2 : (actR D1.p L.slot false (gSync L.slot)).2 = 0 := by simpa using h2
        rw [hD1, ← er] at h2
        refine logSto (L' := { L with q := some b }) (H.take (logA p L)) (by omega) rfl fun w9 H => ⟨_, logCell H rfl, ?_⟩
        have hw : wr .i64 (L.bytes + (d'.l : Int)) = L.bytes + (bs.length : Int) := by rw [hdl, wr64 (by omega) (by omega)]
        have hw' : wr .i64 ((({ L with q := some b } : LogM).bytes) + (d'.l : Int)) = L.bytes + (bs.length : Int) := hw
        rw [hw']
        refine logSto (L' := { L with q := some b, bytes := L.bytes + (bs.length : Int) }) H (by omega) rfl fun w10 H => Rt.ok (.inr (.inr ⟨hbr, hne, hbad, by rw [h2], D2, by rw [er]; exact hD2, .inl ⟨h2, b, ?_⟩⟩))
        have H := (H.own d').drop
        have H := (H.own t).drop
        have H := (H.blk q).drop
        have H := H.take (PW b (logLast last (l.map Vc_up), ((n + l.length : Nat) : Int)))
        exact H.take (logA p _)
end
end Go.Proofs.YtflcdgkckfcofaaGreatDoor
