/-
  The contracts of flog.Log.anew and Compact.
-/
import Derived.Test.YtflcdgkckfcofaaGreatDoorFlogD
namespace Go.Proofs.YtflcdgkckfcofaaGreatDoor
open Go Go.Vc Go.Vc.Asn Go.Disk
section
variable {w0 w : World} {A F B : Asn} {us : Slc} {l : List Upd} {p q : Nat} {L : LogM} {D : DiskM} {bs : List UInt8} {data : Slc}
def LogM.turn (L : LogM) (q : Nat) (n : Nat) (e : Int) : LogM := if e = 0 then { L with slot := 1 - L.slot, q := some q, bytes := (n : Int) } else L
theorem c1_no {c1 c2 c3 c4 c5 : Addr} {Q : Ending → World → Prop} {v : Value} (h : w.cell? c1 = some (.bool false)) (hQ : Q (.returned v) w) : vc_flog_Log_anew_c1 c1 c2 c3 c4 c5 w (DK Q v) := by
  unfold vc_flog_Log_anew_c1
  exact ⟨false, h, fun h => (by cases h), fun _ => hQ⟩
theorem DK_ok {X : Value → World → Prop} {v x : Value} (h : X v w) : DK (Rt X) v (.returned x) w := (Rt.ok h : Rt X (.returned v) w)
theorem lanew_c (hs : L.slot < 2) (hB : BdS D.p bs.length 4) (hl : bs.length ≤ 1099511627776)
    (H : Hp w0 w (star (own Ty_uint8 1 data (bs.map u8v)) (star (logA p L) (star (diskA L.d D) F)))) :
    Calls PP F_flog_Log_anew #[.pointer (some (blk p)), data.v, .pointer (some (blk q))] w (Rt fun v w' => ErrV w' v (anewR D.p (1 - L.slot) bs).2 ∧ ∃ D', D'.p = (anewR D.p (1 - L.slot) bs).1 ∧
      Hp w0 w' (star (own Ty_uint8 1 data (bs.map u8v)) (star (logA p (L.turn q bs.length (anewR D.p (1 - L.slot) bs).2)) (star (diskA L.d D') F)))) := by
  refine sim_flog_Log_anew _ _ _ _ _ ?_
  unfold vc_flog_Log_anew
  have ho : 1 - L.slot < 2 := by omega
  refine H.new fun b5 w1 H => H.new fun b8 w2 H => H.new fun b11 w3 H => ⟨blk p, rfl, (L.slot : Int), logCell (H.take (logA p L)) rfl, ?_⟩
  have e1 : wr .i64 (1 - (L.slot : Int)) = ((1 - L.slot : Nat) : Int) := by rw [wr64 (by omega) (by omega)]; omega
  rw [e1]
  refine H.new fun b18 w4 H => ?_
  refine H.sto (b := b18) (i := 0) (by decide) fun w5 H => ?_
  refine H.new fun b25 w6 H => ?_
  refine H.sto (b := b25) (i := 0) (by decide) fun w7 H => ?_
  have H := H.drew 1
  refine ⟨some (blk p), H.cell (b := b5) (i := 0) rfl, blk p, rfl, some (blk L.d), logCell (H.take (logA p L)) rfl, ((1 - L.slot : Nat) : Int), H.cell (b := b18) (i := 0) rfl, ?_⟩
  have fin : ∀ {w' : World} {D' : DiskM} {L' : LogM} {x y : Array Value}, Hp w0 w' (star (diskA L.d D') (star (bk b25 Ty_bool x) (star (bk b18 Ty_int y) (star (bk b11 Ty_p_record_Writer #[.pointer (some (blk q))]) (star (bk b8 Ty_sl_uint8 #[data.v]) (star (bk b5 Ty_p_flog_Log #[.pointer (some (blk p))]) (star (own Ty_uint8 1 data (bs.map u8v)) (star (logA p L') F)))))))) →
      Hp w0 w' (star (own Ty_uint8 1 data (bs.map u8v)) (star (logA p L') (star (diskA L.d D') F))) := by
    intro w' D' L' x y H
    have H := (H.blk b25).drop
    have H := (H.blk b18).drop
    have H := (H.blk b11).drop
    have H := (H.blk b8).drop
    have H := (H.blk b5).drop
    exact (H.take (logA p L')).own data
  -- Wipe
  refine call (dWipe_c ho (hB.bd (Nat.zero_le _)) (H.take (diskA L.d D))) ?_
  rintro _ w8 ⟨rfl, D1, hD1, H⟩
  refine ⟨_, rfl, call where_c ?_⟩
  rintro ev1 w9 ⟨hE1, f1⟩
  have H := H.fr0 f1
  have er1 : (actR D.p (1 - L.slot) true (gWipe (1 - L.slot))).2 ≠ 0 → anewR D.p (1 - L.slot) bs = actR D.p (1 - L.slot) true (gWipe (1 - L.slot)) := fun h => by unfold anewR; rw [if_pos h]
  refine ⟨ev1, rfl, _, hE1.nilI, fun h1 => c1_no (H.cell (b := b25) (i := 0) rfl) (Rt.ok ?_), fun h1 => ?_⟩
  · have h1 : (actR D.p (1 - L.slot) true (gWipe (1 - L.slot))).2 ≠ 0 := by simpa using h1
    rw [er1 h1]
    refine ⟨hE1, D1, hD1, ?_⟩
    rw [show L.turn q bs.length (actR D.p (1 - L.slot) true (gWipe (1 - L.slot))).2 = L from if_neg h1]
    exact fin H
  have h1 : ¬ (actR D.p (1 - L.slot) true (gWipe (1 - L.slot))).2 ≠ 0 := by simpa using h1
  have hB1 : BdS (actR D.p (1 - L.slot) true (gWipe (1 - L.slot))).1 bs.length 3 := hB.act (n := bs.length) (k := 0) (m := 3) (gs_wipe ho)
  rw [← hD1] at hB1
  have H := H.drew 1
  refine ⟨some (blk p), H.cell (b := b5) (i := 0) rfl, blk p, rfl, some (blk L.d), logCell (H.take (logA p L)) rfl, ((1 - L.slot : Nat) : Int), H.cell (b := b18) (i := 0) rfl, data, H.cell (b := b8) (i := 0) rfl, ?_⟩
  -- Append
  refine call (dAppend_c ho (hB1.bd (Nat.le_refl _)) (H.cel (s := data)) hl (H.take (diskA L.d D1))) ?_
  rintro _ w10 ⟨rfl, D2, hD2, H⟩
  refine ⟨_, rfl, call where_c ?_⟩
  rintro ev2 w11 ⟨hE2, f2⟩
  have H := H.fr0 f2
  rw [hD1] at hD2 hE2
  have er2 : (actR (actR D.p (1 - L.slot) true (gWipe (1 - L.slot))).1 (1 - L.slot) false (gApp (1 - L.slot) bs)).2 ≠ 0 → anewR D.p (1 - L.slot) bs = actR (actR D.p (1 - L.slot) true (gWipe (1 - L.slot))).1 (1 - L.slot) false (gApp (1 - L.slot) bs) := fun h => by
    unfold anewR; rw [if_neg h1, if_pos h]
  refine ⟨ev2, rfl, _, hE2.nilI, fun h2 => c1_no (H.cell (b := b25) (i := 0) rfl) (Rt.ok ?_), fun h2 => ?_⟩
  · have h2 : (actR (actR D.p (1 - L.slot) true (gWipe (1 - L.slot))).1 (1 - L.slot) false (gApp (1 - L.slot) bs)).2 ≠ 0 := by simpa using h2
    rw [er2 h2]
    refine ⟨hE2, D2, hD2, ?_⟩
    rw [show L.turn q bs.length (actR (actR D.p (1 - L.slot) true (gWipe (1 - L.slot))).1 (1 - L.slot) false (gApp (1 - L.slot) bs)).2 = L from if_neg h2]
    exact fin H
  have h2 : ¬ (actR (actR D.p (1 - L.slot) true (gWipe (1 - L.slot))).1 (1 - L.slot) false (gApp (1 - L.slot) bs)).2 ≠ 0 := by simpa using h2
  rw [hD1] at hB1
  have hB2 : BdS (actR (actR D.p (1 - L.slot) true (gWipe (1 - L.slot))).1 (1 - L.slot) false (gApp (1 - L.slot) bs)).1 0 2 := BdS.act (n := 0) (m := 2) (by rw [Nat.zero_add]; exact hB1) (gs_app ho bs)
  rw [← hD2] at hB2
  have H := H.drew 1
  refine ⟨some (blk p), H.cell (b := b5) (i := 0) rfl, blk p, rfl, some (blk L.d), logCell (H.take (logA p L)) rfl, ((1 - L.slot : Nat) : Int), H.cell (b := b18) (i := 0) rfl, ?_⟩
  -- Sync
  refine call (dSync_c ho (hB2.bd (Nat.le_refl _)) (H.take (diskA L.d D2))) ?_
  rintro _ w12 ⟨rfl, D3, hD3, H⟩
  refine ⟨_, rfl, call where_c ?_⟩
  rintro ev3 w13 ⟨hE3, f3⟩
  have H := H.fr0 f3
  rw [hD2] at hD3 hE3
  generalize hr2 : actR (actR D.p (1 - L.slot) true (gWipe (1 - L.slot))).1 (1 - L.slot) false (gApp (1 - L.slot) bs) = r2 at *
  have er3 : (actR r2.1 (1 - L.slot) false (gSync (1 - L.slot))).2 ≠ 0 → anewR D.p (1 - L.slot) bs = actR r2.1 (1 - L.slot) false (gSync (1 - L.slot)) := fun h => by
    unfold anewR; rw [if_neg h1, hr2, if_neg h2, if_pos h]
  refine ⟨ev3, rfl, _, hE3.nilI, fun h3 => c1_no (H.cell (b := b25) (i := 0) rfl) (Rt.ok ?_), fun h3 => ?_⟩
  · have h3 : (actR r2.1 (1 - L.slot) false (gSync (1 - L.slot))).2 ≠ 0 := by simpa using h3
    rw [er3 h3]
    refine ⟨hE3, D3, hD3, ?_⟩
    rw [show L.turn q bs.length (actR r2.1 (1 - L.slot) false (gSync (1 - L.slot))).2 = L from if_neg h3]
    exact fin H
  have h3 : ¬ (actR r2.1 (1 - L.slot) false (gSync (1 - L.slot))).2 ≠ 0 := by simpa using h3
  rw [hD2] at hB2
  have hB3 : BdS (actR r2.1 (1 - L.slot) false (gSync (1 - L.slot))).1 0 1 := BdS.act (n := 0) (k := 0) (m := 1) hB2 (gs_sync ho)
  rw [← hD3] at hB3
  have H := H.drew 1
  refine ⟨some (blk p), H.cell (b := b5) (i := 0) rfl, blk p, rfl, some (blk L.d), logCell (H.take (logA p L)) rfl, ((1 - L.slot : Nat) : Int), H.cell (b := b18) (i := 0) rfl, ?_⟩
  -- Switch
  refine call (dSwitch_c ho (hB3.bd (Nat.le_refl _)) (H.take (diskA L.d D3))) ?_
  rintro _ w14 ⟨rfl, D4, hD4, H⟩
  refine ⟨_, rfl, call where_c ?_⟩
  rintro ev4 w15 ⟨hE4, f4⟩
  have H := H.fr0 f4
  rw [hD3] at hD4 hE4
  generalize hr3 : actR r2.1 (1 - L.slot) false (gSync (1 - L.slot)) = r3 at *
  have er4 : anewR D.p (1 - L.slot) bs = actR r3.1 (1 - L.slot) false (gSwitch (1 - L.slot)) := by
    unfold anewR; rw [if_neg h1, hr2, if_neg h2, hr3, if_neg h3]
  rw [er4]
  refine ⟨ev4, rfl, _, hE4.nilI, fun h4 => c1_no (H.cell (b := b25) (i := 0) rfl) (Rt.ok ?_), fun h4 => ?_⟩
  · have h4 : (actR r3.1 (1 - L.slot) false (gSwitch (1 - L.slot))).2 ≠ 0 := by simpa using h4
    refine ⟨hE4, D4, hD4, ?_⟩
    rw [show L.turn q bs.length (actR r3.1 (1 - L.slot) false (gSwitch (1 - L.slot))).2 = L from if_neg h4]
    exact fin H
  have h4 : (actR r3.1 (1 - L.slot) false (gSwitch (1 - L.slot))).2 = 0 := by simpa using h4
  refine H.sto (b := b25) (i := 0) (by decide) fun w16 H => ?_
  unfold vc_flog_Log_anew_c1
  refine ⟨true, H.cell (b := b25) (i := 0) rfl, fun _ => ?_, fun h => (by cases h)⟩
  refine ⟨some (blk p), H.cell (b := b5) (i := 0) rfl, some (blk p), H.cell (b := b5) (i := 0) rfl, some (blk p), H.cell (b := b5) (i := 0) rfl, ((1 - L.slot : Nat) : Int), H.cell (b := b18) (i := 0) rfl, some (blk q), H.cell (b := b11) (i := 0) rfl, data, H.cell (b := b8) (i := 0) rfl, blk p, rfl, ?_⟩
  have hdl := (H.cel (s := data)).lenM
  refine logSto (L' := { L with slot := 1 - L.slot }) (H.take (logA p L)) (by omega) rfl fun w17 H => ⟨blk p, rfl, ?_⟩
  refine logSto (L' := { L with slot := 1 - L.slot, q := some q }) H (by omega) rfl fun w18 H => ⟨blk p, rfl, ?_⟩
  refine logSto (L' := { L with slot := 1 - L.slot, q := some q, bytes := (bs.length : Int) }) H (by omega) (by rw [hdl]; rfl) fun w19 H => ?_
  refine DK_ok ?_
  rw [h4]
  refine ⟨.inl ⟨rfl, rfl⟩, D4, hD4, ?_⟩
  rw [show L.turn q bs.length 0 = { L with slot := 1 - L.slot, q := some q, bytes := (bs.length : Int) } from if_pos rfl]
  have H := (H.blk b25).drop
  have H := (H.blk b18).drop
  have H := (H.blk b11).drop
  have H := (H.blk b8).drop
  have H := (H.blk b5).drop
  exact H.own data
end
end Go.Proofs.YtflcdgkckfcofaaGreatDoor

/-
  The contract of flog.Log.Compact.
-/
namespace Go.Proofs.YtflcdgkckfcofaaGreatDoor
open Go Go.Vc Go.Vc.Asn Go.Disk
section
variable {w0 w : World} {A F B : Asn} {us : Slc} {l : List Upd} {p q : Nat} {L : LogM} {D : DiskM} {x : List UInt8 × Int}
def LogM.bs (L : LogM) (l : List Upd) : List UInt8 := hBs L.n L.k L.dl L.s ++ logB (hLast L.n L.k L.dl L.s) (l.map Vc_up)
theorem bs_len (hm : mayHeadV L.n L.k L.dl L.s = 0) (hb : badU l = 0) : (L.bs l).length ≤ 41 + l.length * 66000 := by
  have h1 := hBs_len hm
  have h2 := logB_len (hLast L.n L.k L.dl L.s) (l.map Vc_up) (fun u hu => by obtain ⟨v, hv, rfl⟩ := List.mem_map.1 hu; exact badU_zero l hb v hv)
  rw [List.length_map] at h2
  unfold LogM.bs
  rw [List.length_append]
  omega
theorem lcompact_c (hG : GT w0) (hE : ErrG w0) (hU : UpsA w0 A us l) (hl : l.length ≤ 1048576) (hs : L.slot < 2)
    (hB : BdS D.p (41 + l.length * 66000) 4) (H : Hp w0 w (logW p q L x D (star A F))) :
    Calls PP F_flog_Log_Compact #[.pointer (some (blk p)), us.v] w (Rt fun v w' =>
      (L.broken ≠ 0 ∧ v = .int .i64 L.broken ∧ Hp w0 w' (logW p q L x D (star A F))) ∨
      (L.broken = 0 ∧ ∃ e, e ≠ 0 ∧ e = (if mayHeadV L.n L.k L.dl L.s ≠ 0 then mayHeadV L.n L.k L.dl L.s else badU l) ∧ v = .int .i64 e ∧ Hp w0 w' (logW p q L x D (star A F))) ∨
      (L.broken = 0 ∧ mayHeadV L.n L.k L.dl L.s = 0 ∧ badU l = 0 ∧ v = .int .i64 (anewR D.p (1 - L.slot) (L.bs l)).2 ∧ ∃ D', D'.p = (anewR D.p (1 - L.slot) (L.bs l)).1 ∧
        (((anewR D.p (1 - L.slot) (L.bs l)).2 = 0 ∧ ∃ q', Hp w0 w' (logW p q' { L with slot := 1 - L.slot, q := some q', bytes := ((L.bs l).length : Int) } (logLast (hLast L.n L.k L.dl L.s) (l.map Vc_up), (l.length : Int)) D' (star A F))) ∨
         ((anewR D.p (1 - L.slot) (L.bs l)).2 ≠ 0 ∧ Hp w0 w' (logW p q { L with broken := (anewR D.p (1 - L.slot) (L.bs l)).2 } x D' (star A F)))))) := by
  refine sim_flog_Log_Compact _ _ _ _ ?_
  unfold vc_flog_Log_Compact
  refine ⟨fun h => by simp at h, fun _ => ⟨_, rfl, L.broken, logCell H rfl, fun h => ⟨L.broken, logCell H rfl, Rt.ok (.inl ⟨by simpa using h, rfl, H⟩)⟩, fun h => ?_⟩⟩
  have hbr : L.broken = 0 := by simpa using h
  refine ⟨L.n, logCell (p := p) (k := 1) H rfl, L.k, logCell (p := p) (k := 2) H rfl, L.dl, logCell (p := p) (k := 3) H rfl, L.s, logCell (p := p) (k := 4) H rfl, ?_⟩
  have back : ∀ {w' : World}, Hp w0 w' (star A (star (logA p L) (star (PW q x) (star (diskA L.d D) F)))) → Hp w0 w' (logW p q L x D (star A F)) := fun H => ((H.take (diskA L.d D)).take (PW q x)).take (logA p L)
  refine call (made_c hG hU hl (H.take A)) ?_
  rintro _ w1 (⟨e, ev, h0, he, rfl, hEv, H⟩ | ⟨hm, hb, q', z, rfl, H⟩)
  · refine ⟨_, _, _, rfl, _, hEv.nilI, fun _ => call (lnumber_c (hE.fr0 H.fr) hEv) ?_, fun h' => absurd (by simpa using h') h0⟩
    rintro _ w2 ⟨rfl, f2⟩
    exact ⟨_, rfl, Rt.ok (.inr (.inl ⟨hbr, e, h0, he, rfl, back (H.fr0 f2)⟩))⟩
  · refine ⟨_, _, _, rfl, true, .inl ⟨rfl, rfl⟩, fun h' => (by cases h'), fun _ => ?_⟩
    have hlen := bs_len (L := L) (l := l) hm hb
    have hlm : l.length * 66000 ≤ 1048576 * 66000 := Nat.mul_le_mul (by omega) (Nat.le_refl _)
    have H : Hp w0 w1 (star (own Ty_uint8 1 z ((L.bs l).map u8v)) (star (PW q' (logLast (hLast L.n L.k L.dl L.s) (l.map Vc_up), (l.length : Int))) (star A (star (logA p L) (star (PW q x) (star (diskA L.d D) F)))))) := H
    refine call (lanew_c (q := q') hs (hB.le hlen (Nat.le_refl _)) (by omega) (((H.take (diskA L.d D)).take (logA p L)).own z)) ?_
    rintro ev w2 ⟨hEv, D1, hD1, H⟩
    refine ⟨ev, rfl, _, hEv.nilI, fun h1 => ?_, fun h1 => ?_⟩
    · have h1 : (anewR D.p (1 - L.slot) (L.bs l)).2 ≠ 0 := by simpa using h1
      rw [show L.turn q' (L.bs l).length (anewR D.p (1 - L.slot) (L.bs l)).2 = L from if_neg h1] at H
      refine call (lfailed_c hE hEv (H.take (logA p L))) ?_
      rintro _ w3 ⟨rfl, H⟩
      refine ⟨_, rfl, Rt.ok (.inr (.inr ⟨hbr, hm, hb, rfl, D1, hD1, .inr ⟨h1, ?_⟩⟩))⟩
      have H := (H.own z).drop
      have H := (H.take (PW q' (logLast (hLast L.n L.k L.dl L.s) (l.map Vc_up), (l.length : Int)))).drop
      have H := H.take A
      exact ((H.take (diskA L.d D1)).take (PW q x)).take (logA p _)
    · have h1 : (anewR D.p (1 - L.slot) (L.bs l)).2 = 0 := by simpa using h1
      rw [show L.turn q' (L.bs l).length (anewR D.p (1 - L.slot) (L.bs l)).2 = { L with slot := 1 - L.slot, q := some q', bytes := ((L.bs l).length : Int) } from if_pos h1] at H
      refine Rt.ok (.inr (.inr ⟨hbr, hm, hb, by rw [h1], D1, hD1, .inl ⟨h1, q', ?_⟩⟩))
      have H := (H.own z).drop
      have H := (H.take (PW q x)).drop
      have H := H.take A
      exact ((H.take (diskA L.d D1)).take (PW q' (logLast (hLast L.n L.k L.dl L.s) (l.map Vc_up), (l.length : Int)))).take (logA p _)
end
end Go.Proofs.YtflcdgkckfcofaaGreatDoor

/-
  The contracts of flog.opened and Open.
-/
namespace Go.Proofs.YtflcdgkckfcofaaGreatDoor
open Go Go.Vc Go.Vc.Asn Go.Disk
def scanX (bs : List UInt8) : List Up := if okH bs then (scanT bs).1 else []
theorem scanL_upo (bs : List UInt8) : ∀ (f at_ : Nat) (last : List UInt8), Upo (scanL bs f at_ last).1
  | 0, _, _ => by intro u hu; simp [scanL] at hu
  | f + 1, at_, last => by
    unfold scanL
    split
    · intro u hu; simp at hu
    · split
      · intro u hu; simp at hu
      · rename_i h1 h2
        intro u hu
        rcases List.mem_cons.1 hu with rfl | hu
        · have := next_inv (by simpa using h2)
          exact ⟨this.1, this.2.1⟩
        · exact scanL_upo bs f _ _ u hu
theorem scanX_upo (bs : List UInt8) : Upo (scanX bs) := by
  unfold scanX
  split
  · exact scanL_upo _ _ _ _
  · intro u hu; simp at hu
def clean (bs : List UInt8) : Bool := okH bs && decide ((scanT bs).2.2.1 = 0)
def newB (n k d s : Int) (X : List Up) : List UInt8 := hBs n k d s ++ logB (hLast n k d s) X
def hdEq (bs : List UInt8) (n k d s : Int) : Bool := (decide ((readH bs).n = n) && (decide ((readH bs).k = k) && decide ((readH bs).d = d))) && decide ((readH bs).s = s)
def openR (D : DiskP) (i : Nat) (n k d s : Int) : DiskP × Int :=
  if mayHeadV n k d s ≠ 0 then (D, mayHeadV n k d s) else if D.dead = true then (D, 60) else
  if (okH (D.sl i).now && !hdEq (D.sl i).now n k d s) = true then (D, 62) else
  if clean (D.sl i).now = true then (D, 0) else anewR D (1 - i) (newB n k d s (scanX (D.sl i).now))
def openSlot (bs : List UInt8) (i : Nat) : Nat := if clean bs = true then i else 1 - i
def openB (n k d s : Int) (bs : List UInt8) : List UInt8 := if clean bs = true then bs else newB n k d s (scanX bs)
def openLast (n k d s : Int) (bs : List UInt8) : List UInt8 := if clean bs = true then (scanT bs).2.2.2.2 else logLast (hLast n k d s) (scanX bs)
section
variable {w0 w : World} {A F B : Asn} {p i : Nat} {D : DiskM} {n k d s : Int}
theorem An.of.X' {a : An} {bs : List UInt8} (h : a.of bs) : a.X.map Vc_up = scanX bs := h.X
theorem scanA_ups {a : An} {bs : List UInt8} (h : a.of bs) : UpsA w0 (star (own Ty_api_Update 7 a.l (a.X.map Upd.cells).flatten) (all rowU a.X)) a.l a.X := by
  rintro w S f ⟨S1, S2, _, _, ⟨_, hO⟩, hR⟩
  refine ⟨hO.cel, fun u hu => ⟨((rows_all a.X S2 hR).1 u hu).1.cel, ?_⟩⟩
  have := h.ds.1 u hu
  omega
theorem badU_upo {l : List Upd} (h : Upo (l.map Vc_up)) : badU l = 0 := badU_ok l fun u hu => (h _ (List.mem_map_of_mem hu)).1
def OpenPost (w0 : World) (p i : Nat) (D : DiskM) (n k d s : Int) (F : Asn) (v : Value) (w' : World) : Prop :=
  (∃ ev, (openR D.p i n k d s).2 ≠ 0 ∧ v = .tuple #[.pointer none, Slc.nil.v, ev] ∧ ErrV w' ev (openR D.p i n k d s).2 ∧ ∃ D', D'.p = (openR D.p i n k d s).1 ∧ Hp w0 w' (star (diskA p D') F)) ∨
  (∃ lp q us X D', (openR D.p i n k d s).2 = 0 ∧ v = .tuple #[.pointer (some (blk lp)), Slc.v us, .nilIface] ∧ X.map Vc_up = scanX (D.sl i).now ∧ (∀ u ∈ X, u.ds.length ≤ 65540) ∧ D'.p = (openR D.p i n k d s).1 ∧
    Hp w0 w' (star (star (own Ty_api_Update 7 us (X.map Upd.cells).flatten) (all rowU X)) (logW lp q ⟨p, n, k, d, s, openSlot (D.sl i).now i, some q, ((openB n k d s (D.sl i).now).length : Int), 0⟩ (openLast n k d s (D.sl i).now, (X.length : Int)) D' F)))
set_option maxHeartbeats 1000000 in
theorem opened_c (hG : GT w0) (hE : ErrG w0) (hi : i < 2) (hcur : D.cur = (i : Int)) (hX : (scanX (D.sl i).now).length ≤ 1048576) (hm : (D.sl i).now.length ≤ 1099511627776)
    (hB : BdS D.p (41 + (scanX (D.sl i).now).length * 66000) 4) (H : Hp w0 w (star (diskA p D) F)) :
    Calls PP F_flog_opened #[.pointer (some (blk p)), .agg #[.int .i64 n, .int .i64 k, .int .i64 d, .int .i64 s]] w (Rt (OpenPost w0 p i D n k d s F)) := by
  refine sim_flog_opened _ _ _ _ _ _ _ ?_
  unfold vc_flog_opened OpenPost
  refine H.new fun b7 w1 H => ⟨fun h => by simp at h, fun _ => ?_⟩
  have hGp := hG.pos
  refine call (newH_c (hG.fr0 H.fr)) ?_
  rintro _ w2 (⟨h, rfl, f⟩ | ⟨hmay, q0, z, rfl, H2⟩)
  · refine ⟨none, _, _, rfl, fun _ => call where_c ?_, fun h' => absurd (by simpa using h') h⟩
    rintro ev w3 ⟨hEv, f3⟩
    have er : openR D.p i n k d s = (D.p, mayHeadV n k d s) := by unfold openR; rw [if_pos h]
    refine ⟨ev, rfl, Rt.ok (.inl ⟨ev, by rw [er]; exact h, rfl, by rw [er]; exact hEv, D, by rw [er], ?_⟩)⟩
    exact ((H.fr0 f).fr0 f3).drop
  have H := ((H.beside H2).drop).drew 1
  refine ⟨_, _, _, rfl, fun h => absurd h (by decide), fun _ => ⟨n, H.cell (b := b7) (i := 0) rfl, k, H.cell (b := b7) (i := 1) rfl, d, H.cell (b := b7) (i := 2) rfl, s, H.cell (b := b7) (i := 3) rfl, ?_⟩⟩
  refine call (dCurrent_c (H.take (diskA p D))) ?_
  rintro _ w3 ⟨rfl, rfl⟩
  refine ⟨_, rfl, H.cell (b := b7) (i := 0) rfl, H.cell (b := b7) (i := 1) rfl, H.cell (b := b7) (i := 2) rfl, H.cell (b := b7) (i := 3) rfl, ?_⟩
  have hsl : ∃ sl : Nat, (if D.dead = true then 0 else D.cur) = (sl : Int) ∧ sl < 2 ∧ (D.dead = false → sl = i) := by
    by_cases hd : D.dead = true
    · exact ⟨0, by rw [if_pos hd]; rfl, by omega, fun h => by rw [hd] at h; cases h⟩
    · exact ⟨i, by rw [if_neg hd]; exact hcur, hi, fun _ => rfl⟩
  obtain ⟨sl, esl, hsl2, hsli⟩ := hsl
  rw [esl]
  refine H.new fun lp w4 H => ?_
  have H : Hp w0 w4 (star (logA lp ⟨p, n, k, d, s, sl, none, 0, 0⟩) _) := H
  refine ⟨(sl : Int), logCell H rfl, ?_⟩
  refine call (dRead_c (i := sl) hsl2 (hB.bd (Nat.zero_le _)) (H.take (diskA p D))) ?_
  rintro _ w5 (⟨hdd, rfl, rfl⟩ | ⟨hdd, o, rfl, H⟩)
  · refine ⟨_, _, rfl, fun _ => call where_c ?_, fun h' => absurd h' (by decide)⟩
    rintro ev w6 ⟨hEv, f6⟩
    have er : openR D.p i n k d s = (D.p, 60) := by unfold openR; rw [if_neg (by simpa using hmay), if_pos (show D.p.dead = true from hdd)]
    refine ⟨ev, rfl, Rt.ok (.inl ⟨ev, by rw [er]; show (60 : Int) ≠ 0; decide, rfl, by rw [er]; exact hEv, D, by rw [er], ?_⟩)⟩
    exact (H.fr0 f6).drop.drop
  obtain rfl := hsli hdd
  refine ⟨_, _, rfl, fun h' => absurd h' (by decide), fun _ => ?_⟩
  have ebs : D.p.sl sl = (D.sl sl).p := (sl_p D sl).symm
  have ebs2 : (D.p.sl sl).now = (D.sl sl).now := by rw [ebs]; rfl
  generalize hbs : (D.sl sl).now = bs at *
  have hol := (H.cel (s := o)).lenM
  refine call (scan_h (hG.fr0 H.fr) (H.cel (s := o)) hm) ?_
  rintro _ w6 ⟨a, ha, rfl, H2⟩
  have H2 : Hp w5 w6 (star (star (own Ty_api_Update 7 a.l (a.X.map Upd.cells).flatten) (own Ty_int 1 a.m (a.E.map (Value.int .i64)))) (star (all rowU a.X) (anW a))) := H2
  have H2 := ((H2.own a.m).drop).assoc'
  obtain ⟨A, hA⟩ : ∃ A, A = star (own Ty_api_Update 7 a.l (a.X.map Upd.cells).flatten) (all rowU a.X) := ⟨_, rfl⟩
  have hUA : ∀ w0, UpsA w0 A a.l a.X := fun w0 => by rw [hA]; exact scanA_ups ha
  rw [← hA] at H2
  have H := (H.beside H2).assoc
  refine ⟨_, _, _, _, _, _, _, _, _, rfl, ?_⟩
  refine H.new fun b80 w7 H => ?_
  refine H.stoAll (b := b80) (by rfl) fun w8 H => ?_
  have hXa := ha.X'
  have hXl : a.X.length = (scanX bs).length := by rw [← hXa, List.length_map]
  have hmay0 : ¬ mayHeadV n k d s ≠ 0 := by simpa using hmay
  have hdd0 : ¬ D.p.dead = true := by show ¬ D.dead = true; rw [hdd]; decide
  refine ⟨okH bs && !hdEq bs n k d s, fun h => ?_, fun h => ?_, fun h => ?_, fun h => ?_⟩
  · have ho : okH bs = true := by
      have h := ha.e.symm.trans (by simpa using h)
      by_cases ho : okH bs = true
      · exact ho
      · rw [if_neg ho] at h; exact absurd h (by decide)
    obtain ⟨h1, h2, h3, h4⟩ := ha.hd
    rw [if_pos ho] at h1 h2 h3 h4
    refine ⟨_, H.cell (b := b80) (i := 0) rfl, _, H.cell (b := b80) (i := 1) rfl, _, H.cell (b := b80) (i := 2) rfl, _, H.cell (b := b80) (i := 3) rfl, n, H.cell (b := b7) (i := 0) rfl, k, H.cell (b := b7) (i := 1) rfl, d, H.cell (b := b7) (i := 2) rfl, s, H.cell (b := b7) (i := 3) rfl, ?_⟩
    rw [h1, h2, h3, h4, ho]
    rfl
  · have ho : okH bs = false := by
      have h : a.e ≠ 0 := by simpa using h
      rw [ha.e] at h
      by_cases ho : okH bs = true
      · rw [if_pos ho] at h; exact absurd rfl h
      · simpa using ho
    rw [ho]; rfl
  · refine call where_c ?_
    rintro ev w9 ⟨hEv, f9⟩
    have er : openR D.p sl n k d s = (D.p, 62) := by unfold openR; rw [if_neg hmay0, if_neg hdd0, ebs2, if_pos h]
    refine ⟨ev, rfl, Rt.ok (.inl ⟨ev, by rw [er]; show (62 : Int) ≠ 0; decide, rfl, by rw [er]; exact hEv, D, by rw [er], ?_⟩)⟩
    have H := H.fr0 f9
    have H := (H.blk b80).drop
    have H := (H.blk b7).drop
    have H := (H.own o).drop
    have H := (H.take A).drop
    have H := (H.take (anW a)).drop
    have H := (H.take (logA lp ⟨p, n, k, d, s, sl, none, 0, 0⟩)).drop
    exact H
  have hXd : ∀ u ∈ a.X, u.ds.length ≤ 65540 := ha.ds.1
  have eopen : openR D.p sl n k d s = if clean bs = true then (D.p, 0) else anewR D.p (1 - sl) (newB n k d s (scanX bs)) := by
    unfold openR; rw [if_neg hmay0, if_neg hdd0, ebs2, if_neg (by rw [h]; decide)]
  refine ⟨fun h2 => ?_, fun h2 => ?_⟩
  · have h2 : a.e = 0 ∧ a.why = 0 := by simpa using h2
    have ho : okH bs = true := by
      have h := ha.e.symm.trans h2.1
      by_cases ho : okH bs = true
      · exact ho
      · rw [if_neg ho] at h; exact absurd h (by decide)
    have hcl : clean bs = true := by
      have h := ha.why.symm.trans h2.2
      rw [if_pos ho] at h
      unfold clean
      rw [ho, h]
      rfl
    obtain ⟨q, hq⟩ : ∃ q, a.pw = some q := by
      have h := ha.pw
      rw [ho] at h
      cases hp : a.pw with
      | none => rw [hp] at h; cases h
      | some q => exact ⟨q, rfl⟩
    have eW : anW a = PW q (a.last, (a.X.length : Int)) := by unfold anW; rw [hq]; rfl
    rw [eW] at H
    rw [hq]
    refine logSto (L' := ⟨p, n, k, d, s, sl, some q, 0, 0⟩) (H.take (logA lp ⟨p, n, k, d, s, sl, none, 0, 0⟩)) (by omega) rfl fun w9 H => ?_
    refine logSto (L' := ⟨p, n, k, d, s, sl, some q, (bs.length : Int), 0⟩) H (by omega) (by rw [hol]; rfl) fun w10 H => Rt.ok (.inr ⟨lp, q, a.l, a.X, D, ?_, rfl, hXa, hXd, ?_, ?_⟩)
    · rw [eopen, if_pos hcl]
    · rw [eopen, if_pos hcl]
    · rw [show openSlot bs sl = sl from if_pos hcl, show openB n k d s bs = bs from if_pos hcl, show openLast n k d s bs = (scanT bs).2.2.2.2 from if_pos hcl, ← (ha.last ho).1, ← hA]
      have H := (H.blk b80).drop
      have H := (H.blk b7).drop
      have H := (H.own o).drop
      exact (((H.take (diskA p D)).take (PW q (a.last, (a.X.length : Int)))).take (logA lp ⟨p, n, k, d, s, sl, some q, (bs.length : Int), 0⟩)).take A
  · have hcl : ¬ clean bs = true := by
      intro hcl
      unfold clean at hcl
      rw [Bool.and_eq_true, decide_eq_true_eq] at hcl
      have e1 := ha.e
      have e2 := ha.why
      rw [if_pos hcl.1] at e1 e2
      rw [e1, e2, hcl.2] at h2
      exact absurd h2 (by decide)
    refine ⟨n, H.cell (b := b7) (i := 0) rfl, k, H.cell (b := b7) (i := 1) rfl, d, H.cell (b := b7) (i := 2) rfl, s, H.cell (b := b7) (i := 3) rfl, ?_⟩
    have hbad : badU a.X = 0 := badU_upo (by rw [hXa]; exact scanX_upo bs)
    refine call (made_c hG (hUA w0) (by omega) (H.take A)) ?_
    rintro _ w9 (⟨e, ev, h0, he, _⟩ | ⟨_, _, q, z, rfl, H⟩)
    · rw [if_neg hmay0] at he
      rw [he] at h0
      exact absurd hbad h0
    rw [hXa] at H
    obtain ⟨W, hW⟩ : ∃ W, W = anW a := ⟨_, rfl⟩
    rw [← hW] at H
    have H : Hp w0 w9 (star (own Ty_uint8 1 z ((newB n k d s (scanX bs)).map u8v)) (star (PW q (logLast (hLast n k d s) (scanX bs), (a.X.length : Int))) _)) := H
    have hlen : (newB n k d s (scanX bs)).length ≤ 41 + (scanX bs).length * 66000 := by
      have h1 := hBs_len hmay
      have h2 := logB_len (hLast n k d s) (scanX bs) fun u hu => (scanX_upo bs u hu).1
      unfold newB
      rw [List.length_append]
      omega
    have hlm : (scanX bs).length * 66000 ≤ 1048576 * 66000 := Nat.mul_le_mul (by omega) (Nat.le_refl _)
    generalize hnb : newB n k d s (scanX bs) = nb at *
    refine ⟨_, _, _, rfl, fun e w' => ErrV w' e (anewR D.p (1 - sl) nb).2 ∧ ∃ D', D'.p = (anewR D.p (1 - sl) nb).1 ∧ Hp w0 w' (star A (star (logA lp (LogM.turn ⟨p, n, k, d, s, sl, none, 0, 0⟩ q nb.length (anewR D.p (1 - sl) nb).2)) (star (PW q (logLast (hLast n k d s) (scanX bs), (a.X.length : Int))) (star (diskA p D') F)))), ⟨true, .inl ⟨rfl, rfl⟩, fun _ => ?_, fun h => (by cases h)⟩, ?_⟩
    · refine call (lanew_c (L := ⟨p, n, k, d, s, sl, none, 0, 0⟩) (q := q) hsl2 (hB.le hlen (Nat.le_refl _)) (by omega) (((H.take (diskA p D)).take (logA lp ⟨p, n, k, d, s, sl, none, 0, 0⟩)).own z)) ?_
      rintro ev w10 ⟨hEv, D1, hD1, H⟩
      refine ⟨ev, rfl, hEv, D1, hD1, ?_⟩
      obtain ⟨L', hL'⟩ : ∃ L', L' = LogM.turn ⟨p, n, k, d, s, sl, none, 0, 0⟩ q nb.length (anewR D.p (1 - sl) nb).2 := ⟨_, rfl⟩
      have H : Hp w0 w10 (star (own Ty_uint8 1 z (nb.map u8v)) (star (logA lp (LogM.turn ⟨p, n, k, d, s, sl, none, 0, 0⟩ q nb.length (anewR D.p (1 - sl) nb).2)) (star (diskA p D1) _))) := H
      rw [← hL'] at H ⊢
      have H := (H.own z).drop
      have H := (H.blk b80).drop
      have H := (H.blk b7).drop
      have H := (H.own o).drop
      have H := (H.take W).drop
      exact (((H.take (diskA p D1)).take (PW q (logLast (hLast n k d s) (scanX bs), (a.X.length : Int)))).take (logA lp L')).take A
    · rintro ev w10 ⟨hEv, D1, hD1, H⟩
      refine ⟨_, hEv.nilI, fun h1 => Rt.ok (.inl ⟨ev, ?_, rfl, ?_, D1, ?_, ?_⟩), fun h1 => Rt.ok (.inr ⟨lp, q, a.l, a.X, D1, ?_, rfl, hXa, hXd, ?_, ?_⟩)⟩
      · rw [eopen, if_neg hcl]; simpa using h1
      · rw [eopen, if_neg hcl]; exact hEv
      · rw [eopen, if_neg hcl]; exact hD1
      · have H := H.drop.drop
        exact H.drop
      · rw [eopen, if_neg hcl]; simpa using h1
      · rw [eopen, if_neg hcl]; exact hD1
      · have h1 : (anewR D.p (1 - sl) nb).2 = 0 := by simpa using h1
        rw [show LogM.turn ⟨p, n, k, d, s, sl, none, 0, 0⟩ q nb.length (anewR D.p (1 - sl) nb).2 = ⟨p, n, k, d, s, 1 - sl, some q, (nb.length : Int), 0⟩ from if_pos h1] at H
        rw [show openSlot bs sl = 1 - sl from if_neg hcl, show openB n k d s bs = nb from (if_neg hcl).trans hnb, show openLast n k d s bs = logLast (hLast n k d s) (scanX bs) from if_neg hcl, ← hA]
        exact H
def OpenPostN (w0 : World) (p i : Nat) (D : DiskM) (n k d s : Int) (F : Asn) (v : Value) (w' : World) : Prop :=
  ((openR D.p i n k d s).2 ≠ 0 ∧ v = .tuple #[.pointer none, Slc.nil.v, .int .i64 (openR D.p i n k d s).2] ∧ ∃ D', D'.p = (openR D.p i n k d s).1 ∧ Hp w0 w' (star (diskA p D') F)) ∨
  (∃ lp q us X D', (openR D.p i n k d s).2 = 0 ∧ v = .tuple #[.pointer (some (blk lp)), Slc.v us, .int .i64 0] ∧ X.map Vc_up = scanX (D.sl i).now ∧ (∀ u ∈ X, u.ds.length ≤ 65540) ∧ D'.p = (openR D.p i n k d s).1 ∧
    Hp w0 w' (star (star (own Ty_api_Update 7 us (X.map Upd.cells).flatten) (all rowU X)) (logW lp q ⟨p, n, k, d, s, openSlot (D.sl i).now i, some q, ((openB n k d s (D.sl i).now).length : Int), 0⟩ (openLast n k d s (D.sl i).now, (X.length : Int)) D' F)))
theorem open_c (hG : GT w0) (hE : ErrG w0) (hi : i < 2) (hcur : D.cur = (i : Int)) (hX : (scanX (D.sl i).now).length ≤ 1048576) (hm : (D.sl i).now.length ≤ 1099511627776)
    (hB : BdS D.p (41 + (scanX (D.sl i).now).length * 66000) 4) (H : Hp w0 w (star (diskA p D) F)) :
    Calls PP F_flog_Open #[.pointer (some (blk p)), .agg #[.int .i64 n, .int .i64 k, .int .i64 d, .int .i64 s]] w (Rt (OpenPostN w0 p i D n k d s F)) := by
  refine sim_flog_Open _ _ _ _ _ _ _ ?_
  unfold vc_flog_Open
  refine H.new fun b w1 H => ?_
  have H := H.drop
  refine call (opened_c hG hE hi hcur hX hm hB H) ?_
  rintro _ w2 (⟨ev, h0, rfl, hEv, D1, hD1, H⟩ | ⟨lp, q, us, X, D1, h0, rfl, hX1, hX2, hD1, H⟩)
  · refine ⟨_, _, _, rfl, _, hEv.nilI, fun _ => call (lnumber_c (hE.fr0 H.fr) hEv) ?_, fun h1 => absurd (by simpa using h1) h0⟩
    rintro _ w3 ⟨rfl, f3⟩
    exact ⟨_, rfl, Rt.ok (.inl ⟨h0, rfl, D1, hD1, H.fr0 f3⟩)⟩
  · exact ⟨_, _, _, rfl, true, .inl ⟨rfl, rfl⟩, fun h1 => (by cases h1), fun _ => Rt.ok (.inr ⟨lp, q, us, X, D1, h0, rfl, hX1, hX2, hD1, H⟩)⟩
end
end Go.Proofs.YtflcdgkckfcofaaGreatDoor
