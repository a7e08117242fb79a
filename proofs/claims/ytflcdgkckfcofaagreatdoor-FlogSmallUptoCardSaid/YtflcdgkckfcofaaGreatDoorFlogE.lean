/-
  The contracts of flog.Log.anew and Compact.
-/
import Derived.Test.YtflcdgkckfcofaaGreatDoorFlogD
namespace Go.Proofs.YtflcdgkckfcofaaGreatDoor
open Go Go.Vc Go.Vc.Asn Go.Disk
section
variable {w0 w : World} {A F B : Asn} {us : Slc} {l : List Upd} {p q : Nat} {L : LogM} {D : DiskM} {bs : List UInt8} {data : Slc}
def LogM.turn (L : LogM) (q : Nat) (n : Nat) (e : Int) : LogM := if e = 0 then { L with slot := 1 - L.slot, q := some q, bytes := (n : Int) } else L
theorem c1_no {c1 c2 c3 c4 c5 : Addr} {Q : Ending → World → Prop} {v : Value} (h : w.cell? c1 = some (.bool false)) (hQ : Q (.returned v) w) : vc_flog_Log_anew_c1 c1 c2 c3 c4 c5 w (DK Q v) := by
  unfold vc_flog_Log_anew_c1
  exact ⟨false, h, fun h => (by cases h), fun _ => hQ⟩
theorem DK_ok {X : Value → World → Prop} {v x : Value} (h : X v w) : DK (Rt X) v (.returned x) w := (Rt.ok h : Rt X (.returned v) w)
theorem lanew_c (hs : L.slot < 2) (hB : BdS D.p bs.length 4) (hl : bs.length ≤ 1099511627776)
    (H : Hp w0 w (star (own Ty_uint8 1 data (bs.map u8v)) (star (logA p L) (star (diskA L.d D) F)))) :
    Calls PP F_flog_Log_anew #[.pointer (some (blk p)), data.v, .pointer (some (blk q))] w (Rt fun v w' => ErrV w' v (anewR D.p (1 - L.slot) bs).2 ∧ ∃ D', D'.p = (anewR D.p (1 - L.slot) bs).1 ∧
      Hp w0 w' (star (own Ty_uint8 1 data (bs.map u8v)) (star (logA p (L.turn q bs.length (anewR D.p (1 - L.slot) bs).2)) (star (diskA L.d D') F)))) := by
  refine sim_flog_Log_anew _ _ _ _ _ ?_
  unfold vc_flog_Log_anew
  have ho : 1 - L.slot < 2 := by omega
  refine H.new fun b5 w1 H => H.new fun b8 w2 H => H.new fun b11 w3 H => ⟨blk p, rfl, (L.slot : Int), logCell (H.take (logA p L)) rfl, ?_⟩
  have e1 : wr .i64 (1 - (L.slot : Int)) = ((1 - L.slot : Nat) : Int) := by rw [wr64 (by omega) (by omega)]; omega
  rw [e1]
  refine H.new fun b18 w4 H => ?_
  refine H.sto (b := b18) (i := 0) (by decide) fun w5 H => ?_
  refine H.new fun b25 w6 H => ?_
  refine H.sto (b := b25) (i := 0) (by decide) fun w7 H => ?_
  have H := H.drew 1
  refine ⟨some (blk p), H.cell (b := b5) (i := 0) rfl, blk p, rfl, some (blk L.d), logCell (H.take (logA p L)) rfl, ((1 - L.slot : Nat) : Int), H.cell (b := b18) (i := 0) rfl, ?_⟩
  have fin : ∀ {w' : World} {D' : DiskM} {L' : LogM} {x y : Array Value}, Hp w0 w' (star (diskA L.d D') (star (bk b25 Ty_bool x) (star (bk b18 Ty_int y) (star (bk b11 Ty_p_record_Writer #[.pointer (some (blk q))]) (star (bk b8 Ty_sl_uint8 #[data.v]) (star (bk b5 Ty_p_flog_Log #[.pointer (some (blk p))]) (star (own Ty_uint8 1 data (bs.map u8v)) (star (logA p L') F)))))))) →
      Hp w0 w' (star (own Ty_uint8 1 data (bs.map u8v)) (star (logA p L') (star (diskA L.d D') F))) := by
    intro w' D' L' x y H
    have H := (H.blk b25).drop
    have H := (H.blk b18).drop
    have H := (H.blk b11).drop
    have H := (H.blk b8).drop
    have H := (H.blk b5).drop
    exact (H.take (logA p L')).own data
  -- Wipe
  refine call (dWipe_c ho (hB.bd (Nat.zero_le _)) (H.take (diskA L.d D))) ?_
  rintro _ w8 ⟨rfl, D1, hD1, H⟩
  refine ⟨_, rfl, call where_c ?_⟩
  rintro ev1 w9 ⟨hE1, f1⟩
  have H := H.fr0 f1
  have er1 : (actR D.p (1 - L.slot) true (gWipe (1 - L.slot))).2 ≠ 0 → anewR D.p (1 - L.slot) bs = actR D.p (1 - L.slot) true (gWipe (1 - L.slot)) := fun h => by unfold anewR; rw [if_pos h]
  refine ⟨ev1, rfl, _, hE1.nilI, fun h1 => c1_no (H.cell (b := b25) (i := 0) rfl) (Rt.ok ?_), fun h1 => ?_⟩
  · have h1 : (actR D.p (1 - L.slot) true (gWipe (1 - L.slot))).2 ≠ 0 := by simpa using h1
    rw [er1 h1]
    refine ⟨hE1, D1, hD1, ?_⟩
    rw [show L.turn q bs.length (actR D.p (1 - L.slot) true (gWipe (1 - L.slot))).2 = L from if_neg h1]
    exact fin H
  have h1 : ¬ (actR D.p (1 - L.slot) true (gWipe (1 - L.slot))).2 ≠ 0 := by simpa using h1
  have hB1 : BdS (actR D.p (1 - L.slot) true (gWipe (1 - L.slot))).1 bs.length 3 := hB.act (n := bs.length) (k := 0) (m := 3) (gs_wipe ho)
  rw [← hD1] at hB1
  have H := H.drew 1
  refine ⟨some (blk p), H.cell (b := b5) (i := 0) rfl, blk p, rfl, some (blk L.d), logCell (H.take (logA p L)) rfl, ((1 - L.slot : Nat) : Int), H.cell (b := b18) (i := 0) rfl, data, H.cell (b := b8) (i := 0) rfl, ?_⟩
  -- Append
  refine call (dAppend_c ho (hB1.bd (Nat.le_refl _)) (H.cel (s := data)) hl (H.take (diskA L.d D1))) ?_
  rintro _ w10 ⟨rfl, D2, hD2, H⟩
  refine ⟨_, rfl, call where_c ?_⟩
  rintro ev2 w11 ⟨hE2, f2⟩
  have H := H.fr0 f2
  rw [hD1] at hD2 hE2
  have er2 : (actR (actR D.p (1 - L.slot) true (gWipe (1 - L.slot))).1 (1 - L.slot) false (gApp (1 - L.slot) bs)).2 ≠ 0 → anewR D.p (1 - L.slot) bs = actR (actR D.p (1 - L.slot) true (gWipe (1 - L.slot))).1 (1 - L.slot) false (gApp (1 - L.slot) bs) := fun h => by
    unfold anewR; rw [if_neg h1, if_pos h]
  refine ⟨ev2, rfl, _, hE2.nilI, fun h2 => c1_no (H.cell (b := b25) (i := 0) rfl) (Rt.ok ?_), fun h2 => ?_⟩
  · have h2 : (actR (actR D.p (1 - L.slot) true (gWipe (1 - L.slot))).1 (1 - L.slot) false (gApp (1 - L.slot) bs)).2 ≠ 0 := by simpa using h2
    rw [er2 h2]
    refine ⟨hE2, D2, hD2, ?_⟩
    rw [show L.turn q bs.length (actR (actR D.p (1 - L.slot) true (gWipe (1 - L.slot))).1 (1 - L.slot) false (gApp (1 - L.slot) bs)).2 = L from if_neg h2]
    exact fin H
  have h2 : ¬ (actR (actR D.p (1 - L.slot) true (gWipe (1 - L.slot))).1 (1 - L.slot) false (gApp (1 - L.slot) bs)).2 ≠ 0 := by simpa using h2
  rw [hD1] at hB1
  have hB2 : BdS (actR (actR D.p (1 - L.slot) true (gWipe (1 - L.slot))).1 (1 - L.slot) false (gApp (1 - L.slot) bs)).1 0 2 := BdS.act (n := 0) (m := 2) (by rw [Nat.zero_add]; exact hB1) (gs_app ho bs)
  rw [← hD2] at hB2
  have H := H.drew 1
  refine ⟨some (blk p), H.cell (b := b5) (i := 0) rfl, blk p, rfl, some (blk L.d), logCell (H.take (logA p L)) rfl, ((1 - L.slot : Nat) : Int), H.cell (b := b18) (i := 0) rfl, ?_⟩
  -- Sync
  refine call (dSync_c ho (hB2.bd (Nat.le_refl _)) (H.take (diskA L.d D2))) ?_
  rintro _ w12 ⟨rfl, D3, hD3, H⟩
  refine ⟨_, rfl, call where_c ?_⟩
  rintro ev3 w13 ⟨hE3, f3⟩
  have H := H.fr0 f3
  rw [hD2] at hD3 hE3
  generalize hr2 : actR (actR D.p (1 - L.slot) true (gWipe (1 - L.slot))).1 (1 - L.slot) false (gApp (1 - L.slot) bs) = r2 at *
  have er3 : (actR r2.1 (1 - L.slot) false (gSync (1 - L.slot))).2 ≠ 0 → anewR D.p (1 - L.slot) bs = actR r2.1 (1 - L.slot) false (gSync (1 - L.slot)) := fun h => by
    unfold anewR; rw [if_neg h1, hr2, if_neg h2, if_pos h]
  refine ⟨ev3, rfl, _, hE3.nilI, fun h3 => c1_no (H.cell (b := b25) (i := 0) rfl) (Rt.ok ?_), fun h3 => ?_⟩
  · have h3 : (actR r2.1 (1 - L.slot) false (gSync (1 - L.slot))).2 ≠ 0 := by simpa using h3
    rw [er3 h3]
    refine ⟨hE3, D3, hD3, ?_⟩
    rw [show L.turn q bs.length (actR r2.1 (1 - L.slot) false (gSync (1 - L.slot))).2 = L from if_neg h3]
    exact fin H
  have h3 : ¬ (actR r2.1 (1 - L.slot) false (gSync (1 - L.slot))).2 ≠ 0 := by simpa using h3
  rw [hD2] at hB2
  have hB3 : BdS (actR r2.1 (1 - L.slot) false (gSync (1 - L.slot))).1 0 1 := BdS.act (n := 0) (k := 0) (m := 1) hB2 (gs_sync ho)
  rw [← hD3] at hB3
  have H := H.drew 1
  refine ⟨some (blk p), H.cell (b := b5) (i := 0) rfl, blk p, rfl, some (blk L.d), logCell (H.take (logA p L)) rfl, ((1 - L.slot : Nat) : Int), H.cell (b := b18) (i := 0) rfl, ?_⟩
  -- Switch
  refine call (dSwitch_c ho (hB3.bd (Nat.le_refl _)) (H.take (diskA L.d D3))) ?_
  rintro _ w14 ⟨rfl, D4, hD4, H⟩
  refine ⟨_, rfl, call where_c ?_⟩
  rintro ev4 w15 ⟨hE4, f4⟩
  have H := H.fr0 f4
  rw [hD3] at hD4 hE4
  generalize hr3 : actR r2.1 (1 - L.slot) false (gSync (1 - L.slot)) = r3 at *
  have er4 : anewR D.p (1 - L.slot) bs = actR r3.1 (1 - L.slot) false (gSwitch (1 - L.slot)) := by
    unfold anewR; rw [if_neg h1, hr2, if_neg h2, hr3, if_neg h3]
  rw [er4]
  refine ⟨ev4, rfl, _, hE4.nilI, fun h4 => c1_no (H.cell (b := b25) (i := 0) rfl) (Rt.ok ?_), fun h4 => ?_⟩
  · have h4 : (actR r3.1 (1 - L.slot) false (gSwitch (1 - L.slot))).2 ≠ 0 := by simpa using h4
    refine ⟨hE4, D4, hD4, ?_⟩
    rw [show L.turn q bs.length (actR r3.1 (1 - L.slot) false (gSwitch (1 - L.slot))).2 = L from if_neg h4]
    exact fin H
  have h4 : (actR r3.1 (1 - L.slot) false (gSwitch (1 - L.slot))).2 = 0 := by simpa using h4
  refine H.sto (b := b25) (i := 0) (by decide) fun w16 H => ?_
  unfold vc_flog_Log_anew_c1
  refine ⟨true, H.cell (b := b25) (i := 0) rfl, fun _ => ?_, fun h => (by cases h)⟩
  refine ⟨some (blk p), H.cell (b := b5) (i := 0) rfl, some (blk p), H.cell (b := b5) (i := 0) rfl, some (blk p), H.cell (b := b5) (i := 0) rfl, ((1 - L.slot : Nat) : Int), H.cell (b := b18) (i := 0) rfl, some (blk q), H.cell (b := b11) (i := 0) rfl, data, H.cell (b := b8) (i := 0) rfl, blk p, rfl, ?_⟩
  have hdl := (H.cel (s := data)).lenM
  refine logSto (L' := { L with slot := 1 - L.slot }) (H.take (logA p L)) (by omega) rfl fun w17 H => ⟨blk p, rfl, ?_⟩
  refine logSto (L' := { L with slot := 1 - L.slot, q := some q }) H (by omega) rfl fun w18 H => ⟨blk p, rfl, ?_⟩
  refine logSto (L' := { L with slot := 1 - L.slot, q := some q, bytes := (bs.length : Int) }) H (by omega) (by rw [hdl]; rfl) fun w19 H => ?_
  refine DK_ok ?_
  rw [h4]
  refine ⟨.inl ⟨rfl, rfl⟩, D4, hD4, ?_⟩
  rw [show L.turn q bs.length 0 = { L with slot := 1 - L.slot, q := some q, bytes := (bs.length : Int) } from if_pos rfl]
  have H := (H.blk b25).drop
  have H := (H.blk b18).drop
  have H := (H.blk b11).drop
  have H := (H.blk b8).drop
  have H := (H.blk b5).drop
  exact H.own data
end
end Go.Proofs.YtflcdgkckfcofaaGreatDoor
