/-
  The contract of flog.Log.Compact.
-/
import Derived.Test.YtflcdgkckfcofaaGreatDoorFlogE
namespace Go.Proofs.YtflcdgkckfcofaaGreatDoor
open Go Go.Vc Go.Vc.Asn Go.Disk
section
variable {w0 w : World} {A F B : Asn} {us : Slc} {l : List Upd} {p q : Nat} {L : LogM} {D : DiskM} {x : List UInt8 × Int}
def LogM.bs (L : LogM) (l : List Upd) : List UInt8 := hBs L.n L.k L.dl L.s ++ logB (hLast L.n L.k L.dl L.s) (l.map Vc_up)
theorem bs_len (hm : mayHeadV L.n L.k L.dl L.s = 0) (hb : badU l = 0) : (L.bs l).length ≤ 41 + l.length * 66000 := by
  have h1 := hBs_len hm
  have h2 := logB_len (hLast L.n L.k L.dl L.s) (l.map Vc_up) (fun u hu => by obtain ⟨v, hv, rfl⟩ := List.mem_map.1 hu; exact badU_zero l hb v hv)
  rw [List.length_map] at h2
  unfold LogM.bs
  rw [List.length_append]
  omega
theorem lcompact_c (hG : GT w0) (hE : ErrG w0) (hU : UpsA w0 A us l) (hl : l.length ≤ 1048576) (hs : L.slot < 2)
    (hB : BdS D.p (41 + l.length * 66000) 4) (H : Hp w0 w (logW p q L x D (star A F))) :
    Calls PP F_flog_Log_Compact #[.pointer (some (blk p)), us.v] w (Rt fun v w' =>
      (L.broken ≠ 0 ∧ v = .int .i64 L.broken ∧ Hp w0 w' (logW p q L x D (star A F))) ∨
      (L.broken = 0 ∧ ∃ e, e ≠ 0 ∧ e = (if mayHeadV L.n L.k L.dl L.s ≠ 0 then mayHeadV L.n L.k L.dl L.s else badU l) ∧ v = .int .i64 e ∧ Hp w0 w' (logW p q L x D (star A F))) ∨
      (L.broken = 0 ∧ mayHeadV L.n L.k L.dl L.s = 0 ∧ badU l = 0 ∧ v = .int .i64 (anewR D.p (1 - L.slot) (L.bs l)).2 ∧ ∃ D', D'.p = (anewR D.p (1 - L.slot) (L.bs l)).1 ∧
        (((anewR D.p (1 - L.slot) (L.bs l)).2 = 0 ∧ ∃ q', Hp w0 w' (logW p q' { L with slot := 1 - L.slot, q := some q', bytes := ((L.bs l).length : Int) } (logLast (hLast L.n L.k L.dl L.s) (l.map Vc_up), (l.length : Int)) D' (star A F))) ∨
         ((anewR D.p (1 - L.slot) (L.bs l)).2 ≠ 0 ∧ Hp w0 w' (logW p q { L with broken := (anewR D.p (1 - L.slot) (L.bs l)).2 } x D' (star A F)))))) := by
  refine sim_flog_Log_Compact _ _ _ _ ?_
  unfold vc_flog_Log_Compact
  refine ⟨fun h => by simp at h, fun _ => ⟨_, rfl, L.broken, logCell H rfl, fun h => ⟨L.broken, logCell H rfl, Rt.ok (.inl ⟨by simpa using h, rfl, H⟩)⟩, fun h => ?_⟩⟩
  have hbr : L.broken = 0 := by simpa using h
  refine ⟨L.n, logCell (p := p) (k := 1) H rfl, L.k, logCell (p := p) (k := 2) H rfl, L.dl, logCell (p := p) (k := 3) H rfl, L.s, logCell (p := p) (k := 4) H rfl, ?_⟩
  have back : ∀ {w' : World}, Hp w0 w' (star A (star (logA p L) (star (PW q x) (star (diskA L.d D) F)))) → Hp w0 w' (logW p q L x D (star A F)) := fun H => ((H.take (diskA L.d D)).take (PW q x)).take (logA p L)
  refine call (made_c hG hU hl (H.take A)) ?_
  rintro _ w1 (⟨e, ev, h0, he, rfl, hEv, H⟩ | ⟨hm, hb, q', z, rfl, H⟩)
  · refine ⟨_, _, _, rfl, _, hEv.nilI, fun _ => call (lnumber_c (hE.fr0 H.fr) hEv) ?_, fun h' => absurd (by simpa using h') h0⟩
    rintro _ w2 ⟨rfl, f2⟩
    exact ⟨_, rfl, Rt.ok (.inr (.inl ⟨hbr, e, h0, he, rfl, back (H.fr0 f2)⟩))⟩
  · refine ⟨_, _, _, rfl, true, .inl ⟨rfl, rfl⟩, fun h' => (by cases h'), fun _ => ?_⟩
    have hlen := bs_len (L := L) (l := l) hm hb
    have hlm : l.length * 66000 ≤ 1048576 * 66000 := Nat.mul_le_mul (by omega) (Nat.le_refl _)
    have H : Hp w0 w1 (star (own Ty_uint8 1 z ((L.bs l).map u8v)) (star (PW q' (logLast (hLast L.n L.k L.dl L.s) (l.map Vc_up), (l.length : Int))) (star A (star (logA p L) (star (PW q x) (star (diskA L.d D) F)))))) := H
    refine call (lanew_c (q := q') hs (hB.le hlen (Nat.le_refl _)) (by omega) (((H.take (diskA L.d D)).take (logA p L)).own z)) ?_
    rintro ev w2 ⟨hEv, D1, hD1, H⟩
    refine ⟨ev, rfl, _, hEv.nilI, fun h1 => ?_, fun h1 => ?_⟩
    · have h1 : (anewR D.p (1 - L.slot) (L.bs l)).2 ≠ 0 := by simpa using h1
      rw [show L.turn q' (L.bs l).length (anewR D.p (1 - L.slot) (L.bs l)).2 = L from if_neg h1] at H
      refine call (lfailed_c hE hEv (H.take (logA p L))) ?_
      rintro _ w3 ⟨rfl, H⟩
      refine ⟨_, rfl, Rt.ok (.inr (.inr ⟨hbr, hm, hb, rfl, D1, hD1, .inr ⟨h1, ?_⟩⟩))⟩
      have H := (H.own z).drop
      have H := (H.take (PW q' (logLast (hLast L.n L.k L.dl L.s) (l.map Vc_up), (l.length : Int)))).drop
      have H := H.take A
      exact ((H.take (diskA L.d D1)).take (PW q x)).take (logA p _)
    · have h1 : (anewR D.p (1 - L.slot) (L.bs l)).2 = 0 := by simpa using h1
      rw [show L.turn q' (L.bs l).length (anewR D.p (1 - L.slot) (L.bs l)).2 = { L with slot := 1 - L.slot, q := some q', bytes := ((L.bs l).length : Int) } from if_pos h1] at H
      refine Rt.ok (.inr (.inr ⟨hbr, hm, hb, by rw [h1], D1, hD1, .inl ⟨h1, q', ?_⟩⟩))
      have H := (H.own z).drop
      have H := (H.take (PW q x)).drop
      have H := H.take A
      exact ((H.take (diskA L.d D1)).take (PW q' (logLast (hLast L.n L.k L.dl L.s) (l.map Vc_up), (l.length : Int)))).take (logA p _)
end
end Go.Proofs.YtflcdgkckfcofaaGreatDoor
