/-
  Contract: stripe.Join.
-/
import Derived.Test.YteoeboeaanjehaaDoorStrW
namespace Go.Proofs.YteoeboeaanjehaaDoor
open Go Go.Vc Go.Vc.Asn Go.Gf
/-- Why parts are not joined. -/
def JErr (n k : Nat) (R : List (List UInt8)) (ps : List Pt) (e : Int) : Prop :=
  (refusedV n k ps ≠ 0 ∧ e = refusedV n k ps) ∨ (refusedV n k ps = 0 ∧ e = 26 ∧ ∀ D l, Shp D k l → ¬ Agrees R D l (prs ps)) ∨
  (refusedV n k ps = 0 ∧ ∃ D l, Shp D k l ∧ (∀ p ∈ ps, p.bs.length = l) ∧ Agrees R D l (prs ps) ∧ wholeV D k l = .inl e)
def JoinPost (n k : Nat) (R : List (List UInt8)) (ps : List Pt) (w : World) (v : Value) (w' : World) : Prop :=
  (∃ e, e ≠ 0 ∧ v = .tuple #[Slc.nil.v, .int .i64 e] ∧ JErr n k R ps e ∧ Fr [] w w') ∨
  (∃ o D l x, v = .tuple #[Slc.v o, .int .i64 0] ∧ refusedV n k ps = 0 ∧ Shp D k l ∧ (∀ p ∈ ps, p.bs.length = l) ∧ Agrees R D l (prs ps) ∧ wholeV D k l = .inr x ∧ Hp w w' (star (own Ty_uint8 1 o (x.map u8v)) emp))
section
variable {w0 w : World} {F : Asn} {s p : Slc} {rs : Rws} {g n k q : Nat} {ps : List Pt}
theorem wholeV_ne {D : List (List UInt8)} {k l : Nat} {e : Int} (h : wholeV D k l = .inl e) : e ≠ 0 := by
  unfold wholeV at h
  split at h
  · injection h with h; omega
  · split at h
    · injection h with h; omega
    · split at h
      · injection h with h; omega
      · cases h
theorem is_any {v : Value} {e : Int} (hE : ErrV w v e) : Calls PP F_errors_Is #[v, .iface 32 (.int .i64 20)] w (Rt fun x w' => (∃ b : Bool, x = .bool b ∧ (b = true → e ≠ 0)) ∧ w' = w) := by
  rcases hE with ⟨rfl, rfl⟩ | ⟨h0, c, rfl, hc⟩
  · refine (is_nil _ w).mono ?_
    rintro ev w' ⟨rfl, rfl⟩
    exact ⟨⟨false, rfl, fun h => by simp at h⟩, rfl⟩
  · refine (is_wrap c e 20 w hc).mono ?_
    rintro ev w' ⟨rfl, rfl⟩
    exact ⟨⟨_, rfl, fun _ => h0⟩, rfl⟩
theorem join_c (hG : ErrG w) (hC : RdCode w q g s rs n k) (hP : RdP w p ps) (hl : ps.length ≤ 1099511627776) (hbl : ∀ r ∈ ps, r.bs.length ≤ 16777216) :
    Calls PP F_stripe_Join #[.pointer (some (blk q)), p.v] w (Rt (JoinPost n k (mt rs) ps w)) := by
  refine sim_stripe_Join _ _ _ _ ?_
  unfold vc_stripe_Join
  have hk := hC.hk
  have hkn := hC.hkn
  have hn := hC.hn
  refine ⟨fun h => by simp at h, fun _ => call (decode_c hC hP hl hbl) ?_⟩
  rintro v w1 (⟨h0, rfl, f1⟩ | ⟨h0, D, l, hS, hpl, hA, o, os, rfl, hm, H⟩ | ⟨h0, rfl, f1, hno⟩)
  · refine ⟨_, _, rfl, call why_c ?_⟩
    rintro ev w2 ⟨hE, f2⟩
    refine ⟨ev, rfl, call (is_any hE) ?_⟩
    rintro _ w3 ⟨⟨b, rfl, hb⟩, rfl⟩
    refine ⟨b, rfl, true, fun _ => ⟨false, ?_, rfl⟩, fun _ => rfl, fun _ => call (number_c ((hG.fr0 f1).fr0 f2) hE) ?_, fun h => by simp at h⟩
    · rcases hE with ⟨e0, _⟩ | ⟨_, c, rfl, _⟩
      · exact absurd e0 h0
      · exact .inr ⟨⟨_, _, rfl⟩, rfl⟩
    · rintro _ w4 ⟨rfl, f4⟩
      exact ⟨_, rfl, Rt.ok (.inl ⟨_, h0, rfl, .inl ⟨h0, rfl⟩, f1.then_ (f2.then_ f4)⟩)⟩
  · refine ⟨_, _, rfl, call why_c ?_⟩
    rintro ev w2 ⟨hE, f2⟩
    have hev : ev = .nilIface := by
      rcases hE with ⟨_, h⟩ | ⟨h, _⟩
      · exact h
      · exact absurd rfl h
    subst hev
    refine ⟨_, rfl, call (is_any hE) ?_⟩
    rintro _ w3 ⟨⟨b, rfl, hb⟩, rfl⟩
    have hbf : b = false := by
      cases b with
      | false => rfl
      | true => exact absurd rfl (hb rfl)
    subst hbf
    refine ⟨false, rfl, false, fun _ => ⟨true, .inl ⟨rfl, rfl⟩, rfl⟩, fun h => by simp at h, fun h => by simp at h, fun _ => ?_⟩
    have H2 := H.fr0 f2
    subst hm
    have hpos : 0 < ps.length := by have := (refused0 h0).2.2.2; omega
    have hl16 : l ≤ 16777216 := by
      have h1 := hpl _ (List.getElem_mem hpos)
      have h2 := hbl _ (List.getElem_mem hpos)
      omega
    refine call (whole_c (rdR H2.assoc) hS hk (by omega) hl16) ?_
    rintro _ w4 ⟨o2, ev2, rfl, hW⟩
    cases hV : wholeV (mt os) k l with
    | inl e =>
      rw [hV] at hW
      obtain ⟨rfl, hE2, he, f4⟩ := hW
      refine ⟨_, _, rfl, call (number_c (hG.fr0 (H2.fr.then_ f4)) hE2) ?_⟩
      rintro _ w5 ⟨rfl, f5⟩
      exact ⟨_, rfl, Rt.ok (.inl ⟨e, he, rfl, .inr (.inr ⟨h0, _, l, hS, hpl, hA, hV⟩), H2.fr.then_ (f4.then_ f5)⟩)⟩
    | inr x =>
      rw [hV] at hW
      obtain ⟨rfl, H4⟩ := hW
      refine ⟨_, _, rfl, call (number_c (e := 0) (hG.fr0 (H2.fr.then_ H4.fr)) (.inl ⟨rfl, rfl⟩)) ?_⟩
      rintro _ w5 ⟨rfl, f5⟩
      exact ⟨_, rfl, Rt.ok (.inr ⟨o2, _, l, x, rfl, h0, hS, hpl, hA, hV, Hp.from H2.fr (H4.fr0 f5)⟩)⟩
  · refine ⟨_, _, rfl, call why_c ?_⟩
    rintro ev w2 ⟨hE, f2⟩
    refine ⟨ev, rfl, call (is_any hE) ?_⟩
    rintro _ w3 ⟨⟨b, rfl, hb⟩, rfl⟩
    refine ⟨b, rfl, true, fun _ => ⟨false, ?_, rfl⟩, fun _ => rfl, fun _ => call (number_c ((hG.fr0 f1).fr0 f2) hE) ?_, fun h => by simp at h⟩
    · rcases hE with ⟨e0, _⟩ | ⟨_, c, rfl, _⟩
      · exact absurd e0 (by decide)
      · exact .inr ⟨⟨_, _, rfl⟩, rfl⟩
    · rintro _ w4 ⟨rfl, f4⟩
      exact ⟨_, rfl, Rt.ok (.inl ⟨26, by decide, rfl, .inr (.inl ⟨h0, rfl, hno⟩), f1.then_ (f2.then_ f4)⟩)⟩
end
end Go.Proofs.YteoeboeaanjehaaDoor
