/-
  Contract of TablePlays, its steps.
-/
import Derived.Test.YtgnceldnfefnmaaGreatPlays
namespace Go.Tab
open Go Go.Vc
def two (k : Nat) (a b : Value) : Array Value := if k = 0 then #[a, b] else #[b, a]
theorem two_size {k : Nat} {a b : Value} : (two k a b).size = 2 := by unfold two; split <;> rfl
theorem two_at {k : Nat} {a b : Value} (h : k < 2) : (two k a b)[k]? = some a := by
  match k, h with
  | 0, _ => rfl
  | 1, _ => rfl
theorem two_set {k : Nat} {a b c : Value} (h : k < 2) : (two k a b).setIfInBounds (1 - k) c = two k a c := by
  match k, h with
  | 0, _ => rfl
  | 1, _ => rfl
theorem two_flip {k : Nat} {a b : Value} (h : k < 2) : two (1 - k) b a = two k a b := by
  match k, h with
  | 0, _ => rfl
  | 1, _ => rfl
end Go.Tab
namespace Go.Proofs.YtgnceldnfefnmaaGreat
open Go Go.Vc Go.Vc.Asn Go.Tab Go.Sort
section
variable {w0 w : World} {F F' : Asn} {m : Nat} {x : Option Sl}
theorem Okm.up (hx : Okm m x) : Okm (m + 1) x := by
  cases x with
  | none => trivial
  | some x => exact ⟨hx.1, by have := hx.2; omega⟩
set_option maxHeartbeats 2000000 in
theorem plays_c {o : Opn} (hx : Okm m x) (hm : m ≤ 1073741824) (hb : Byt w0 o.u.s o.u.data) (hbl : o.u.data.length ≤ 549755813888) (H : Hp w0 w (star (slotA x) F)) :
    Calls PP F_sherdlaw15_plays #[.pointer (tpv x), .pointer (rpv x), .agg o.c.toArray] w (Rt fun v w' => v = .bool true ∧ ∃ y, Okm (m + 1) y ∧ tpv y = tpv x ∧ rpv y = rpv x ∧ Hp w0 w' (star (slotA y) F)) := by
  refine sim_sherdlaw15_plays _ _ _ _ _ _ _ _ _ _ _ _ _ _ _ _ _ ?_
  unfold vc_sherdlaw15_plays
  refine H.new fun b17 w1 H => ?_
  refine ⟨fun b w' => b = (decide (o.kind = 0) || decide (o.kind = 1)) ∧ Hp w0 w' (star (bk b17 Ty_sherdlaw15_Op o.c.toArray) (star (slotA x) F)), ⟨fun h => ⟨by rw [h]; rfl, H⟩, fun h => ⟨by rw [h]; rfl, H⟩⟩, ?_⟩
  rintro _ w2 ⟨rfl, H⟩
  refine ⟨fun h => ?_, fun h => ⟨fun h2 => ?_, fun h2 => ⟨fun h3 => ?_, fun h3 => ?_⟩⟩⟩
  · refine ⟨_, H.cell (b := b17) (i := 0) rfl, _, H.cell (b := b17) (i := 1) rfl, _, H.cell (b := b17) (i := 2) rfl, _, H.cell (b := b17) (i := 3) rfl, _, H.cell (b := b17) (i := 4) rfl, _, H.cell (b := b17) (i := 5) rfl, _, H.cell (b := b17) (i := 6) rfl, _, H.cell (b := b17) (i := 7) rfl, _, H.cell (b := b17) (i := 8) rfl, _, H.cell (b := b17) (i := 9) rfl, _, H.cell (b := b17) (i := 10) rfl, _, H.cell (b := b17) (i := 11) rfl, _, H.cell (b := b17) (i := 12) rfl, call (does_c (o := o) hx hm hb hbl H.drop) ?_⟩
    rintro _ w3 ⟨rfl, y, hy, e1, e2, H⟩
    exact ⟨_, rfl, Rt.ok ⟨rfl, y, hy, e1, e2, H⟩⟩
  · refine ⟨_, H.cell (b := b17) (i := 9) rfl, _, H.cell2 (b := b17) (i := 10) (j := 0) rfl, _, H.cell2 (b := b17) (i := 10) (j := 1) rfl, call (t_get (k := o.key) (t := o.tag) hx hm (H.take (slotA x))) ?_⟩
    rintro _ w3 ⟨ea, rfl, hea, H⟩
    refine ⟨_, _, _, _, _, _, rfl, H.new fun b76 w4 H => H.stoAll (b := b76) (by rfl) fun w5 H => ⟨_, H.cell (b := b17) (i := 9) rfl, _, H.cell2 (b := b17) (i := 10) (j := 0) rfl, _, H.cell2 (b := b17) (i := 10) (j := 1) rfl, call (r_get (k := o.key) (t := o.tag) hx hm (H.take (slotA x))) ?_⟩⟩
    rintro _ w6 ⟨eb, rfl, heb, H⟩
    refine ⟨_, _, _, _, _, _, rfl, H.new fun b94 w7 H => H.stoAll (b := b94) (by rfl) fun w8 H => ?_⟩
    refine ⟨fun b w' => b = false ∧ Hp w0 w' (star (bk b17 Ty_sherdlaw15_Op o.c.toArray) (star (slotA x) F)), ⟨fun h => by simp at h, fun _ => ?_⟩, ?_⟩
    · have H := H.drew 1
      refine ⟨_, H.cell (b := b76) (i := 0) rfl, _, H.cell (b := b76) (i := 1) rfl, _, H.cell (b := b76) (i := 2) rfl, _, H.cell (b := b76) (i := 3) rfl, _, H.cell (b := b76) (i := 4) rfl, _, H.cell (b := b94) (i := 0) rfl, _, H.cell (b := b94) (i := 1) rfl, _, H.cell (b := b94) (i := 2) rfl, _, H.cell (b := b94) (i := 3) rfl, _, H.cell (b := b94) (i := 4) rfl, call (sameEntry_c (a := ea) (b := eb) (Hp.cel (s := ea.s) (size := 1) (H.take (own Ty_uint8 1 ea.s (ea.data.map u8v)))) (Hp.cel (s := eb.s) (size := 1) (H.take (own Ty_uint8 1 eb.s (eb.data.map u8v))))) ?_⟩
      rintro _ w9 ⟨rfl, f⟩
      have H := H.fr0 f
      rw [hea, heb]
      have H := ((((H.blk b94).drop.own eb.s).drop.blk b76).drop.own ea.s).drop
      have H := (H.take (slotA x)).blk b17
      refine ⟨_, rfl, fun h => by simp at h, fun _ => ⟨_, H.cell (b := b17) (i := 9) rfl, _, H.cell (b := b17) (i := 9) rfl, call (t_top (k := o.key) hx hm (H.take (slotA x))) ?_⟩⟩
      rintro _ w10 ⟨rfl, H⟩
      refine ⟨_, _, rfl, H.cell (b := b17) (i := 9) rfl, call (r_top (k := o.key) hx hm H) ?_⟩
      rintro _ w11 ⟨rfl, H⟩
      refine ⟨_, _, rfl, fun h => by simp at h, fun _ => ⟨_, H.cell (b := b17) (i := 9) rfl, _, H.cell (b := b17) (i := 9) rfl, call (t_floor (k := o.key) hx hm H) ?_⟩⟩
      rintro _ w12 ⟨rfl, H⟩
      refine ⟨_, _, rfl, H.cell (b := b17) (i := 9) rfl, call (r_floor (k := o.key) hx hm H) ?_⟩
      rintro _ w13 ⟨rfl, H⟩
      exact ⟨_, _, rfl, by simp, H.blk b17⟩
    rintro _ w9 ⟨rfl, H⟩
    refine ⟨fun h => by simp at h, fun _ => ?_⟩
    refine ⟨fun b w' => b = true ∧ Hp w0 w' (star (slotA x) F), ?_, ?_⟩
    · have H := H.drew 1
      refine ⟨_, H.cell (b := b17) (i := 9) rfl, _, H.cell (b := b17) (i := 9) rfl, call (t_frag (k := o.key) hx hm (H.take (slotA x))) ?_⟩
      rintro _ w10 ⟨rfl, H⟩
      refine ⟨_, rfl, H.cell (b := b17) (i := 9) rfl, call (r_frag (k := o.key) hx hm H) ?_⟩
      rintro _ w11 ⟨rfl, H⟩
      refine ⟨_, rfl, fun _ => ⟨_, H.cell (b := b17) (i := 9) rfl, _, H.cell (b := b17) (i := 9) rfl, call (t_entries (k := o.key) hx hm H) ?_⟩, fun h => by simp at h⟩
      rintro _ w12 ⟨sa, xa, rfl, hab, hal, H⟩
      refine ⟨_, rfl, H.cell (b := b17) (i := 9) rfl, call (r_entries (k := o.key) hx hm (H.take (slotA x))) ?_⟩
      rintro _ w13 ⟨sb, xb, rfl, hbb, H⟩
      refine ⟨_, rfl, call (sameEntries_c (RdE.ents (es := xa)) (RdE.ents (es := xb)) hal H) ?_⟩
      rintro _ w14 ⟨rfl, H⟩
      exact ⟨_, rfl, by rw [hab, hbb]; simp, (((H.take (entsA sb xb)).drop.take (entsA sa xa)).drop.blk b17).drop⟩
    · rintro _ w10 ⟨rfl, H⟩
      exact Rt.ok ⟨rfl, x, hx.up, rfl, rfl, H⟩
  · refine call (tells_c hx hm H.drop) ?_
    rintro _ w3 ⟨rfl, H⟩
    exact ⟨_, rfl, Rt.ok ⟨rfl, x, hx.up, rfl, rfl, H⟩⟩
  · exact Rt.ok ⟨rfl, x, hx.up, rfl, rfl, H.drop⟩
abbrev duoA (k b5 b9 : Nat) (A B : Option Sl) : Asn := star (bk b5 Ty_2_p_table_Table (two k (.pointer (tpv A)) (.pointer (tpv B)))) (star (bk b9 Ty_2_p_sherdref15_Table (two k (.pointer (rpv A)) (.pointer (rpv B)))) (star (slotA A) (star (slotA B) emp)))
theorem duo_flip {k b5 b9 : Nat} {A B : Option Sl} (hk : k < 2) : Ent (duoA k b5 b9 A B) (duoA (1 - k) b5 b9 B A) := by
  unfold duoA
  rw [two_flip hk, two_flip hk]
  exact Ent.star (Ent.refl _) (Ent.star (Ent.refl _) left)
abbrev midA (k b5 b9 : Nat) (A B C : Option Sl) : Asn := star (bk b5 Ty_2_p_table_Table (two k (.pointer (tpv A)) (.pointer (tpv C)))) (star (bk b9 Ty_2_p_sherdref15_Table (two k (.pointer (rpv A)) (.pointer (rpv B)))) (star (slotA C) (star (slotA A) emp)))
theorem put_t {k b5 b9 : Nat} {A B C : Option Sl} (hk : k < 2) (H : Hp w0 w (star (slotA C) (duoA k b5 b9 A B))) {K : World → Prop} (h : ∀ w', Hp w0 w' (midA k b5 b9 A B C) → K w') : Sto w ((blk b5).add (1 - k)) (.pointer (tpv C)) K := by
  refine H.sto (b := b5) (i := 1 - k) (by rw [two_size]; omega) fun w1 H => h w1 ?_
  rw [two_set hk] at H
  have H : Hp w0 w1 (star (slotA B) (star (bk b5 Ty_2_p_table_Table (two k (.pointer (tpv A)) (.pointer (tpv C)))) (star (slotA C) (star (bk b9 Ty_2_p_sherdref15_Table (two k (.pointer (rpv A)) (.pointer (rpv B)))) (star (slotA A) emp))))) := H.ent (((Ent.star (Ent.refl _) (Ent.star (Ent.refl _) (Ent.star (Ent.refl _) left))).trans (Ent.star (Ent.refl _) (Ent.star (Ent.refl _) left))).trans ((Ent.star (Ent.refl _) left).trans left))
  exact H.drop.ent (Ent.star (Ent.refl _) left)
theorem put_r {k b5 b9 : Nat} {A B C : Option Sl} (hk : k < 2) (H : Hp w0 w (midA k b5 b9 A B C)) {K : World → Prop} (h : ∀ w', Hp w0 w' (duoA k b5 b9 A C) → K w') : Sto w ((blk b9).add (1 - k)) (.pointer (rpv C)) K := by
  refine H.sto (b := b9) (i := 1 - k) (by rw [two_size]; omega) fun w1 H => h w1 ?_
  rw [two_set hk] at H
  exact (H.blk b5).ent (Ent.star (Ent.refl _) (Ent.star (Ent.refl _) left))
theorem duo_any {k b5 b9 : Nat} {A B : Option Sl} {P : Asn} (hk : k < 2) (hA : Okm m A) (hB : Okm m B) (H : Hp w0 w (star P (duoA 0 b5 b9 A B))) : ∃ X Y, Okm m X ∧ Okm m Y ∧ Hp w0 w (star P (duoA k b5 b9 X Y)) := by
  match k, hk with
  | 0, _ => exact ⟨A, B, hA, hB, H⟩
  | 1, _ => exact ⟨B, A, hB, hA, H.ent (Ent.star (Ent.refl _) (duo_flip (k := 0) (by omega)))⟩
theorem duo_back {k b5 b9 : Nat} {X Z : Option Sl} (hk : k < 2) (hX : Okm m X) (hZ : Okm m Z) (H : Hp w0 w (duoA k b5 b9 X Z)) : ∃ A B, Okm m A ∧ Okm m B ∧ Hp w0 w (duoA 0 b5 b9 A B) := by
  match k, hk with
  | 0, _ => exact ⟨X, Z, hX, hZ, H⟩
  | 1, _ => exact ⟨Z, X, hZ, hX, H.ent (duo_flip (k := 1) (by omega))⟩
def freshS (p g q n : Nat) : Sl := ⟨p, ⟨n, g, []⟩, q, ⟨n, Slc.nil, []⟩, ⟨n, 0, []⟩, n, fun _ _ => [], fun _ => [], fun _ => []⟩
theorem fresh_ok {p g q n : Nat} (hn : (n : Int) ≤ 4611686018427387903) : Okm m (some (freshS p g q n)) :=
  ⟨⟨TbOk.new n _ g, ⟨TbOk.new n _ 0, ⟨rfl, fun k => rfl⟩, fun k t => Nat.zero_le _, hn⟩⟩, Nat.zero_le _⟩
theorem opn_len (o : Opn) : o.c.length = 13 := rfl
set_option maxHeartbeats 4000000 in
theorem tablePlays_c {s : Slc} {os : List Opn} (d : Int) (hM : Cel w s 13 (os.flatMap Opn.c)) (hl : os.length ≤ 1073741824) (hD : ∀ o ∈ os, Byt w o.u.s o.u.data ∧ o.u.data.length ≤ 549755813888) :
    Calls PP F_sherdlaw15_TablePlays #[.int .i64 d, s.v] w (Rt fun v w' => v = .bool true ∧ Fr [] w w') := by
  have hsl := hM.flen opn_len (by decide)
  refine sim_sherdlaw15_TablePlays _ _ _ _ ?_
  unfold vc_sherdlaw15_TablePlays
  refine (Hp.start w).new fun b5 w1 H => H.new fun b9 w2 H => ?_
  have h0 : Hp w w2 (duoA 0 b5 b9 none none) := (H.blk b9).blk b5 |>.ent (Ent.star (Ent.refl _) (Ent.star (Ent.refl _) (emp_l.trans (Ent.star (Ent.refl _) emp_l))))
  refine ⟨fun i w' => ∃ (j : Nat) (A B : Option Sl), i = (j : Int) ∧ j ≤ 2 ∧ Okm 0 A ∧ Okm 0 B ∧ Hp w w' (duoA 0 b5 b9 A B), fun i _ => 2 - i.toNat, ⟨0, none, none, rfl, by omega, trivial, trivial, h0⟩, ?_⟩
  clear H h0
  rintro _ w3 ⟨j, A, B, rfl, hj, hA, hB, H⟩
  refine ⟨fun h => ?_, fun h => ?_⟩
  · have hj2 : j < 2 := by simp only [decide_eq_true_eq] at h; omega
    have ewr : wr .i64 ((j : Int) + 1) = ((j + 1 : Nat) : Int) := by rw [wr64 (by omega) (by omega)]; omega
    -- what is set: the slot at j
    obtain ⟨A1, B1, hA1, hB1, H⟩ : ∃ A1 B1, Okm 0 A1 ∧ Okm 0 B1 ∧ Hp w w3 (duoA (1 - j) b5 b9 A1 B1) := by
      match j, hj2 with
      | 0, _ => exact ⟨B, A, hB, hA, H.ent (duo_flip (by omega))⟩
      | 1, _ => exact ⟨A, B, hA, hB, H⟩
    have hjj : 1 - (1 - j) = j := by omega
    have hback : ∀ C w', Okm 0 C → Hp w w' (duoA (1 - j) b5 b9 A1 C) → ∃ A B, Okm 0 A ∧ Okm 0 B ∧ Hp w w' (duoA 0 b5 b9 A B) := fun C w' hC H => by
      match j, hj2 with
      | 0, _ => exact ⟨C, A1, hC, hA1, H.ent (duo_flip (by omega))⟩
      | 1, _ => exact ⟨A1, C, hA1, hC, H⟩
    have ej : (j : Int).toNat * 1 = 1 - (1 - j) := by omega
    refine call (rnew_r d) ?_
    rintro _ w4 hr
    rcases hr with ⟨hd, rfl, f⟩ | ⟨hd, q, rfl, K⟩
    · have H := H.fr0 f
      refine ⟨_, _, rfl, call (tnew_c d) ?_⟩
      rintro _ w5 (⟨_, rfl, f⟩ | ⟨hd2, _⟩)
      rotate_left
      · exfalso; omega
      have H := H.fr0 f
      refine ⟨_, _, rfl, fun h => by simp at h, fun _ => ⟨by omega, by omega, ?_⟩⟩
      rw [ej]
      refine put_t (C := none) (by omega) (nope H) fun w6 H => ⟨by omega, by omega, put_r (C := none) (by omega) H fun w7 H => ?_⟩
      obtain ⟨A2, B2, k1, k2, k3⟩ := hback none w7 trivial H
      exact ⟨⟨j + 1, A2, B2, by rw [ewr], by omega, k1, k2, k3⟩, by dsimp only; rw [ewr]; omega⟩
    · have H := H.join K
      refine ⟨_, _, rfl, call (tnew_c d) ?_⟩
      rintro _ w5 (⟨hd2, _⟩ | ⟨_, p, g, rfl, K⟩)
      · exfalso; omega
      obtain ⟨n, rfl⟩ := Int.eq_ofNat_of_zero_le hd.1
      have H := H.join K
      refine ⟨_, _, rfl, fun h => by simp at h, fun _ => ⟨by omega, by omega, ?_⟩⟩
      rw [ej]
      refine put_t (C := some (freshS p g q n)) (by omega) H.assoc' fun w6 H => ⟨by omega, by omega, put_r (C := some (freshS p g q n)) (by omega) H fun w7 H => ?_⟩
      obtain ⟨A2, B2, k1, k2, k3⟩ := hback _ w7 (fresh_ok hd.2) H
      exact ⟨⟨j + 1, A2, B2, by rw [ewr], by omega, k1, k2, k3⟩, by dsimp only; rw [ewr]; omega⟩
  -- the script
  refine ⟨fun i w' => ∃ (j : Nat) (A B : Option Sl), i = (j : Int) ∧ j ≤ os.length ∧ Okm j A ∧ Okm j B ∧ Hp w w' (duoA 0 b5 b9 A B), fun i _ => os.length - i.toNat, ⟨0, A, B, rfl, Nat.zero_le _, hA, hB, H⟩, ?_⟩
  clear h hj hA hB H A B j w3
  rintro _ w3 ⟨j, A, B, rfl, hj, hA, hB, H⟩
  refine ⟨fun h => ?_, fun h => ?_⟩
  rotate_left
  · refine ⟨_, H.cell (b := b5) (i := 0) rfl, _, H.cell (b := b9) (i := 0) rfl, call (tells_c hA (by omega) (H.take (slotA A))) ?_⟩
    rintro _ w4 ⟨rfl, H⟩
    refine ⟨_, rfl, fun b w' => b = true ∧ Fr [] w w', ⟨fun _ => ⟨_, H.cell (b := b5) (i := 1) rfl, _, H.cell (b := b9) (i := 1) rfl, call (tells_c hB (by omega) (H.take (slotA B))) ?_⟩, fun h => by simp at h⟩, ?_⟩
    · rintro _ w5 ⟨rfl, H⟩
      exact ⟨_, rfl, rfl, H.fr⟩
    rintro _ w5 ⟨rfl, f⟩
    refine ⟨fun b w' => b = true ∧ Fr [] w w', ⟨fun _ => call taken_c ?_, fun h => by simp at h⟩, fun b w' h => Rt.ok ⟨by rw [h.1], h.2⟩⟩
    rintro _ w6 ⟨rfl, f2⟩
    exact ⟨_, rfl, rfl, f.then_ f2⟩
  have hlt : j < os.length := by rw [hsl] at h; simp only [decide_eq_true_eq] at h; omega
  have hxo : os[j]? = some os[j] := List.getElem?_eq_getElem hlt
  have hmo : os[j] ∈ os := List.getElem_mem _
  have ewr : wr .i64 ((j : Int) + 1) = ((j + 1 : Nat) : Int) := by rw [wr64 (by omega) (by omega)]; omega
  obtain ⟨a, ha, hc⟩ := Cel.elem (enc := Opn.c) opn_len (hM.fr0 H.fr) hxo (by decide)
  generalize os[j] = o at *
  obtain ⟨hob, hobl⟩ := hD o hmo
  refine ⟨fun w' => ∃ A B, Okm (j + 1) A ∧ Okm (j + 1) B ∧ Hp w w' (duoA 0 b5 b9 A B), ?_, fun w4 ⟨A, B, h1, h2, H⟩ => ⟨⟨j + 1, A, B, by rw [ewr], by omega, h1, h2, H⟩, by dsimp only; rw [ewr]; omega⟩⟩
  have hk1 := modI_lo o.t (m := 2) (by decide)
  have hk2 := modI_hi o.t (m := 2) (by decide)
  refine ⟨a, ha, by omega, by omega, _, hc 0 _ rfl, _, hc 1 _ rfl, _, hc 2 _ rfl, _, hc 3 _ rfl, _, hc 4 _ rfl, _, hc 5 _ rfl, _, hc 6 _ rfl, _, hc 7 _ rfl, _, hc 8 _ rfl, _, hc 9 _ rfl, _, hc 10 _ rfl, _, hc 11 _ rfl, _, hc 12 _ rfl, H.new fun b100 w4 H => H.stoAll (b := b100) (by rfl) fun w5 H => ⟨_, H.cell (b := b100) (i := 1) rfl, _, H.cell (b := b100) (i := 0) rfl, ?_⟩⟩
  rw [modI_wr o.t (by decide) (by decide)]
  obtain ⟨k, hk⟩ := Int.eq_ofNat_of_zero_le hk1
  rw [hk]
  have hk3 : k < 2 := by omega
  have ek : wr .i64 (1 - (k : Int)) = ((1 - k : Nat) : Int) := by rw [wr64 (by omega) (by omega)]; omega
  rw [ek]
  simp only [Int.toNat_natCast, Nat.mul_one]
  obtain ⟨X, Y, hX, hY, H⟩ := duo_any (P := bk b100 Ty_sherdlaw15_Op o.c.toArray) hk3 hA hB H
  have hback : ∀ X Z w', Okm (j + 1) X → Okm (j + 1) Z → Hp w w' (duoA k b5 b9 X Z) → ∃ A B, Okm (j + 1) A ∧ Okm (j + 1) B ∧ Hp w w' (duoA 0 b5 b9 A B) := fun X Z w' hX hZ H => duo_back hk3 hX hZ H
  refine ⟨fun h4 => ?_, fun h4 => ⟨fun h5 => ?_, fun h5 => ?_⟩⟩
  · -- a copy
    refine ⟨by omega, by omega, _, H.cell (b := b5) (i := k) (two_at hk3), ?_⟩
    cases X with
    | none =>
      refine call copy0_c ?_
      rintro _ w6 ⟨rfl, e6⟩
      subst e6
      refine ⟨_, rfl, by omega, by omega, put_t (C := none) hk3 (nope H.drop) fun w7 H => ⟨by omega, by omega, _, H.cell (b := b9) (i := k) (two_at hk3), call rcopy0_r ?_⟩⟩
      rintro _ w8 ⟨rfl, e8⟩
      subst e8
      exact ⟨_, rfl, by omega, by omega, put_r (C := none) hk3 H fun w9 H => hback none none w9 trivial trivial H⟩
    | some y =>
      obtain ⟨hy, hyl⟩ := hX
      have ht := hy.tell (by omega)
      have H := (H.drop.take (slotA (some y)))
      have H : Hp w w5 (star (tabA y.p y.T) (star (refA y.q y.R) _)) := Hp.assoc H
      refine call (copy_c (fun v hv => by rw [← sh_of hy.t.keys hv]; exact ht.data _) (fun v hv => by rw [← sh_of hy.t.keys hv]; exact ht.tag _) H) ?_
      rintro _ w6 ⟨p', T', rfl, hsame, H⟩
      refine ⟨_, rfl, by omega, by omega, ?_⟩
      refine H.sto (b := b5) (i := 1 - k) (by rw [two_size]; omega) fun w7 H => ⟨by omega, by omega, _, H.cell (b := b9) (i := k) (two_at hk3), ?_⟩
      rw [two_set hk3] at H
      refine call (rcopy_r (by omega) hy.f.data (H.take (refA y.q y.R))) ?_
      rintro _ w8 ⟨q', R', rfl, hd', hab, H⟩
      refine ⟨_, rfl, by omega, by omega, ?_⟩
      refine H.sto (b := b9) (i := 1 - k) (by rw [two_size]; omega) fun w9 H => ?_
      rw [two_set hk3] at H
      have hrl : R'.rows.length = y.R.rows.length := by
        have := congrArg List.length hab
        unfold absR at this
        simpa using this
      refine hback (some y) (some ⟨p', T', q', R', simC y.TR R'.rows, y.n, y.D, y.FE, y.HE⟩) w9 ⟨hy, by omega⟩ ⟨⟨hy.t.same hsame, ⟨hy.f.r.same (simC_same hy.f.s hy.f.r.keys hab), ⟨by rw [hd']; exact hy.f.s.delta, simC_sh hy.f.s hab⟩, hy.f.d, hy.f.n⟩⟩, by show R'.rows.length ≤ _; omega⟩ ?_
      have H := (H.take (slotA Y)).drop
      refine ((H.blk b9).blk b5).ent (Ent.star (Ent.refl _) (Ent.star (Ent.refl _) ?_))
      refine Ent.trans ?_ Asn.assoc'
      refine Ent.pick (P := tabA y.p y.T) (Ent.pick (P := refA y.q y.R) (Ent.trans ?_ Asn.assoc'))
      exact Ent.pick (P := tabA p' T') (Ent.pick (P := refA q' R') (Ent.refl _))
  · -- a new one
    refine ⟨_, H.cell (b := b100) (i := 12) rfl, call (rnew_r o.n) ?_⟩
    rintro _ w6 hr
    rcases hr with ⟨hd, rfl, f⟩ | ⟨hd, q, rfl, K⟩
    · have H := H.fr0 f
      refine ⟨_, _, rfl, _, H.cell (b := b100) (i := 12) rfl, call (tnew_c o.n) ?_⟩
      rintro _ w7 (⟨_, rfl, f⟩ | ⟨hd2, _⟩)
      rotate_left
      · exfalso; omega
      have H := (H.fr0 f).drop
      refine ⟨_, _, rfl, fun h => by simp at h, fun _ => ⟨by omega, by omega, ?_⟩⟩
      exact put_t (C := none) hk3 (nope H) fun w6 H => ⟨by omega, by omega, put_r (C := none) hk3 H fun w7 H => hback X none w7 hX.up trivial H⟩
    · have H := H.join K
      refine ⟨_, _, rfl, _, H.cell (b := b100) (i := 12) rfl, call (tnew_c o.n) ?_⟩
      rintro _ w7 (⟨hd2, _⟩ | ⟨_, p, g, rfl, K⟩)
      · exfalso; omega
      obtain ⟨n, hn⟩ := Int.eq_ofNat_of_zero_le hd.1
      rw [hn] at H K
      have H := ((H.join K).blk b100).drop
      refine ⟨_, _, rfl, fun h => by simp at h, fun _ => ⟨by omega, by omega, ?_⟩⟩
      exact put_t (C := some (freshS p g q n)) hk3 H.assoc' fun w6 H => ⟨by omega, by omega, put_r (C := some (freshS p g q n)) hk3 H fun w7 H => hback X _ w7 hX.up (fresh_ok (by omega)) H⟩
  · -- a step with the one, and with none
    refine ⟨fun b w' => b = false ∧ ∃ A B, Okm (j + 1) A ∧ Okm (j + 1) B ∧ Hp w w' (duoA 0 b5 b9 A B), ?_, ?_⟩
    rotate_left
    · rintro _ w6 ⟨rfl, h⟩
      exact ⟨fun h => by simp at h, fun _ => h⟩
    have H := H.drew 1
    refine ⟨by omega, by omega, _, H.cell (b := b5) (i := k) (two_at hk3), by omega, by omega, _, H.cell (b := b9) (i := k) (two_at hk3), _, H.cell (b := b100) (i := 0) rfl, _, H.cell (b := b100) (i := 1) rfl, _, H.cell (b := b100) (i := 2) rfl, _, H.cell (b := b100) (i := 3) rfl, _, H.cell (b := b100) (i := 4) rfl, _, H.cell (b := b100) (i := 5) rfl, _, H.cell (b := b100) (i := 6) rfl, _, H.cell (b := b100) (i := 7) rfl, _, H.cell (b := b100) (i := 8) rfl, _, H.cell (b := b100) (i := 9) rfl, _, H.cell (b := b100) (i := 10) rfl, _, H.cell (b := b100) (i := 11) rfl, _, H.cell (b := b100) (i := 12) rfl, ?_⟩
    refine call (plays_c (o := o) hX (by omega) hob hobl (H.take (slotA X))) ?_
    rintro _ w6 ⟨rfl, Z, hZ, e1, e2, H⟩
    refine ⟨_, rfl, fun h => by simp at h, fun _ => ⟨_, H.cell (b := b100) (i := 0) rfl, _, H.cell (b := b100) (i := 1) rfl, _, H.cell (b := b100) (i := 2) rfl, _, H.cell (b := b100) (i := 3) rfl, _, H.cell (b := b100) (i := 4) rfl, _, H.cell (b := b100) (i := 5) rfl, _, H.cell (b := b100) (i := 6) rfl, _, H.cell (b := b100) (i := 7) rfl, _, H.cell (b := b100) (i := 8) rfl, _, H.cell (b := b100) (i := 9) rfl, _, H.cell (b := b100) (i := 10) rfl, _, H.cell (b := b100) (i := 11) rfl, _, H.cell (b := b100) (i := 12) rfl, ?_⟩⟩
    refine call (plays_c (x := none) (m := j) (o := o) trivial (by omega) hob hobl (nope H)) ?_
    rintro _ w7 ⟨rfl, N, _, n1, _, H⟩
    refine ⟨_, rfl, rfl, hback Z Y w7 hZ hY.up ?_⟩
    have H := H.drop
    rw [← e1, ← e2] at H
    exact ((H.blk b100).drop.blk b9).blk b5
end
end Go.Proofs.YtgnceldnfefnmaaGreat
