/-
  Contracts of the package gf.
-/
import Derived.Test.YtabifopphhpciaaGreatRecAll
import Derived.Test.YtabifopphhpciaaGreatSep
import Derived.Test.YtabifopphhpciaaGreatLin
namespace Go.Gf
open Go Go.Vc
/-- The cells of a field. -/
def fieldL : List Value := .int .i64 285 :: ((expT ++ expT).map (fun x : Nat => Value.int .u8 (x : Int)) ++ logT.map fun x : Nat => Value.int .i64 (x : Int))
theorem expT_len : (expT ++ expT).length = 510 := by decide +kernel
theorem logT_len : logT.length = 256 := by decide +kernel
theorem fieldL_log {a : Nat} (h : a < 256) : fieldL[511 + a]? = some (.int .i64 (lg a : Int)) := by
  unfold fieldL
  rw [show 511 + a = (510 + a) + 1 by omega, List.getElem?_cons_succ, List.getElem?_append_right (by rw [List.length_map, expT_len]; omega), List.length_map, expT_len, show 510 + a - 510 = a by omega, List.getElem?_map]
  have h1 : logT[a]? = some (lg a) := by
    unfold lg
    rw [List.getD_eq_getElem?_getD, List.getElem?_eq_getElem (by rw [logT_len]; exact h)]
    rfl
  rw [h1]
  rfl
theorem fieldL_exp {i : Nat} (h : i < 510) : fieldL[1 + i]? = some (.int .u8 (pw i : Int)) := by
  have h2 : ∀ x : Fin 510, (expT ++ expT).getD x.val 0 = pw x.val := by decide +kernel
  unfold fieldL
  rw [show 1 + i = i + 1 by omega, List.getElem?_cons_succ, List.getElem?_append_left (by rw [List.length_map, expT_len]; exact h), List.getElem?_map]
  have h1 : (expT ++ expT)[i]? = some (pw i) := by
    rw [← h2 ⟨i, h⟩, List.getD_eq_getElem?_getD, List.getElem?_eq_getElem (by rw [expT_len]; exact h)]
    rfl
  rw [h1]
  rfl
end Go.Gf
namespace Go.Proofs.YtabifopphhpciaaGreat
open Go Go.Vc Go.Vc.Asn Go.Gf
abbrev fieldA (p : Nat) : Asn := bk p Ty_gf_Field fieldL.toArray
section
variable {p : Nat} {w0 w : World} {F : Asn}
theorem lg_lt {a : Nat} (h : a < 256) : lg a < 255 := by
  have h1 : ∀ x : Fin 256, lg x.val < 255 := by decide +kernel
  exact h1 ⟨a, h⟩
/-- A field that can be read whatever else turns. -/
def RdF (w0 : World) (F : Asn) (f : Option Addr) : Prop := ∃ p, f = some (blk p) ∧ ∀ w' A, Hp w0 w' (star A F) → Blk w' p Ty_gf_Field fieldL.toArray
theorem mul_c {f : Nat} (a b : UInt8) (hB : Blk w f Ty_gf_Field fieldL.toArray) : Calls PP F_gf_Field_Mul #[.pointer (some (blk f)), u8v a, u8v b] w (Rt fun v w' => v = u8v (mul a b) ∧ Fr [] w w') := by
  refine sim_gf_Field_Mul _ _ _ _ _ ?_
  unfold vc_gf_Field_Mul
  have ha := a.toNat_lt
  have hb := b.toNat_lt
  have e : u8v (mul a b) = .int .u8 (mulN a.toNat b.toNat : Int) := by unfold u8v; rw [mul_toNat]
  refine ⟨fun h => Rt.ok ⟨?_, Fr.refl _ _⟩, fun h => ?_⟩
  · rw [e]
    unfold mulN
    simp at h
    rw [if_pos (by omega)]
    rfl
  · simp at h
    have h0 : ¬ (a.toNat = 0 ∨ b.toNat = 0) := by omega
    have l1 := lg_lt ha
    have l2 := lg_lt hb
    have ew : wr .i64 ((lg a.toNat : Int) + (lg b.toNat : Int)) = ((lg a.toNat + lg b.toNat : Nat) : Int) := by rw [wr64 (by omega) (by omega)]; omega
    refine ⟨_, rfl, by omega, by omega, (lg a.toNat : Int), ?_, by omega, by omega, (lg b.toNat : Int), ?_, by rw [ew]; omega, by rw [ew]; omega, (pw (lg a.toNat + lg b.toNat) : Int), ?_, fun k => Rt.ok ⟨?_, ?_⟩⟩
    · rw [Int.toNat_natCast, Nat.mul_one]
      exact hB.cell2 (by rw [List.getElem?_toArray]; exact fieldL_log ha)
    · rw [Int.toNat_natCast, Nat.mul_one]
      exact hB.cell2 (by rw [List.getElem?_toArray]; exact fieldL_log hb)
    · rw [ew, Int.toNat_natCast, Nat.mul_one]
      exact hB.cell2 (by rw [List.getElem?_toArray]; exact fieldL_exp (by omega))
    · rw [e]
      unfold mulN
      rw [if_neg h0]
    · exact ((Hp.start w).drew k).fr
theorem inv_c {f : Nat} (a : UInt8) (h0 : a ≠ 0) (hB : Blk w f Ty_gf_Field fieldL.toArray) : Calls PP F_gf_Field_Inv #[.pointer (some (blk f)), u8v a] w (Rt fun v w' => v = .tuple #[u8v (inv a), .int .i64 0] ∧ Fr [] w w') := by
  refine sim_gf_Field_Inv _ _ _ _ ?_
  unfold vc_gf_Field_Inv
  have ha := a.toNat_lt
  have hn := toNat_ne h0
  have l1 := lg_lt ha
  have e : (inv a).toNat = pw (255 - lg a.toNat) := by
    unfold inv
    rw [UInt8.toNat_ofNat']
    exact Nat.mod_eq_of_lt (pw_lt _).1
  have ew : wr .i64 (255 - (lg a.toNat : Int)) = ((255 - lg a.toNat : Nat) : Int) := by rw [wr64 (by omega) (by omega)]; omega
  refine ⟨fun h => by simp at h, fun _ => ⟨fun h => ?_, fun _ => ⟨_, rfl, by omega, by omega, (lg a.toNat : Int), ?_, by rw [ew]; omega, by rw [ew]; omega, (pw (255 - lg a.toNat) : Int), ?_, fun k => Rt.ok ⟨?_, ?_⟩⟩⟩⟩
  · simp at h; omega
  · rw [Int.toNat_natCast, Nat.mul_one]
    exact hB.cell2 (by rw [List.getElem?_toArray]; exact fieldL_log ha)
  · rw [ew, Int.toNat_natCast, Nat.mul_one]
    exact hB.cell2 (by rw [List.getElem?_toArray]; exact fieldL_exp (by omega))
  · unfold u8v; rw [e]
  · exact ((Hp.start w).drew k).fr
/-- The cells when s powers are written. -/
def fval (s idx : Nat) : Value := if idx = 0 then .int .i64 285 else if idx < 511 then .int .u8 (if (idx - 1) % 255 < s then (pw ((idx - 1) % 255) : Int) else 0) else .int .i64 (if idx - 511 ≠ 0 ∧ lg (idx - 511) < s then (lg (idx - 511) : Int) else 0)
def FAt (s : Nat) (cs : Array Value) : Prop := cs.size = 767 ∧ ∀ idx, idx < 767 → cs[idx]? = some (fval s idx)
theorem fat_end {cs : Array Value} (h : FAt 255 cs) : cs = fieldL.toArray := by
  apply Array.ext_getElem?
  intro idx
  rw [show fieldL.toArray[idx]? = fieldL[idx]? from List.getElem?_toArray]
  by_cases hi : idx < 767
  · rw [h.2 idx hi]
    unfold fval
    split
    · rename_i h0; subst h0; rfl
    · rename_i h0
      split
      · rename_i h1
        rw [if_pos (Nat.mod_lt _ (by decide)), pw_mod]
        have := fieldL_exp (i := idx - 1) (by omega)
        rw [show 1 + (idx - 1) = idx by omega] at this
        exact this.symm
      · rename_i h1
        have := fieldL_log (a := idx - 511) (by omega)
        rw [show 511 + (idx - 511) = idx by omega] at this
        rw [this]
        by_cases h2 : idx - 511 = 0
        · rw [if_neg (fun h => h.1 h2), h2]
          rfl
        · rw [if_pos ⟨h2, (pw_lg (by omega) h2).2⟩]
  · rw [Array.getElem?_eq_none (by rw [h.1]; omega), List.getElem?_eq_none]
    have : fieldL.length = 767 := by decide +kernel
    omega
theorem fat_step {s : Nat} {cs : Array Value} (hs : s < 255) (h : FAt s cs) : FAt (s + 1) (((cs.setIfInBounds (1 + s) (.int .u8 (pw s))).setIfInBounds (1 + (s + 255)) (.int .u8 (pw s))).setIfInBounds (511 + pw s) (.int .i64 s)) := by
  refine ⟨by simp [h.1], fun idx hi => ?_⟩
  have hp := pw_lt s
  have hl : lg (pw s) = s := by rw [lg_pw]; exact Nat.mod_eq_of_lt hs
  simp only [Array.getElem?_setIfInBounds, Array.size_setIfInBounds, h.1, h.2 idx hi]
  by_cases h1 : 511 + pw s = idx
  · rw [if_pos h1, if_pos (by omega)]
    unfold fval
    rw [if_neg (by omega), if_neg (by omega), show idx - 511 = pw s by omega, hl, if_pos ⟨hp.2, by omega⟩]
  · rw [if_neg h1]
    by_cases h2 : 1 + (s + 255) = idx
    · rw [if_pos h2, if_pos (by omega)]
      unfold fval
      rw [if_neg (by omega), if_pos (by omega), show (idx - 1) % 255 = s by omega, if_pos (by omega)]
    · rw [if_neg h2]
      by_cases h3 : 1 + s = idx
      · rw [if_pos h3, if_pos (by omega)]
        unfold fval
        rw [if_neg (by omega), if_pos (by omega), show (idx - 1) % 255 = s by omega, if_pos (by omega)]
      · rw [if_neg h3]
        unfold fval
        split
        · rfl
        · rename_i h0
          split
          · rename_i h4
            have : (idx - 1) % 255 ≠ s := by omega
            by_cases h5 : (idx - 1) % 255 < s
            · rw [if_pos h5, if_pos (by omega)]
            · rw [if_neg h5, if_neg (by omega)]
          · rename_i h4
            by_cases h5 : idx - 511 = 0
            · rw [if_neg (fun h => h.1 h5), if_neg (fun h => h.1 h5)]
            · have h6 := (pw_lg (show idx - 511 < 256 by omega) h5).1
              have h7 : lg (idx - 511) ≠ s := fun e => by rw [e] at h6; omega
              by_cases h8 : lg (idx - 511) < s
              · rw [if_pos ⟨h5, h8⟩, if_pos ⟨h5, by omega⟩]
              · rw [if_neg (fun h => h8 h.2), if_neg (fun h => by have := h.2; omega)]
def z0 : List Value := .int .i64 285 :: (List.replicate 510 (.int .u8 0) ++ List.replicate 256 (.int .i64 0))
theorem fat_zero {cs : Array Value} (h : cs = z0.toArray) : FAt 0 cs := by
  subst h
  have hl : z0.length = 767 := by unfold z0; rw [List.length_cons, List.length_append, List.length_replicate, List.length_replicate]
  refine ⟨by rw [List.size_toArray]; exact hl, fun idx hi => ?_⟩
  rw [List.getElem?_toArray]
  unfold fval z0
  cases idx with
  | zero => rfl
  | succ i =>
    rw [List.getElem?_cons_succ, if_neg (by omega)]
    by_cases h1 : i < 510
    · rw [List.getElem?_append_left (by rw [List.length_replicate]; exact h1), List.getElem?_replicate, if_pos h1, if_pos (by omega), if_neg (by omega)]
    · rw [List.getElem?_append_right (by rw [List.length_replicate]; omega), List.length_replicate, List.getElem?_replicate, if_pos (by omega), if_neg (by omega), if_neg (fun h => by have := h.2; omega)]
theorem shl_tab : ∀ x : Fin 256, shlI .i64 (x.val : Int) 1 = ((2 * x.val : Nat) : Int) ∧ xorI .i64 ((2 * x.val : Nat) : Int) 285 = (((2 * x.val) ^^^ 285 : Nat) : Int) := by decide +kernel
set_option maxHeartbeats 1000000 in
theorem gfNew_c : Calls PP F_gf_New #[.int .i64 285] w (Rt fun v w' => ∃ p, v = .tuple #[.pointer (some (blk p)), .int .i64 0] ∧ Hp w w' (star (fieldA p) emp)) := by
  refine sim_gf_New _ _ _ ?_
  unfold vc_gf_New
  refine ⟨fun h => by simp at h, fun _ => ?_⟩
  refine (Hp.start w).new fun b10 w1 H => ?_
  refine ⟨fun x s w' => ∃ (j : Nat) (cs : Array Value), s = (j : Int) ∧ j ≤ 255 ∧ x = (pw j : Int) ∧ FAt j cs ∧ Hp w w' (star (bk b10 Ty_gf_Field cs) emp), fun _ s _ => 255 - s.toNat, ⟨0, _, rfl, by omega, rfl, ?_, H⟩, ?_⟩
  · exact fat_zero (by kernel_rfl)
  rintro _ _ w2 ⟨j, cs, rfl, hj, rfl, hF, H⟩
  have hp := pw_lt j
  refine ⟨fun h => ?_, fun h => ?_⟩
  · have hlt : j < 255 := by simp only [decide_eq_true_eq] at h; omega
    have ewr : wr .i64 ((j : Int) + 1) = ((j + 1 : Nat) : Int) := by rw [wr64 (by omega) (by omega)]; omega
    have ew2 : wr .i64 ((j : Int) + 255) = ((j + 255 : Nat) : Int) := by rw [wr64 (by omega) (by omega)]; omega
    have e8 : wr .u8 (pw j : Int) = (pw j : Int) := by
      have : ∀ x : Fin 256, wr .u8 (x.val : Int) = (x.val : Int) := by decide +kernel
      exact this ⟨_, hp.1⟩
    obtain ⟨s1, s2⟩ := shl_tab ⟨pw j, hp.1⟩
    simp only at s1 s2
    have hdbl : pw (j + 1) = dbl (pw j) := rfl
    have hl : lg (pw j) = j := by rw [lg_pw]; exact Nat.mod_eq_of_lt hlt
    refine ⟨fun x w' => x = (pw (j + 1) : Int) ∧ ∃ cs, FAt (j + 1) cs ∧ Hp w w' (star (bk b10 Ty_gf_Field cs) emp), ⟨fun h2 => ?_, fun _ => ⟨by omega, by omega, ?_⟩⟩, ?_⟩
    · exfalso
      simp only [Bool.or_eq_true, decide_eq_true_eq, Bool.and_eq_true] at h2
      rcases h2 with h2 | ⟨h2, h3⟩
      · exact hp.2 (by omega)
      · have h4 : pw j = 1 := by omega
        rw [h4] at hl
        have h5 : lg 1 = 0 := by decide +kernel
        omega
    · rw [e8, ew2, s1]
      simp only [Int.toNat_natCast, Nat.mul_one]
      refine H.sto2 (b := b10) (i := 1) (j := j) (by rw [hF.1]; omega) fun w3 H => ⟨by omega, by omega, H.sto2 (b := b10) (i := 1) (j := j + 255) (by simp [hF.1]; omega) fun w4 H => ⟨by omega, by omega, H.sto2 (b := b10) (i := 511) (j := pw j) (by simp [hF.1]; omega) fun w5 H => ⟨fun h3 => ⟨?_, _, fat_step hlt hF, H⟩, fun h3 => ⟨?_, _, fat_step hlt hF, H⟩⟩⟩⟩
      · rw [s2, hdbl]; unfold dbl; rw [if_pos (by simp only [decide_eq_true_eq] at h3; omega)]
      · rw [hdbl]; unfold dbl; rw [if_neg (by simp only [decide_eq_false_iff_not] at h3; omega)]
    · rintro _ w3 ⟨rfl, cs2, hF2, H⟩
      exact ⟨⟨j + 1, cs2, by rw [ewr], by omega, rfl, hF2, H⟩, by dsimp only; rw [ewr]; omega⟩
  · have hje : j = 255 := by simp only [decide_eq_false_iff_not] at h; omega
    subst hje
    rw [fat_end hF] at H
    have h1 := pw_255
    exact ⟨fun h => by rw [h1] at h; simp at h, fun _ => Rt.ok ⟨b10, rfl, H⟩⟩
end
end Go.Proofs.YtabifopphhpciaaGreat
