/-
  Contracts of the package matrix: eliminate, Invert.
-/
import Derived.Test.YtabifopphhpciaaGreatMatE
namespace Go.Proofs.YtabifopphhpciaaGreat
open Go Go.Vc Go.Vc.Asn Go.Gf
theorem entR {rs : Rws} {i c : Nat} (hi : i < rs.length) (hc : c < rs[i].2.length) : rs[i].2[c] = ent (mt rs) i c := by
  rw [ent_at2 (by rw [mt_len]; exact hi) (by rw [mt_at hi]; exact hc)]
  simp [mt]
theorem shpRow {rs : Rws} {m n i : Nat} (h : Shp (mt rs) m n) (hi : i < rs.length) : rs[i].2.length = n := h.row _ (List.mem_map_of_mem (List.getElem_mem hi))
theorem shpLen {rs : Rws} {m n : Nat} (h : Shp (mt rs) m n) : rs.length = m := by have := h.len; rwa [mt_len] at this
section
variable {w0 w : World} {F : Asn} {s : Slc} {rs : Rws} {g n : Nat} {M : Go.Gf.Mat}
theorem elim_c (hK : Blk w0 g Ty_gf_Field fieldL.toArray) (hS : Shp (mt rs) n (n + n)) (hn : n ≤ 256) (hT : Triv M n) (hSK : SameKer (aug M n) (ent (mt rs)) n (n + n)) (H : Hp w0 w (OwR s rs F)) :
    Calls PP F_matrix_eliminate #[.pointer (some (blk g)), s.v, .int .i64 (n : Int)] w (Rt fun v w' => ∃ (pv : Slc) (rs' : Rws), v = pv.v ∧ pv.l = n ∧ Shp (mt rs') n (n + n) ∧ Done (ent (mt rs')) n n ∧ SameKer (aug M n) (ent (mt rs')) n (n + n) ∧ Hp w0 w' (OwR s rs' F)) := by
  refine sim_matrix_eliminate _ _ _ _ _ ?_
  unfold vc_matrix_eliminate
  have hsl : s.l = n := by rw [(rdR H).cel.lenM]; exact shpLen hS
  refine H.new fun b5 w1 H => H.new fun b8 w2 H => ?_
  have H := H.nilRow Ty_int 1
  have H := (H.take (all rwA rs)).own s
  refine ⟨fun p x w' => ∃ (col : Nat) (ps : List Value) (rs : Rws), x = (col : Int) ∧ col ≤ n ∧ p.l = col ∧ Shp (mt rs) n (n + n) ∧ Done (ent (mt rs)) n col ∧ SameKer (aug M n) (ent (mt rs)) n (n + n) ∧ Hp w0 w' (OwR s rs (star (own Ty_int 1 p ps) (star (bk b8 Ty_sl_sl_uint8 #[s.v]) (star (bk b5 Ty_p_gf_Field #[.pointer (some (blk g))]) F)))), fun _ x _ => n - x.toNat,
    ⟨0, [], rs, rfl, Nat.zero_le _, rfl, hS, fun j hj => by omega, hSK, H⟩, ?_⟩
  rintro p _ w3 ⟨col, ps, rs, rfl, hc, hpl, hS, hD, hSK, H⟩
  rw [hpl]
  refine ⟨fun h => ?_, fun h => ?_⟩
  · have hlt : col < n := by simp only [decide_eq_true_eq] at h; omega
    refine ⟨fun p w' => ∃ (ps : List Value) (rs : Rws), p.l = col + 1 ∧ Shp (mt rs) n (n + n) ∧ Done (ent (mt rs)) n (col + 1) ∧ SameKer (aug M n) (ent (mt rs)) n (n + n) ∧ Hp w0 w' (OwR s rs (star (own Ty_int 1 p ps) (star (bk b8 Ty_sl_sl_uint8 #[s.v]) (star (bk b5 Ty_p_gf_Field #[.pointer (some (blk g))]) F)))), ?_, ?_⟩
    · refine ⟨fun x w' => ∃ t : Nat, x = (t : Int) ∧ col ≤ t ∧ t ≤ n ∧ (∀ r, col ≤ r → r < t → ent (mt rs) r col = 0) ∧ Hp w0 w' (OwR s rs (star (own Ty_int 1 p ps) (star (bk b8 Ty_sl_sl_uint8 #[s.v]) (star (bk b5 Ty_p_gf_Field #[.pointer (some (blk g))]) F)))), fun x _ => n - x.toNat, ⟨col, rfl, Nat.le_refl _, hc, fun r h1 h2 => by omega, H⟩, ?_⟩
      rintro _ w4 ⟨t, rfl, hct, htn, hz, H⟩
      have hb : RdC w0 (star (own Ty_int 1 p ps) (star (bk b8 Ty_sl_sl_uint8 #[s.v]) (star (bk b5 Ty_p_gf_Field #[.pointer (some (blk g))]) F))) (blk b8) s.v := fun w' A X => X.cell (b := b8) (i := 0) rfl
      have hb5 : RdC w0 (star (own Ty_int 1 p ps) (star (bk b8 Ty_sl_sl_uint8 #[s.v]) (star (bk b5 Ty_p_gf_Field #[.pointer (some (blk g))]) F))) (blk b5) (.pointer (some (blk g))) := fun w' A X => X.cell (b := b5) (i := 0) rfl
      have hrl := shpLen hS
      refine ⟨s, H.cell (b := b8) (i := 0) rfl, fun h => ?_, fun h => ?_⟩
      · exfalso
        simp only [decide_eq_true_eq] at h
        obtain ⟨i, h1, h2, h3⟩ := has_pivot hT hSK hD hlt
        exact h3 (hz i h1 (by omega))
      · have htlt : t < n := by simp only [decide_eq_false_iff_not] at h; omega
        have htr : t < rs.length := by omega
        have hw := shpRow hS htr
        refine ⟨s, H.cell (b := b8) (i := 0) rfl, (rdR H).cel.rdS htr fun a ha => ((rdR H).at_ htr).rd (i := col) (by omega) fun a2 ha2 => ⟨fun h => ?_, fun h => ?_⟩⟩
        · have hne : ent (mt rs) t col ≠ 0 := by
            rw [← entR htr (by omega)]
            intro e
            rw [e] at h
            simp at h
          refine call (swap_c hb H (by omega) htr) ?_
          rintro _ w5 ⟨rfl, H⟩
          have e1 := swp_ent (rs := rs) (i := col) (j := t) (by omega) htr
          have hcr : col < rs.length := by omega
          have hl1 : (swp rs col t).length = n := by rw [swp_at hcr htr]; simp [hrl]
          have hS1 : Shp (mt (swp rs col t)) n (n + n) := by
            rw [swp_mt hcr htr]
            exact (hS.set (hS.at_ _)).set (hS.at_ _)
          have hD1 : Done (ent (mt (swp rs col t))) n col := by rw [e1]; exact done_swap hD hct htlt
          have hSK1 : SameKer (aug M n) (ent (mt (swp rs col t))) n (n + n) := by rw [e1]; exact hSK.trans (ker_swap hlt htlt)
          have hne1 : ent (mt (swp rs col t)) col col ≠ 0 := by rw [e1]; dsimp only; rw [if_pos rfl]; exact hne
          generalize swp rs col t = rs1 at *
          have H := H.drew 1
          have hc1 : col < rs1.length := by omega
          have hw1 := shpRow hS1 hc1
          refine ⟨rfl, _, H.cell (b := b5) (i := 0) rfl, s, H.cell (b := b8) (i := 0) rfl, (rdR H).cel.rdS hc1 fun a3 ha3 => ((rdR H).at_ hc1).rd (i := col) (by omega) fun a4 ha4 => ?_⟩
          have e2 := entR (rs := rs1) (c := col) hc1 (by omega)
          refine call (inv_c (f := g) rs1[col].2[col] (by rw [e2]; exact hne1) (hK.fr H.fr (by simp))) ?_
          rintro _ w6 ⟨rfl, f6⟩
          have H := H.fr0 f6
          refine ⟨_, _, rfl, call (scale_c (g := g) (c := inv rs1[col].2[col]) hK hb hb5 H hc1 (by omega)) ?_⟩
          rintro _ w7 ⟨rfl, H⟩
          have hA : ent (mt (upd rs1 col (mulR (inv rs1[col].2[col]) rs1[col].2))) = fun r => if r = col then fun c => mul (inv rs1[col].2[col]) (ent (mt rs1) col c) else ent (mt rs1) r := by
            rw [upd_mt, ent_setF (by rw [mt_len]; exact hc1)]
            funext r
            by_cases hr : r = col
            · rw [if_pos hr, if_pos hr]
              funext c
              rw [mulR_at, ent_at (by rw [mt_len]; exact hc1), mt_at hc1]
            · rw [if_neg hr, if_neg hr]
          have hS2 : Shp (mt (upd rs1 col (mulR (inv rs1[col].2[col]) rs1[col].2))) n (n + n) := by rw [upd_mt]; exact hS1.set (by unfold mulR; rw [List.length_map]; exact hw1)
          have hD2 : Done (ent (mt (upd rs1 col (mulR (inv rs1[col].2[col]) rs1[col].2)))) n col := by rw [hA]; exact done_scale hD1 hlt
          have hSK2 : SameKer (aug M n) (ent (mt (upd rs1 col (mulR (inv rs1[col].2[col]) rs1[col].2)))) n (n + n) := by rw [hA]; exact hSK1.trans (ker_scale hlt (inv_ne (by rw [e2]; exact hne1)))
          have hone : ent (mt (upd rs1 col (mulR (inv rs1[col].2[col]) rs1[col].2))) col col = 1 := by
            rw [hA]; dsimp only; rw [if_pos rfl, e2, mul_comm]; exact mul_inv hne1
          generalize upd rs1 col (mulR (inv rs1[col].2[col]) rs1[col].2) = rs2 at *
          refine ⟨rfl, s, H.cell (b := b8) (i := 0) rfl, fun x w' => ∃ (t : Nat) (rs : Rws), x = (t : Int) ∧ t ≤ n ∧ Shp (mt rs) n (n + n) ∧ Done (ent (mt rs)) n col ∧ SameKer (aug M n) (ent (mt rs)) n (n + n) ∧ ent (mt rs) col col = 1 ∧ (∀ r, r < t → r ≠ col → ent (mt rs) r col = 0) ∧ Hp w0 w' (OwR s rs (star (own Ty_int 1 p ps) (star (bk b8 Ty_sl_sl_uint8 #[s.v]) (star (bk b5 Ty_p_gf_Field #[.pointer (some (blk g))]) F)))), fun x _ => n - x.toNat, ⟨0, rs2, rfl, Nat.zero_le _, hS2, hD2, hSK2, hone, fun r hr => by omega, H⟩, ?_⟩
          rintro _ w8 ⟨u, rs3, rfl, hu, hS3, hD3, hSK3, hone3, hz3, H⟩
          have hl3 := shpLen hS3
          refine ⟨fun h => ?_, fun h => ?_⟩
          · have hul : u < n := by simp only [decide_eq_true_eq] at h; omega
            have hur : u < rs3.length := by omega
            have hwu := shpRow hS3 hur
            refine ⟨fun w' => ∃ rs : Rws, Shp (mt rs) n (n + n) ∧ Done (ent (mt rs)) n col ∧ SameKer (aug M n) (ent (mt rs)) n (n + n) ∧ ent (mt rs) col col = 1 ∧ (∀ r, r < u + 1 → r ≠ col → ent (mt rs) r col = 0) ∧ Hp w0 w' (OwR s rs (star (own Ty_int 1 p ps) (star (bk b8 Ty_sl_sl_uint8 #[s.v]) (star (bk b5 Ty_p_gf_Field #[.pointer (some (blk g))]) F)))), ⟨fun h => ?_, fun h => ?_⟩, ?_⟩
            · have huc : u ≠ col := by simp only [decide_eq_true_eq] at h; omega
              have hc3 : col < rs3.length := by omega
              have hwc := shpRow hS3 hc3
              refine ⟨s, H.cell (b := b8) (i := 0) rfl, (rdR H).cel.rdS hur fun a3 ha3 => ((rdR H).at_ hur).rd (i := col) (by omega) fun a4 ha4 => ?_⟩
              refine call (add_c (g := g) (c := rs3[u].2[col]) hK hb hb5 H hur hc3 huc (by omega) (by omega)) ?_
              rintro _ w9 ⟨rfl, H⟩
              have e3 := entR (rs := rs3) (c := col) hur (by omega)
              have hA : ent (mt (upd rs3 u (addR rs3[u].2[col] rs3[u].2 rs3[col].2))) = fun r => if r = u then fun c => ent (mt rs3) u c ^^^ mul rs3[u].2[col] (ent (mt rs3) col c) else ent (mt rs3) r := by
                rw [upd_mt, ent_setF (by rw [mt_len]; exact hur)]
                funext r
                by_cases hr : r = u
                · rw [if_pos hr, if_pos hr]
                  funext c
                  rw [addR_at (by omega), ent_at (by rw [mt_len]; exact hur), ent_at (by rw [mt_len]; exact hc3), mt_at hur, mt_at hc3]
                · rw [if_neg hr, if_neg hr]
              refine ⟨rfl, _, ?_, ?_, ?_, ?_, ?_, H⟩
              · rw [upd_mt]; exact hS3.set (by rw [addR_len (by omega)]; exact hwu)
              · rw [hA]; exact done_add hD3 hlt
              · rw [hA]; exact hSK3.trans (ker_add hul hlt huc)
              · rw [hA]; dsimp only; rw [if_neg (Ne.symm huc)]; exact hone3
              · intro r hr hrc
                rw [hA]
                dsimp only
                by_cases hru : r = u
                · rw [if_pos hru, hone3, mul_one, e3, add_self]
                · rw [if_neg hru]; exact hz3 r (by omega) hrc
            · have huc : u = col := by simp only [decide_eq_false_iff_not, ne_eq, Decidable.not_not] at h; omega
              exact ⟨rs3, hS3, hD3, hSK3, hone3, fun r hr hrc => hz3 r (by omega) hrc, H⟩
            · rintro w9 ⟨rs4, h1, h2, h3, h4, h5, H⟩
              rw [ofW u (by omega)]
              exact ⟨⟨u + 1, rs4, rfl, by omega, h1, h2, h3, h4, h5, H⟩, by dsimp only; omega⟩
          · have hue : u = n := by simp only [decide_eq_false_iff_not] at h; omega
            subst hue
            refine Hp.app1 (s := p) slT_sl_int H rfl (by unfold maxLen; omega) (by omega) fun p2 w9 H hp2 => ?_
            exact ⟨_, rs3, by omega, hS3, done_next hD3 hone3 hz3, hSK3, (H.take (all rwA rs3)).own s⟩
        · rw [ofW t (by omega)]
          refine ⟨⟨t + 1, rfl, by omega, by omega, fun r h1 h2 => ?_, H⟩, by dsimp only; omega⟩
          by_cases hrt : r = t
          · subst hrt
            rw [← entR htr (by omega)]
            simp only [decide_eq_false_iff_not, ne_eq, Decidable.not_not] at h
            exact UInt8.toNat_inj.1 (by show _ = 0; omega)
          · exact hz r h1 (by omega)
    · rintro p2 w4 ⟨ps2, rs2, h1, h2, h3, h4, H⟩
      rw [ofW col (by omega)]
      exact ⟨⟨col + 1, ps2, rs2, rfl, by omega, h1, h2, h3, h4, H⟩, by dsimp only; omega⟩
  · have hce : col = n := by simp only [decide_eq_false_iff_not] at h; omega
    subst hce
    exact Rt.ok ⟨p, rs, rfl, hpl, hS, hD, hSK, (((((H.own p).drop).blk b8).drop.blk b5).drop)⟩
end
end Go.Proofs.YtabifopphhpciaaGreat
