/-
  Contracts of the package matrix: Poly, Mul, Rows, New; of slices: ContainsFunc over rows, Clone, Equal.
-/
import Derived.Test.YtabifopphhpciaaGreatMatV
namespace Go.Vc
open Go Go.Vc.Asn
theorem Own.cap {e : Nat} {w : World} {b l n : Nat} {z : Value} (hb : Blk w b e (List.replicate n z).toArray) (hl : l ≤ n) (hm : n ≤ maxLen) : Own e 1 w ⟨some (blk b), l, n⟩ (List.replicate l z) :=
  ⟨by simp, .inr ⟨b, n, _, rfl, Nat.zero_le _, hb, hl, hm, by simp, by simp; omega⟩⟩
/-- make with room. -/
theorem Hp.makeCap {P : Program} {t e bytes l n : Nat} {z : Value} (T : SlT P t e 1 bytes z) (hz : z.cells = #[z]) {w0 w : World} {A : Asn} {K : Slc → World → Prop} (hb : bytes * n ≤ 281474976710656) (hn : n ≤ 16777216) (hl : l ≤ n) (H : Hp w0 w A)
    (k : ∀ b w', Hp w0 w' (star (Asn.own e 1 ⟨some (Vc.blk b), l, n⟩ (List.replicate l z)) A) → K ⟨some (Vc.blk b), l, n⟩ w') : Mk P t w (.int .i64 (l : Int)) (.int .i64 (n : Int)) K := by
  cases hi : P.info? e with
  | none => have := T.info; rw [hi] at this; simp at this
  | some i =>
    have hinfo := T.info
    rw [hi] at hinfo
    simp only [Option.map_some, Option.some.injEq, Prod.mk.injEq] at hinfo
    obtain ⟨h1, h2, h3⟩ := hinfo
    have hb2 : (bytes : Int) * (n : Int) ≤ 281474976710656 := by
      have h : ((bytes * n : Nat) : Int) ≤ 281474976710656 := by omega
      rwa [Int.natCast_mul] at h
    have hr := run_makeSlice (P := P) (w := w) t e i z T.ut hi h1 .i64 .i64 (l : Int) (n : Int) (by omega) (by omega) (by rw [h2]; omega) (by rw [h3]; exact hb2) (by omega)
    refine ⟨⟨some (Vc.blk w.heap.size), l, n⟩, _, hr, ?_⟩
    simp only [Int.toNat_natCast]
    rw [h2, made_one hz]
    exact k _ _ (H.beside ⟨NewBlk.fr (cs := (List.replicate n z).toArray) (e := e) (b := w.heap.size) ⟨rfl, rfl⟩, fun x => x = w.heap.size, fun x hx => by rw [hx]; exact Nat.le_refl _, fun x => by simp [Slc.blks], Own.cap (NewBlk.blk ⟨rfl, rfl⟩) hl (by unfold maxLen; omega)⟩)
end Go.Vc
namespace Go.Proofs.YtabifopphhpciaaGreat
open Go Go.Vc Go.Vc.Asn Go.Gf
section
variable {w0 w : World} {F : Asn} {q : Nat} {f : Option Addr} {s : Slc} {rs : Rws}
theorem fieldL_zero : fieldL.toArray[0]? = some (.int .i64 285) := by
  rw [List.getElem?_toArray]; unfold fieldL; exact List.getElem?_cons_zero
theorem poly_c {g : Nat} (hK : Blk w g Ty_gf_Field fieldL.toArray) : Calls PP F_gf_Field_Poly #[.pointer (some (blk g))] w (Rt fun v w' => v = .int .i64 285 ∧ w' = w) := by
  refine sim_gf_Field_Poly _ _ _ ?_
  unfold vc_gf_Field_Poly
  exact ⟨fun h => by simp at h, fun _ => ⟨_, rfl, 285, hK.cell (i := 0) fieldL_zero, Rt.ok ⟨rfl, rfl⟩⟩⟩
theorem mul_mat_c {g q1 q2 m n l : Nat} {s1 s2 : Slc} {rs1 rs2 : Rws} (hK : Blk w g Ty_gf_Field fieldL.toArray) (h1 : RdM w q1 (some (blk g)) s1 rs1) (h2 : RdM w q2 (some (blk g)) s2 rs2) (hs1 : Shp (mt rs1) m n) (hs2 : Shp (mt rs2) n l)
    (hm : 1 ≤ m) (hm2 : m ≤ 256) (hn : 1 ≤ n) (hn2 : n ≤ 256) (hl2 : l ≤ 256) :
    Calls PP F_matrix_Matrix_Mul #[.pointer (some (blk q1)), .pointer (some (blk q2))] w (Rt fun v w' => ∃ q s rs, v = .tuple #[.pointer (some (blk q)), .int .i64 0] ∧ Shp (mt rs) m l ∧ (∀ i c, i < m → c < l → ent (mt rs) i c = dot n (ent (mt rs1) i) fun j => ent (mt rs2) j c) ∧ Hp w w' (star (matA q (some (blk g)) s rs) emp)) := by
  refine sim_matrix_Matrix_Mul _ _ _ _ ?_
  unfold vc_matrix_Matrix_Mul
  have hl1 : rs1.length = m := by have := hs1.len; simpa using this
  have hl2' : rs2.length = n := by have := hs2.len; simpa using this
  have r1 : ∀ i (hi : i < rs1.length), rs1[i].2.length = n := fun i hi => hs1.row _ (List.mem_map_of_mem (List.getElem_mem hi))
  have r2 : ∀ i (hi : i < rs2.length), rs2[i].2.length = l := fun i hi => hs2.row _ (List.mem_map_of_mem (List.getElem_mem hi))
  refine ⟨fun h => by simp at h, fun _ => ⟨fun b w' => b = false ∧ Fr [] w w', ⟨fun h => by simp at h, fun _ => ?_⟩, ?_⟩⟩
  · have f1 : Fr [] w (w.drewN 1) := ((Hp.start w).drew 1).fr
    refine ⟨_, rfl, some (blk g), ((h2.fr0 f1).box.cell (i := 0) rfl), _, rfl, some (blk g), ((h1.fr0 f1).box.cell (i := 0) rfl), ?_⟩
    refine call (poly_c (hK.fr f1 (by simp))) ?_
    rintro _ w1 ⟨rfl, rfl⟩
    refine ⟨_, rfl, ((h1.fr0 f1).box.cell (i := 0) rfl), call (poly_c (hK.fr f1 (by simp))) ?_⟩
    rintro _ w1 ⟨rfl, rfl⟩
    exact ⟨_, rfl, rfl, f1⟩
  · rintro _ w12 ⟨rfl, f12⟩
    refine ⟨fun h => by simp at h, fun _ => ⟨_, rfl, s1, (h1.fr0 f12).box.cell (i := 1) rfl, (h1.fr0 f12).rows.cel.rdS (i := 0) (by omega) fun a ha => ⟨_, rfl, s2, (h2.fr0 f12).box.cell (i := 1) rfl, fun k => ⟨fun h => ?_, fun _ => ?_⟩⟩⟩⟩
    · have e1 := ((h1.fr0 f12).rows.at_ (i := 0) (by omega)).len
      have e2 := (h2.rows.cel).lenM
      rw [e1, e2, r1 0 (by omega)] at h
      simp at h
      omega
    have H := (((Hp.start w).fr0 f12).drew k).drew 1
    have h1' := h1.fr0 H.fr
    have h2' := h2.fr0 H.fr
    refine ⟨some (blk g), h1'.box.cell (i := 0) rfl, s1, h1'.box.cell (i := 1) rfl, s2, h2'.box.cell (i := 1) rfl, h2'.rows.cel.rdS (i := 0) (by omega) fun a2 ha2 => ?_⟩
    have e1 := h1.rows.cel.lenM
    have e2 := (h2'.rows.at_ (i := 0) (by omega)).len
    rw [r2 0 (by omega)] at e2
    refine call (blank_c (by omega) (by omega) H) ?_
    rintro _ w2 ⟨q, s, rs0, rfl, hrs0, H⟩
    rw [e1, e2, hl1] at hrs0
    have hS0 : Shp (mt rs0) m l := by unfold mt; rw [hrs0]; exact Shp.blank _ _
    have hZ0 : ∀ i c, ent (mt rs0) i c = 0 := fun i c => by unfold mt; rw [hrs0]; exact ent_blank _ _ _ _
    refine ⟨_, rfl, s1, (h1.fr0 H.fr).box.cell (i := 1) rfl, fun i w' => ∃ (j : Nat) (rs : Rws), i = (j : Int) ∧ j ≤ m ∧ Shp (mt rs) m l ∧ (∀ i c, i < j → c < l → ent (mt rs) i c = dot n (ent (mt rs1) i) fun j => ent (mt rs2) j c) ∧ (∀ i c, j ≤ i → ent (mt rs) i c = 0) ∧ Hp w w' (star (bk q Ty_matrix_Matrix #[.pointer (some (blk g)), s.v]) (star (own Ty_sl_uint8 1 s (rs.map fun r => r.1.v)) (star (all rwA rs) emp))), fun i _ => m - i.toNat, ⟨0, rs0, rfl, Nat.zero_le _, hS0, fun i c hi => by omega, fun i c _ => hZ0 i c, matOpen H⟩, ?_⟩
    rintro _ w3 ⟨j, rs, rfl, hj, hS, hent, hz, H⟩
    have hrl : rs.length = m := by have := hS.len; simpa using this
    refine ⟨fun h => ?_, fun h => ?_⟩
    · have hlt : j < m := by simp only [decide_eq_true_eq] at h; omega
      refine ⟨fun w' => ∃ (rs : Rws), Shp (mt rs) m l ∧ (∀ i c, i < j + 1 → c < l → ent (mt rs) i c = dot n (ent (mt rs1) i) fun j => ent (mt rs2) j c) ∧ (∀ i c, j + 1 ≤ i → ent (mt rs) i c = 0) ∧ Hp w w' (star (bk q Ty_matrix_Matrix #[.pointer (some (blk g)), s.v]) (star (own Ty_sl_uint8 1 s (rs.map fun r => r.1.v)) (star (all rwA rs) emp))), ?_, ?_⟩
      · refine (h1.fr0 H.fr).rows.cel.rdS (by omega) fun a3 ha3 => ?_
        refine ⟨fun c w' => ∃ (t : Nat) (rs : Rws), c = (t : Int) ∧ t ≤ n ∧ Shp (mt rs) m l ∧ (∀ i c, i < j → c < l → ent (mt rs) i c = dot n (ent (mt rs1) i) fun j => ent (mt rs2) j c) ∧ (∀ i c, j + 1 ≤ i → ent (mt rs) i c = 0) ∧ (∀ c, c < l → ent (mt rs) j c = sumX t fun x => mul (ent (mt rs1) j x) (ent (mt rs2) x c)) ∧ Hp w w' (star (bk q Ty_matrix_Matrix #[.pointer (some (blk g)), s.v]) (star (own Ty_sl_uint8 1 s (rs.map fun r => r.1.v)) (star (all rwA rs) emp))), fun c _ => n - c.toNat, ⟨0, rs, rfl, Nat.zero_le _, hS, hent, fun i c hi => hz i c (by omega), fun c _ => hz j c (Nat.le_refl _), H⟩, ?_⟩
        rintro _ w5 ⟨t, rs, rfl, htn, hS, hent, hz, hrw, H⟩
        have hrl : rs.length = m := by have := hS.len; simpa using this
        have hjr : j < rs.length := by omega
        have hrow : rs[j].2.length = l := hS.row _ (List.mem_map_of_mem (List.getElem_mem hjr))
        have hrd := (h1.fr0 H.fr).rows.at_ (i := j) (by omega)
        have hrdl := hrd.len
        rw [r1 j (by omega)] at hrdl
        refine ⟨fun h => ?_, fun h => ?_⟩
        · have htlt : t < n := by simp only [decide_eq_true_eq] at h; omega
          refine hrd.rd (i := t) (by rw [r1 j (by omega)]; exact htlt) fun a4 ha4 => ?_
          have H := H.drew 1
          have hR := rdR H.drop
          have hR2 := (h2.fr0 H.fr).rows
          refine ⟨_, (h1.fr0 H.fr).box.cell (i := 0) rfl, _, rfl, s, H.cell (b := q) (i := 1) rfl, hR.cel.rdS hjr fun a5 ha5 => ⟨s2, (h2.fr0 H.fr).box.cell (i := 1) rfl, hR2.cel.rdS (i := t) (by omega) fun a6 ha6 => ?_⟩⟩
          have H2 := pickRow rs H hjr
          refine call (addMul_c (p := g) (bs := rs[j].2) (xs := (rs2[t]'(by omega)).2) ((rs1[j]'(by omega)).2[t]'(by rw [r1 j (by omega)]; exact htlt)) (fun w' A X => hK.fr X.fr (by simp)) (fun w' A X => (h2.fr0 X.fr).rows.at_ (by omega)) (by rw [r2 t (by omega), hrow]) (by omega) H2) ?_
          rintro _ w6 ⟨rfl, H⟩
          have H := putRow hjr H
          rw [ofW t (by omega)]
          refine ⟨_, rfl, ⟨t + 1, _, rfl, by omega, ?_, ?_, ?_, ?_, by rw [upd_sl]; exact (H.own s).blk q⟩, by dsimp only; omega⟩
          · rw [upd_mt]; exact hS.set (by rw [addR_len (by rw [r2 t (by omega), hrow])]; exact hrow)
          · intro i c hi hc
            rw [upd_mt, ent_set (by simpa using hjr), if_neg (by omega)]
            exact hent i c hi hc
          · intro i c hi
            rw [upd_mt, ent_set (by simpa using hjr), if_neg (by omega)]
            exact hz i c hi
          · intro c hc
            have hm1 : (mt rs)[j]'(by simpa using hjr) = rs[j].2 := by simp [mt]
            rw [upd_mt, ent_set (by simpa using hjr), if_pos rfl, addR_at (by rw [r2 t (by omega), hrow]), ← hm1, ← ent_at (by simpa using hjr), hrw c hc]
            show _ = sumX t _ ^^^ mul _ _
            congr 2
            · rw [ent_at2 (by simp [mt]; omega) (by simp [mt]; rw [r1 j (by omega)]; exact htlt)]; simp [mt]
            · rw [ent_at (by simp [mt]; omega)]; simp [mt]
        · have hte : t = n := by simp only [decide_eq_false_iff_not] at h; omega
          subst hte
          refine ⟨rs, hS, fun i c hi hc => ?_, hz, H⟩
          by_cases hij : i = j
          · subst hij; exact hrw c hc
          · exact hent i c (by omega) hc
      · rintro w4 ⟨rs, hS, hent, hz, H⟩
        rw [ofW j (by omega)]
        exact ⟨⟨j + 1, rs, rfl, by omega, hS, hent, hz, H⟩, by dsimp only; omega⟩
    · have hje : j = m := by simp only [decide_eq_false_iff_not] at h; omega
      subst hje
      exact Rt.ok ⟨q, s, rs, rfl, hS, hent, matClose H⟩
end
end Go.Proofs.YtabifopphhpciaaGreat
