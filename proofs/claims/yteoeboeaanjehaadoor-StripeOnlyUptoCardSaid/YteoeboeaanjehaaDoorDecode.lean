/-
  Contracts: slices.Equal, code.Decode.
-/
import Derived.Test.YteoeboeaanjehaaDoorParts
namespace Go.Proofs.YteoeboeaanjehaaDoor
open Go Go.Vc Go.Vc.Asn Go.Gf
section
variable {w0 w : World} {F : Asn} {s p : Slc} {rs : Rws} {g n k q : Nat} {ps : List Pt}
theorem equal_c {a b : Slc} {xs ys : List UInt8} (ha : Byt w a xs) (hb : Byt w b ys) (hl : xs.length ≤ 1099511627776) :
    Calls PP F_slices_Equal #[a.v, b.v] w (Rt fun v w' => v = .bool (decide (xs = ys)) ∧ Fr [] w w') := by
  refine sim_slices_Equal _ _ _ _ ?_
  unfold vc_slices_Equal
  rw [show (a.l : Int) = (xs.length : Int) by rw [ha.len], show (b.l : Int) = (ys.length : Int) by rw [hb.len]]
  have e1 := ha.len
  have e2 := hb.len
  refine ⟨fun h => Rt.ok ⟨?_, Fr.refl _ _⟩, fun h => ⟨fun x w' => ∃ j : Nat, x = (j : Int) ∧ j ≤ xs.length ∧ (∀ i, i < j → xs[i]? = ys[i]?) ∧ Fr [] w w', fun x _ => xs.length - x.toNat, ⟨0, rfl, Nat.zero_le _, fun i hi => by omega, Fr.refl _ _⟩, ?_⟩⟩
  · simp only [decide_eq_true_eq] at h
    rw [decide_eq_false fun e => h (by rw [e])]
  have hlen : xs.length = ys.length := by simp only [decide_eq_false_iff_not, ne_eq, Decidable.not_not] at h; omega
  rintro _ w1 ⟨j, rfl, hj, heq, f⟩
  refine ⟨fun h => ?_, fun h => ?_⟩
  · have hlt : j < xs.length := by simp only [decide_eq_true_eq] at h; omega
    obtain ⟨a1, h1, h2, h3, l1, h4, h5⟩ := (ha.fr0 f).rd (Q := fun _ l => l = (xs[j].toNat : Int)) hlt fun _ _ => rfl
    obtain ⟨a2, g1, g2, g3, l2, g4, g5⟩ := (hb.fr0 f).rd (Q := fun _ l => l = ((ys[j]'(by omega)).toNat : Int)) (by omega) fun _ _ => rfl
    subst h5 g5
    refine ⟨a1, h1, h2, by omega, _, h4, a2, g1, g2, by omega, _, g4, fun kk => ?_⟩
    have f2 : Fr [] w (w1.drewN kk) := f.drewN kk
    refine ⟨fun h => Rt.ok ⟨?_, f2⟩, fun h => ?_⟩
    · simp only [decide_eq_true_eq] at h
      rw [decide_eq_false fun e => h (by subst e; rfl)]
    · simp only [decide_eq_false_iff_not, ne_eq, Decidable.not_not] at h
      rw [ofW j (by omega)]
      refine ⟨⟨j + 1, rfl, by omega, fun i hi => ?_, f2⟩, by dsimp only; omega⟩
      by_cases hij : i = j
      · subst hij
        rw [List.getElem?_eq_getElem hlt, List.getElem?_eq_getElem (by omega)]
        congr 1
        exact UInt8.toNat_inj.1 (by omega)
      · exact heq i (by omega)
  · have hje : j = xs.length := by simp only [decide_eq_false_iff_not] at h; omega
    subst hje
    refine Rt.ok ⟨?_, f⟩
    rw [decide_eq_true (List.ext_getElem? fun i => ?_)]
    by_cases hi : i < xs.length
    · exact heq i hi
    · rw [List.getElem?_eq_none (by omega), List.getElem?_eq_none (by omega)]
/-- What it means that nothing is refused. -/
theorem refused0 (h : refusedV n k ps = 0) : (∀ p ∈ ps, 0 ≤ p.ix ∧ p.ix < (n : Int)) ∧ (ps.map (·.ix)).Nodup ∧ (∀ p ∈ ps, p.bs.length = (ps.headD ⟨0, Slc.nil, []⟩).bs.length) ∧ k ≤ ps.length := by
  unfold refusedV at h
  by_cases h1 : ∃ p ∈ ps, p.ix < 0 ∨ (n : Int) ≤ p.ix
  · rw [if_pos h1] at h; simp at h
  rw [if_neg h1] at h
  by_cases h2 : (ps.map (·.ix)).Nodup
  · rw [if_neg (fun x => x h2)] at h
    by_cases h3 : ∃ p ∈ ps, p.bs.length ≠ (ps.headD ⟨0, Slc.nil, []⟩).bs.length
    · rw [if_pos h3] at h; simp at h
    rw [if_neg h3] at h
    by_cases h4 : ps.length < k
    · rw [if_pos h4] at h; simp at h
    refine ⟨fun p hp => ?_, h2, fun p hp => Classical.byContradiction fun e => h3 ⟨p, hp, e⟩, by omega⟩
    have h5 : ¬ (p.ix < 0 ∨ (n : Int) ≤ p.ix) := fun e => h1 ⟨p, hp, e⟩
    omega
  · rw [if_pos h2] at h; simp at h
/-- Parts as pairs. -/
def prs (ps : List Pt) : List (Nat × List UInt8) := ps.map fun p => (p.ix.toNat, p.bs)
/-- What Decode answers. -/
def DecPost (n k : Nat) (R : List (List UInt8)) (ps : List Pt) (w : World) (v : Value) (w' : World) : Prop :=
  (refusedV n k ps ≠ 0 ∧ v = .tuple #[Slc.nil.v, .int .i64 (refusedV n k ps)] ∧ Fr [] w w') ∨
  (refusedV n k ps = 0 ∧ ∃ D l, Shp D k l ∧ (∀ p ∈ ps, p.bs.length = l) ∧ Agrees R D l (prs ps) ∧ ∃ o os, v = .tuple #[o.v, .int .i64 0] ∧ mt os = D ∧ Hp w w' (star (rwsA o os) emp)) ∨
  (refusedV n k ps = 0 ∧ v = .tuple #[Slc.nil.v, .int .i64 26] ∧ Fr [] w w' ∧ ∀ D l, Shp D k l → ¬ Agrees R D l (prs ps))
theorem back_map {X Y : List (List UInt8)} {k l : Nat} (hX : Shp X k k) (hY : Shp Y k l) : X.map (fun fs => lin fs Y l) = back (ent X) Y k l := by
  have hS : Shp (X.map fun fs => lin fs Y l) k l := ⟨by rw [List.length_map]; exact hX.len, fun r hr => by
    obtain ⟨x, _, rfl⟩ := List.mem_map.1 hr
    exact lin_len _ _ _⟩
  refine ent_ext hS (back_shp _ _ _ _) fun i j hi hj => ?_
  have hi' : i < X.length := by rw [hX.len]; exact hi
  rw [back_ent _ _ hi hj, ent_at (by rw [List.length_map]; exact hi'), List.getElem_map, lin_ent hi' hj, hY.len]
set_option maxHeartbeats 1000000 in
theorem decode_c (hC : RdCode w q g s rs n k) (hP : RdP w p ps) (hl : ps.length ≤ 1099511627776) (hbl : ∀ r ∈ ps, r.bs.length ≤ 16777216) :
    Calls PP F_code_Code_Decode #[.pointer (some (blk q)), p.v] w (Rt (DecPost n k (mt rs) ps w)) := by
  refine sim_code_Code_Decode _ _ _ _ ?_
  unfold vc_code_Code_Decode
  have hpl := hP.len
  have hk := hC.hk
  have hkn := hC.hkn
  have hn := hC.hn
  have hrl := shpLen hC.gen.shp
  have hsl := hC.rows.cel.lenM
  refine ⟨fun h => by simp at h, fun _ => call (refused_c hC hP hl) ?_⟩
  rintro _ w1 ⟨rfl, f1⟩
  refine ⟨_, rfl, fun h => Rt.ok (.inl ⟨by simpa using h, rfl, f1⟩), fun h => ?_⟩
  have hr0 : refusedV n k ps = 0 := by simpa using h
  obtain ⟨hix, hnd, heqL, hkp⟩ := refused0 hr0
  have hpc := hP.cel.cap
  have hcut : RdP w (p.cut 2 0 k) (ps.take k) := by
    have := hP.cut (l := 0) (m := k) (Nat.zero_le _) hkp
    simpa using this
  have hcl : (p.cut 2 (Int.toNat 0) (Int.toNat (k : Int))).l = k := by show Int.toNat (k : Int) - 0 = k; omega
  have hcutE : p.cut 2 (Int.toNat 0) (Int.toNat (k : Int)) = p.cut 2 0 k := by rw [Int.toNat_natCast]; rfl
  have hrsix : ∀ j (hj : j < ps.length), ∃ i : Nat, ps[j].ix = (i : Int) ∧ i < n := fun j hj => by
    have := hix _ (List.getElem_mem hj)
    exact ⟨ps[j].ix.toNat, by omega, by omega⟩
  refine ⟨_, rfl, (k : Int), (hC.fr0 f1).box.cell (i := 2) rfl, by omega, by omega, by omega, ?_⟩
  rw [hcutE]
  refine ⟨fun r gg x w' => ∃ j : Nat, x = (j : Int) ∧ j ≤ k ∧ Hp w w' (star (own Ty_sl_uint8 1 r (((ps.take j).map fun e => rs.getD e.ix.toNat (Slc.nil, [])).map fun e => e.1.v)) (star (own Ty_sl_uint8 1 gg (((ps.take j).map fun e => (e.sl, e.bs)).map fun e => e.1.v)) emp)), fun _ _ x _ => k - x.toNat,
    ⟨0, rfl, Nat.zero_le _, (((Hp.start w).fr0 f1).nilRow Ty_sl_uint8 1).nilRow Ty_sl_uint8 1⟩, ?_⟩
  rintro r gg _ w2 ⟨j, rfl, hj, H⟩
  have hrL := (H.cel (s := r)).lenM
  have hgL := (H.drop.cel (s := gg)).lenM
  rw [List.length_map, List.length_take] at hrL hgL
  refine ⟨fun h => ?_, fun h => ?_⟩
  · have hlt : j < k := by
      simp only [decide_eq_true_eq] at h
      have : ((p.cut 2 0 k).l : Int) = (k : Int) := by rw [← hcutE]; exact congrArg Int.ofNat hcl
      omega
    have hjp : j < ps.length := by omega
    have hjt : j < (ps.take k).length := by rw [List.length_take]; omega
    have ej : (ps.take k)[j] = ps[j] := by simp
    obtain ⟨i, hi, hin⟩ := hrsix j hjp
    have hir : i < rs.length := by omega
    refine (hcut.fr0 H.fr).rd hjt fun a ha => ?_
    rw [ej]
    refine H.new fun b43 w3 H => H.stoAll (b := b43) (by rfl) fun w4 H => ?_
    have H := H.drew 1
    have et : (ps.take (j + 1)) = ps.take j ++ [ps[j]] := by rw [List.take_add_one, List.getElem?_eq_getElem hjp]; rfl
    have eg : rs.getD ps[j].ix.toNat (Slc.nil, []) = rs[i] := by rw [hi, Int.toNat_natCast, List.getD_eq_getElem?_getD, List.getElem?_eq_getElem hir]; rfl
    refine ⟨s, (hC.fr0 H.fr).box.cell (i := 3) rfl, (i : Int), by rw [← hi]; exact H.cell (b := b43) (i := 0) rfl, (hC.fr0 H.fr).rows.cel.rdS hir fun a2 ha2 => ?_⟩
    refine Hp.app1 (s := r) slT_sl_sl_uint8 H rfl (by unfold maxLen; omega) (by omega) fun r2 w5 H hr2 => ⟨_, H.cell (b := b43) (i := 1) rfl, ?_⟩
    refine Hp.app1 (s := gg) slT_sl_sl_uint8 H rfl (by unfold maxLen; omega) (by omega) fun g2 w6 H hg2 => ?_
    rw [ofW j (by omega)]
    refine ⟨⟨j + 1, rfl, by omega, ?_⟩, by dsimp only; omega⟩
    rw [et]
    simp only [List.map_append, List.map_cons, List.map_nil, eg]
    exact ((H.blk b43).drop).own r2
  · have hje : j = k := by
      simp only [decide_eq_false_iff_not] at h
      have : ((p.cut 2 0 k).l : Int) = (k : Int) := by rw [← hcutE]; exact congrArg Int.ofNat hcl
      omega
    subst hje
    -- the rows that the first parts name, and what these parts hold
    generalize hRS : (ps.take j).map (fun e => rs.getD e.ix.toNat (Slc.nil, [])) = RS at *
    generalize hGS : (ps.take j).map (fun e => (e.sl, e.bs)) = GS at *
    have hRSl : RS.length = j := by rw [← hRS, List.length_map, List.length_take]; omega
    have hGSl : GS.length = j := by rw [← hGS, List.length_map, List.length_take]; omega
    have hRSat : ∀ i (hi : i < j), ∃ x : Nat, (ps[i]'(by omega)).ix = (x : Int) ∧ ∃ hx : x < rs.length, RS[i]'(by omega) = rs[x] := fun i hi => by
      obtain ⟨x, h1, h2⟩ := hrsix i (by omega)
      refine ⟨x, h1, by omega, ?_⟩
      subst hRS
      simp only [List.getElem_map, List.getElem_take, h1, Int.toNat_natCast]
      rw [List.getD_eq_getElem?_getD, List.getElem?_eq_getElem (by omega)]; rfl
    have hGSat : ∀ i (hi : i < j), GS[i]'(by omega) = ((ps[i]'(by omega)).sl, (ps[i]'(by omega)).bs) := fun i hi => by
      subst hGS
      simp only [List.getElem_map, List.getElem_take]
    obtain ⟨l, hL⟩ : ∃ l, l = (ps.headD ⟨0, Slc.nil, []⟩).bs.length := ⟨_, rfl⟩
    rw [← hL] at heqL
    have hl16 : l ≤ 16777216 := by
      have h1 := heqL _ (List.getElem_mem (show 0 < ps.length by omega))
      have h2 := hbl _ (List.getElem_mem (show 0 < ps.length by omega))
      omega
    have hSR : Shp (mt RS) j j := ⟨by rw [mt_len]; exact hRSl, fun x hx => by
      obtain ⟨i, hi, rfl⟩ := List.getElem_of_mem hx
      rw [mt_len] at hi
      obtain ⟨y, _, hy, e⟩ := hRSat i (by omega)
      rw [mt_at hi, e]
      exact shpRow hC.gen.shp hy⟩
    have hSG : Shp (mt GS) j l := ⟨by rw [mt_len]; exact hGSl, fun x hx => by
      obtain ⟨i, hi, rfl⟩ := List.getElem_of_mem hx
      rw [mt_len] at hi
      rw [mt_at hi, hGSat i (by omega)]
      exact heqL _ (List.getElem_mem _)⟩
    have hRR : RdR w2 r RS := ⟨H.cel (s := r), fun x hx => by
      obtain ⟨i, hi, rfl⟩ := List.getElem_of_mem hx
      obtain ⟨y, _, hy, e⟩ := hRSat i (by omega)
      rw [e]
      exact (hC.fr0 H.fr).rows.at_ hy⟩
    have hRG : RdR w2 gg GS := ⟨H.drop.cel (s := gg), fun x hx => by
      obtain ⟨i, hi, rfl⟩ := List.getElem_of_mem hx
      rw [hGSat i (by omega)]
      exact (hP.fr0 H.fr).at_ _⟩
    refine ⟨_, (hC.fr0 H.fr).box.cell (i := 0) rfl, call (matNew_c hRR hSR hk (by omega) hk (by omega)) ?_⟩
    rintro _ w3 ⟨q1, s1, r1, rfl, hm1, H1⟩
    have H2 := H.beside H1
    have hM : ∀ i c, i < j → c < j → ent (mt r1) i c = ent (mt rs) ((ps.getD i ⟨0, Slc.nil, []⟩).ix.toNat) c := fun i c hi hc => by
      obtain ⟨x, h1, h2, e⟩ := hRSat i hi
      rw [hm1, ent_at (by rw [mt_len]; omega), mt_at (by omega), e, List.getD_eq_getElem?_getD (l := ps), List.getElem?_eq_getElem (by omega)]
      show _ = ent (mt rs) ((ps[i]'(by omega)).ix.toNat) c
      rw [h1, Int.toNat_natCast, ent_at (by rw [mt_len]; exact h2), mt_at h2]
    have hT : Triv (ent (mt r1)) j := by
      have hA := hC.gen.any hn hkn (fun i => (ps.getD i ⟨0, Slc.nil, []⟩).ix.toNat) (fun i hi => by
          obtain ⟨x, h1, h2⟩ := hrsix i (by omega)
          rw [List.getD_eq_getElem?_getD (l := ps), List.getElem?_eq_getElem (by omega)]
          show (ps[i]'(by omega)).ix.toNat < n
          rw [h1, Int.toNat_natCast]; exact h2) (fun i i' hi hi' e => by
          simp only [List.getD_eq_getElem?_getD] at e
          rw [List.getElem?_eq_getElem (show i < ps.length by omega), List.getElem?_eq_getElem (show i' < ps.length by omega)] at e
          simp only [Option.getD_some] at e
          obtain ⟨x, h1, h2⟩ := hrsix i (by omega)
          obtain ⟨x', h1', h2'⟩ := hrsix i' (by omega)
          rw [h1, h1', Int.toNat_natCast, Int.toNat_natCast] at e
          refine (List.getElem_inj (xs := ps.map (·.ix)) (h₀ := by rw [List.length_map]; omega) (h₁ := by rw [List.length_map]; omega) hnd).1 ?_
          rw [List.getElem_map, List.getElem_map, h1, h1', e])
      intro v hv
      refine hA v fun i hi => ?_
      rw [← hv i hi]
      exact dot_congr (fun c hc => (hM i c hi hc).symm) fun _ _ => rfl
    have hS1 : Shp (mt r1) j j := by rw [hm1]; exact hSR
    refine ⟨_, _, rfl, call (invert_c (hC.field.fr H2.fr (by simp)) (rdM H1) hS1 hk (by omega) hT) ?_⟩
    rintro _ w4 ⟨q2, s2, r2, rfl, hS2, hI, H3⟩
    have H4 := H2.beside H3
    refine ⟨_, _, rfl, call (rows_c (rdM H3) (by rw [shpLen hS2]; omega) fun r hr => by
      obtain ⟨i, hi, rfl⟩ := List.getElem_of_mem hr
      rw [shpRow hS2 hi]; omega) ?_⟩
    rintro _ w5 ⟨s3, r3, rfl, hm3, H5⟩
    have H6 := H4.beside H5
    have hR3 : RdR w5 s3 r3 := rdR H5.assoc
    have hS3 : Shp (mt r3) j j := by rw [hm3]; exact hS2
    have hr3l := shpLen hS3
    have hs3l := hR3.cel.lenM
    have hRG5 : RdR w5 gg GS := hRG.fr0 (H1.fr.then_ (H3.fr.then_ H5.fr))
    have hC5 := hC.fr0 H6.fr
    have hP5 := hP.fr0 H6.fr
    refine ⟨s3, rfl, fun o x w' => ∃ (t : Nat) (os : Rws), x = (t : Int) ∧ t ≤ j ∧ mt os = ((mt r3).map (fun fs => lin fs (mt GS) l)).take t ∧ Hp w5 w' (star (own Ty_sl_uint8 1 o (os.map fun r => r.1.v)) (star (all rwA os) emp)), fun _ x _ => j - x.toNat, ⟨0, [], rfl, Nat.zero_le _, rfl, ((Hp.start w5).nilRow Ty_sl_uint8 1).ent (Ent.star (Ent.refl _) emp_l)⟩, ?_⟩
    rintro o _ w6 ⟨t, os, rfl, ht, hos, H⟩
    have hol : os.length = t := by have := congrArg List.length hos; simpa [hr3l, Nat.min_eq_left ht] using this
    have hosl := (H.cel (s := o)).lenM
    refine ⟨fun h => ?_, fun h => ?_⟩
    · have hlt : t < r3.length := by simp only [decide_eq_true_eq] at h; omega
      refine (hR3.fr0 H.fr).cel.rdS hlt fun a ha => ?_
      refine call (sum_c (hC5.fr0 H.fr) ((hR3.fr0 H.fr).at_ hlt) (hRG5.fr0 H.fr) hSG hk (by omega) (by rw [shpRow hS3 hlt]; exact Nat.le_refl _) hl16) ?_
      rintro _ w7 ⟨o2, rfl, H7⟩
      have H := H.beside H7
      refine ⟨o2, rfl, Hp.app1 (s := o) slT_sl_sl_uint8 H rfl (by unfold maxLen; omega) (by omega) fun o3 w8 H8 ho3 => ?_⟩
      rw [ofW t (by omega)]
      refine ⟨⟨t + 1, os ++ [(o2, lin r3[t].2 (mt GS) l)], rfl, by omega, ?_, ?_⟩, by dsimp only; omega⟩
      · show (os ++ [_]).map _ = _
        have hos : os.map (fun r => r.2) = ((mt r3).map (fun fs => lin fs (mt GS) l)).take t := hos
        rw [List.map_append, hos, List.take_add_one, List.getElem?_map, List.getElem?_map, List.getElem?_eq_getElem hlt]
        rfl
      · have H : Hp w5 w8 (star (own Ty_sl_uint8 1 o3 (os.map (fun r => r.1.v) ++ [o2.v])) (star (rwA (o2, lin r3[t].2 (mt GS) l)) (star emp (star (all rwA os) emp)))) := H8
        rw [List.map_append]
        exact H.ent (Ent.star (Ent.refl _) ((Ent.star (Ent.refl _) emp_l').trans (Asn.assoc'.trans (Ent.star (all_snoc rwA _ os) (Ent.refl _)))))
    · have hte : t = j := by simp only [decide_eq_false_iff_not] at h; omega
      subst hte
      rw [List.take_of_length_le (by rw [List.length_map, mt_len]; omega)] at hos
      have hD : mt os = back (ent (mt r2)) (mt GS) t l := by rw [hos, back_map hS3 hSG, hm3]
      have hSD : Shp (mt os) t l := by rw [hD]; exact back_shp _ _ _ _
      -- the first parts agree
      have hrow : ∀ i (hi : i < t), ∀ c, c < t → ((mt rs).getD ((ps[i]'(by omega)).ix.toNat) []).getD c 0 = ent (mt r1) i c := fun i hi c hc => by
        rw [hM i c hi hc, List.getD_eq_getElem?_getD (l := ps), List.getElem?_eq_getElem (by omega)]; rfl
      have hfirst : ∀ i (hi : i < t), lin ((mt rs).getD ((ps[i]'(by omega)).ix.toNat) []) (mt os) l = (ps[i]'(by omega)).bs := fun i hi => by
        rw [hD, back_agrees hI hSG hi (hrow i hi), mt_at (by omega), hGSat i hi]
      have huniq : ∀ D l', Shp D t l' → Agrees (mt rs) D l' (prs ps) → l' = l ∧ D = mt os := fun D l' hS' hA => by
        have hA' : ∀ i (hi : i < ps.length), lin ((mt rs).getD (ps[i].ix.toNat) []) D l' = ps[i].bs := fun i hi => hA (ps[i].ix.toNat, ps[i].bs) (List.mem_map_of_mem (List.getElem_mem hi))
        have e : l' = l := by
          have h1 := congrArg List.length (hA' 0 (by omega))
          rw [lin_len] at h1
          rw [h1]; exact heqL _ (List.getElem_mem _)
        subst e
        refine ⟨rfl, ?_⟩
        rw [hD]
        refine back_uniq hI hSG hS' fun i hi => ⟨_, hrow i hi, ?_⟩
        rw [hA' i (by omega), mt_at (by omega), hGSat i hi]
      have hpcl : ((p.cut 2 (Int.toNat (t : Int)) (Int.toNat (p.l : Int))).l : Int) = ((ps.length - t : Nat) : Int) := by
        show ((Int.toNat (p.l : Int) - Int.toNat (t : Int) : Nat) : Int) = _
        omega
      have hcut2 : RdP w (p.cut 2 (Int.toNat (t : Int)) (Int.toNat (p.l : Int))) (ps.drop t) := by
        have := hP.cut (l := t) (m := ps.length) hkp (Nat.le_refl _)
        rw [List.take_of_length_le (by rw [List.length_drop]; exact Nat.le_refl _)] at this
        rw [Int.toNat_natCast, Int.toNat_natCast, hpl]
        exact this
      refine ⟨(t : Int), (hC5.fr0 H.fr).box.cell (i := 2) rfl, by omega, by omega, by omega, ?_⟩
      rw [hpcl]
      have hH0 := H
      refine ⟨fun x w' => ∃ u : Nat, x = (u : Int) ∧ u ≤ ps.length - t ∧ (∀ i (hi : i < ps.length), i < t + u → lin ((mt rs).getD (ps[i].ix.toNat) []) (mt os) l = ps[i].bs) ∧ Fr [] w6 w', fun x _ => ps.length - t - x.toNat, ⟨0, rfl, Nat.zero_le _, fun i hi h => hfirst i (by omega), Fr.refl _ _⟩, ?_⟩
      rintro _ w7 ⟨u, rfl, hu, hall, f7⟩
      have H := hH0.fr0 f7
      refine ⟨fun h => ?_, fun h => ?_⟩
      · have hlt : u < ps.length - t := by simp only [decide_eq_true_eq] at h; omega
        have hut : t + u < ps.length := by omega
        have hud : u < (ps.drop t).length := by rw [List.length_drop]; exact hlt
        have eu : (ps.drop t)[u] = ps[t + u] := by rw [List.getElem_drop]
        obtain ⟨x, hx, hxn⟩ := hrsix (t + u) hut
        have hxr : x < rs.length := by omega
        obtain ⟨a, h1, h2, h3, h4⟩ := (hcut2.fr0 (H6.fr.then_ H.fr)).rd (Q := fun _ I D => I = ps[t + u].ix ∧ D = ps[t + u].sl) hud fun a _ => by rw [eu]; exact ⟨rfl, rfl⟩
        obtain ⟨I, h5, D, h6, rfl, rfl⟩ := h4
        refine ⟨a, h1, h2, by omega, _, h5, _, h6, ?_⟩
        refine (Hp.start w7).new fun b w8 G => G.stoAll (b := b) (by rfl) fun w9 G => ?_
        have G := G.drew 1
        have hC9 := (hC5.fr0 H.fr).fr0 G.fr
        have e5 : (mt rs).getD (ps[t + u].ix.toNat) [] = rs[x].2 := by rw [hx, Int.toNat_natCast, List.getD_eq_getElem?_getD, List.getElem?_map, List.getElem?_eq_getElem hxr]; rfl
        refine ⟨s, hC9.box.cell (i := 3) rfl, (x : Int), by rw [← hx]; exact G.cell (b := b) (i := 0) rfl, hC9.rows.cel.rdS hxr fun a2 ha2 => ⟨_, G.cell (b := b) (i := 1) rfl, ?_⟩⟩
        have hRos : RdR w7 o os := rdR H
        refine call (sum_c hC9 (hC9.rows.at_ hxr) (hRos.fr0 G.fr) hSD hk (by omega) (by rw [shpRow hC.gen.shp hxr]; exact Nat.le_refl _) hl16) ?_
        rintro _ w10 ⟨o2, rfl, G2⟩
        have G3 := G.beside G2
        refine ⟨o2, rfl, G3.cell (b := b) (i := 1) rfl, ?_⟩
        have hb1 : Byt w10 o2 (lin rs[x].2 (mt os) l) := G3.cel (s := o2)
        have hb2 : Byt w10 ps[t + u].sl ps[t + u].bs := (hP5.fr0 (H.fr.then_ G3.fr)).at_ hut
        refine call (equal_c hb1 hb2 (by rw [lin_len]; omega)) ?_
        rintro _ w11 ⟨rfl, f11⟩
        have f12 := G3.fr.then_ f11
        refine ⟨_, rfl, fun h => Rt.ok (.inr (.inr ⟨hr0, rfl, H6.fr.then_ (H.fr.then_ f12), fun D l' hS' hA => ?_⟩)), fun h => ?_⟩
        · obtain ⟨rfl, rfl⟩ := huniq D l' hS' hA
          simp only [Bool.not_eq_true', decide_eq_false_iff_not] at h
          apply h
          rw [← e5]
          exact hA (ps[t + u].ix.toNat, ps[t + u].bs) (List.mem_map_of_mem (List.getElem_mem hut))
        · rw [ofW u (by omega)]
          refine ⟨⟨u + 1, rfl, by omega, fun i hi hiu => ?_, f7.then_ f12⟩, by dsimp only; omega⟩
          by_cases hiu2 : i = t + u
          · subst hiu2
            rw [e5]
            simpa using h
          · exact hall i hi (by omega)
      · have hue : u = ps.length - t := by simp only [decide_eq_false_iff_not] at h; omega
        refine Rt.ok (.inr (.inl ⟨hr0, mt os, l, hSD, heqL, fun pr hpr => ?_, o, os, rfl, rfl, Hp.from H6.fr H.assoc'⟩))
        obtain ⟨r, hr, rfl⟩ := List.mem_map.1 hpr
        obtain ⟨i, hi, rfl⟩ := List.getElem_of_mem hr
        exact hall i hi (by omega)
end
end Go.Proofs.YteoeboeaanjehaaDoor
