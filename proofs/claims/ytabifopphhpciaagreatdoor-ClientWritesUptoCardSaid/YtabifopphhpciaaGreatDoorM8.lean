/-
  Contracts: slices.Equal, code.Decode.
-/
import Derived.Test.YtabifopphhpciaaGreatDoorM7
import Derived.Test.YtabifopphhpciaaGreatDoorM6
import Derived.ArgAppend
import Derived.Deep.Upon
import Derived.Laws.Append
import Derived.Lib.ConvBytes
namespace Go.Proofs.YtabifopphhpciaaGreatDoor
open Go Go.Vc Go.Vc.Asn Go.Gf
section
variable {w0 w : World} {F : Asn} {s p : Slc} {rs : Rws} {g n k q : Nat} {ps : List Pt}
theorem equal_c {a b : Slc} {xs ys : List UInt8} (ha : Byt w a xs) (hb : Byt w b ys) (hl : xs.length ≤ 1099511627776) :
    Calls PP F_slices_Equal #[a.v, b.v] w (Rt fun v w' => v = .bool (decide (xs = ys)) ∧ Fr [] w w') := by
  refine sim_slices_Equal _ _ _ _ ?_
  unfold vc_slices_Equal
  rw [show (a.l : Int) = (xs.length : Int) by rw [ha.len], show (b.l : Int) = (ys.length : Int) by rw [hb.len]]
  have e1 := ha.len
  have e2 := hb.len
  refine ⟨fun h => Rt.ok ⟨?_, Fr.refl _ _⟩, fun h => ⟨fun x w' => ∃ j : Nat, x = (j : Int) ∧ j ≤ xs.length ∧ (∀ i, i < j → xs[i]? = ys[i]?) ∧ Fr [] w w', fun x _ => xs.length - x.toNat, ⟨0, rfl, Nat.zero_le _, fun i hi => by omega, Fr.refl _ _⟩, ?_⟩⟩
  · simp only [decide_eq_true_eq] at h
    rw [decide_eq_false fun e => h (by rw [e])]
  have hlen : xs.length = ys.length := by simp only [decide_eq_false_iff_not, ne_eq, Decidable.not_not] at h; omega
  rintro _ w1 ⟨j, rfl, hj, heq, f⟩
  refine ⟨fun h => ?_, fun h => ?_⟩
  · have hlt : j < xs.length := by simp only [decide_eq_true_eq] at h; omega
    obtain ⟨a1, h1, h2, h3, l1, h4, h5⟩ := (ha.fr0 f).rd (Q := fun _ l => l = (xs[j].toNat : Int)) hlt fun _ _ => rfl
    obtain ⟨a2, g1, g2, g3, l2, g4, g5⟩ := (hb.fr0 f).rd (Q := fun _ l => l = ((ys[j]'(by omega)).toNat : Int)) (by omega) fun _ _ => rfl
    subst h5 g5
    refine ⟨a1, h1, h2, by omega, _, h4, a2, g1, g2, by omega, _, g4, fun kk => ?_⟩
    have f2 : Fr [] w (w1.drewN kk) := f.drewN kk
    refine ⟨fun h => Rt.ok ⟨?_, f2⟩, fun h => ?_⟩
    · simp only [decide_eq_true_eq] at h
      rw [decide_eq_false fun e => h (by subst e; rfl)]
    · simp only [decide_eq_false_iff_not, ne_eq, Decidable.not_not] at h
      rw [ofW j (by omega)]
      refine ⟨⟨j + 1, rfl, by omega, fun i hi => ?_, f2⟩, by dsimp only; omega⟩
      by_cases hij : i = j
      · subst hij
        rw [List.getElem?_eq_getElem hlt, List.getElem?_eq_getElem (by omega)]
        congr 1
        exact UInt8.toNat_inj.1 (by omega)
      · exact heq i (by omega)
  · have hje : j = xs.length := by simp only [decide_eq_false_iff_not] at h; omega
    subst hje
    refine Rt.ok ⟨?_, f⟩
    rw [decide_eq_true (List.ext_getElem? fun i => ?_)]
    by_cases hi : i < xs.length
    · exact heq i hi
    · rw [List.getElem?_eq_none (by omega), List.getElem?_eq_none (by omega)]
theorem refused0 (h : refusedV n k ps = 0) : (∀ p ∈ ps, 0 ≤ p.ix ∧ p.ix < (n : Int)) ∧ (ps.map (·.ix)).Nodup ∧ (∀ p ∈ ps, p.bs.length = (ps.headD ⟨0, Slc.nil, []⟩).bs.length) ∧ k ≤ ps.length := by
  unfold refusedV at h
  by_cases h1 : ∃ p ∈ ps, p.ix < 0 ∨ (n : Int) ≤ p.ix
  · rw [if_pos h1] at h; simp at h
  rw [if_neg h1] at h
  by_cases h2 : (ps.map (·.ix)).Nodup
  · rw [if_neg (fun x => x h2)] at h
    by_cases h3 : ∃ p ∈ ps, p.bs.length ≠ (ps.headD ⟨0, Slc.nil, []⟩).bs.length
    · rw [if_pos h3] at h; simp at h
    rw [if_neg h3] at h
    by_cases h4 : ps.length < k
    · rw [if_pos h4] at h; simp at h
    refine ⟨fun p hp => ?_, h2, fun p hp => Classical.byContradiction fun e => h3 ⟨p, hp, e⟩, by omega⟩
    have h5 : ¬ (p.ix < 0 ∨ (n : Int) ≤ p.ix) := fun e => h1 ⟨p, hp, e⟩
    omega
  · rw [if_pos h2] at h; simp at h
def prs (ps : List Pt) : List (Nat × List UInt8) := ps.map fun p => (p.ix.toNat, p.bs)
def DecPost (n k : Nat) (R : List (List UInt8)) (ps : List Pt) (w : World) (v : Value) (w' : World) : Prop :=
  (refusedV n k ps ≠ 0 ∧ v = .tuple #[Slc.nil.v, .int .i64 (refusedV n k ps)] ∧ Fr [] w w') ∨
  (refusedV n k ps = 0 ∧ ∃ D l, Shp D k l ∧ (∀ p ∈ ps, p.bs.length = l) ∧ Agrees R D l (prs ps) ∧ ∃ o os, v = .tuple #[o.v, .int .i64 0] ∧ mt os = D ∧ Hp w w' (star (rwsA o os) emp)) ∨
  (refusedV n k ps = 0 ∧ v = .tuple #[Slc.nil.v, .int .i64 26] ∧ Fr [] w w' ∧ ∀ D l, Shp D k l → ¬ Agrees R D l (prs ps))
theorem back_map {X Y : List (List UInt8)} {k l : Nat} (hX : Shp X k k) (hY : Shp Y k l) : X.map (fun fs => lin fs Y l) = back (ent X) Y k l := by
  have hS : Shp (X.map fun fs => lin fs Y l) k l := ⟨by rw [List.length_map]; exact hX.len, fun r hr => by
    obtain ⟨x, _, rfl⟩ := List.mem_map.1 hr
    exact lin_len _ _ _⟩
  refine ent_ext hS (back_shp _ _ _ _) fun i j hi hj => ?_
  have hi' : i < X.length := by rw [hX.len]; exact hi
  rw [back_ent _ _ hi hj, ent_at (by rw [List.length_map]; exact hi'), List.getElem_map, lin_ent hi' hj, hY.len]
set_option maxHeartbeats 1000000 in
theorem decode_c (hC : RdCode w q g s rs n k) (hP : RdP w p ps) (hl : ps.length ≤ 1099511627776) (hbl : ∀ r ∈ ps, r.bs.length ≤ 16777216) :
    Calls PP F_code_Code_Decode #[.pointer (some (blk q)), p.v] w (Rt (DecPost n k (mt rs) ps w)) := by
  refine sim_code_Code_Decode _ _ _ _ ?_
  unfold vc_code_Code_Decode
  have hpl := hP.len
  have hk := hC.hk
  have hkn := hC.hkn
  have hn := hC.hn
  have hrl := shpLen hC.gen.shp
  have hsl := hC.rows.cel.lenM
  refine ⟨fun h => by simp at h, fun _ => call (refused_c hC hP hl) ?_⟩
  rintro _ w1 ⟨rfl, f1⟩
  refine ⟨_, rfl, fun h => Rt.ok (.inl ⟨by simpa using h, rfl, f1⟩), fun h => ?_⟩
  have hr0 : refusedV n k ps = 0 := by simpa using h
  obtain ⟨hix, hnd, heqL, hkp⟩ := refused0 hr0
  have hpc := hP.cel.cap
  have hcut : RdP w (p.cut 2 0 k) (ps.take k) := by
    have := hP.cut (l := 0) (m := k) (Nat.zero_le _) hkp
    simpa using this
  have hcl : (p.cut 2 (Int.toNat 0) (Int.toNat (k : Int))).l = k := by show Int.toNat (k : Int) - 0 = k; omega
  have hcutE : p.cut 2 (Int.toNat 0) (Int.toNat (k : Int)) = p.cut 2 0 k := by rw [Int.toNat_natCast]; rfl
  have hrsix : ∀ j (hj : j < ps.length), ∃ i : Nat, ps[j].ix = (i : Int) ∧ i < n := fun j hj => by
    have := hix _ (List.getElem_mem hj)
    exact ⟨ps[j].ix.toNat, by omega, by omega⟩
  refine ⟨_, rfl, (k : Int), (hC.fr0 f1).box.cell (i := 2) rfl, by omega, by omega, by omega, ?_⟩
  rw [hcutE]
  refine ⟨fun r gg x w' => ∃ j : Nat, x = (j : Int) ∧ j ≤ k ∧ Hp w w' (star (own Ty_sl_uint8 1 r (((ps.take j).map fun e => rs.getD e.ix.toNat (Slc.nil, [])).map fun e => e.1.v)) (star (own Ty_sl_uint8 1 gg (((ps.take j).map fun e => (e.sl, e.bs)).map fun e => e.1.v)) emp)), fun _ _ x _ => k - x.toNat,
    ⟨0, rfl, Nat.zero_le _, (((Hp.start w).fr0 f1).nilRow Ty_sl_uint8 1).nilRow Ty_sl_uint8 1⟩, ?_⟩
  rintro r gg _ w2 ⟨j, rfl, hj, H⟩
  have hrL := (H.cel (s := r)).lenM
  have hgL := (H.drop.cel (s := gg)).lenM
  rw [List.length_map, List.length_take] at hrL hgL
  refine ⟨fun h => ?_, fun h => ?_⟩
  · have hlt : j < k := by
      simp only [decide_eq_true_eq] at h
      have : ((p.cut 2 0 k).l : Int) = (k : Int) := by rw [← hcutE]; exact congrArg Int.ofNat hcl
      omega
    have hjp : j < ps.length := by omega
    have hjt : j < (ps.take k).length := by rw [List.length_take]; omega
    have ej : (ps.take k)[j] = ps[j] := by simp
    obtain ⟨i, hi, hin⟩ := hrsix j hjp
    have hir : i < rs.length := by omega
    refine (hcut.fr0 H.fr).rd hjt fun a ha => ?_
    rw [ej]
    refine H.new fun b43 w3 H => H.stoAll (b := b43) (by rfl) fun w4 H => ?_
    have H := H.drew 1
    have et : (ps.take (j + 1)) = ps.take j ++ [ps[j]] := by rw [List.take_add_one, List.getElem?_eq_getElem hjp]; rfl
    have eg : rs.getD ps[j].ix.toNat (Slc.nil, []) = rs[i] := by rw [hi, Int.toNat_natCast, List.getD_eq_getElem?_getD, List.getElem?_eq_getElem hir]; rfl
    refine ⟨s, (hC.fr0 H.fr).box.cell (i := 3) rfl, (i : Int), by rw [← hi]; exact H.cell (b := b43) (i := 0) rfl, (hC.fr0 H.fr).rows.cel.rdS hir fun a2 ha2 => ?_⟩
    refine Hp.app1 (s := r) slT_sl_sl_uint8 H rfl (by unfold maxLen; omega) (by omega) fun r2 w5 H hr2 => ⟨_, H.cell (b := b43) (i := 1) rfl, ?_⟩
    refine Hp.app1 (s := gg) slT_sl_sl_uint8 H rfl (by unfold maxLen; omega) (by omega) fun g2 w6 H hg2 => ?_
    rw [ofW j (by omega)]
    refine ⟨⟨j + 1, rfl, by omega, ?_⟩, by dsimp only; omega⟩
    rw [et]
    simp only [List.map_append, List.map_cons, List.map_nil, eg]
    exact ((H.blk b43).drop).own r2
  · have hje : j = k := by
      simp only [decide_eq_false_iff_not] at h
      have : ((p.cut 2 0 k).l : Int) = (k : Int) := by rw [← hcutE]; exact congrArg Int.ofNat hcl
      omega
    subst hje
    -- the rows that the first parts name, and what these parts hold
    generalize hRS : (ps.take j).map (fun e => rs.getD e.ix.toNat (Slc.nil, [])) = RS at *
    generalize hGS : (ps.take j).map (fun e => (e.sl, e.bs)) = GS at *
    have hRSl : RS.length = j := by rw [← hRS, List.length_map, List.length_take]; omega
    have hGSl : GS.length = j := by rw [← hGS, List.length_map, List.length_take]; omega
    have hRSat : ∀ i (hi : i < j), ∃ x : Nat, (ps[i]'(by omega)).ix = (x : Int) ∧ ∃ hx : x < rs.length, RS[i]'(by omega) = rs[x] := fun i hi => by
      obtain ⟨x, h1, h2⟩ := hrsix i (by omega)
      refine ⟨x, h1, by omega, ?_⟩
      subst hRS
      simp only [List.getElem_map, List.getElem_take, h1, Int.toNat_natCast]
      rw [List.getD_eq_getElem?_getD, List.getElem?_eq_getElem (by omega)]; rfl
    have hGSat : ∀ i (hi : i < j), GS[i]'(by omega) = ((ps[i]'(by omega)).sl, (ps[i]'(by omega)).bs) := fun i hi => by
      subst hGS
      simp only [List.getElem_map, List.getElem_take]
    obtain ⟨l, hL⟩ : ∃ l, l = (ps.headD ⟨0, Slc.nil, []⟩).bs.length := ⟨_, rfl⟩
    rw [← hL] at heqL
    have hl16 : l ≤ 16777216 := by
      have h1 := heqL _ (List.getElem_mem (show 0 < ps.length by omega))
      have h2 := hbl _ (List.getElem_mem (show 0 < ps.length by omega))
      omega
    have hSR : Shp (mt RS) j j := ⟨by rw [mt_len]; exact hRSl, fun x hx => by
      obtain ⟨i, hi, rfl⟩ := List.getElem_of_mem hx
      rw [mt_len] at hi
      obtain ⟨y, _, hy, e⟩ := hRSat i (by omega)
      rw [mt_at hi, e]
      exact shpRow hC.gen.shp hy⟩
    have hSG : Shp (mt GS) j l := ⟨by rw [mt_len]; exact hGSl, fun x hx => by
      obtain ⟨i, hi, rfl⟩ := List.getElem_of_mem hx
      rw [mt_len] at hi
      rw [mt_at hi, hGSat i (by omega)]
      exact heqL _ (List.getElem_mem _)⟩
    have hRR : RdR w2 r RS := ⟨H.cel (s := r), fun x hx => by
      obtain ⟨i, hi, rfl⟩ := List.getElem_of_mem hx
      obtain ⟨y, _, hy, e⟩ := hRSat i (by omega)
      rw [e]
      exact (hC.fr0 H.fr).rows.at_ hy⟩
    have hRG : RdR w2 gg GS := ⟨H.drop.cel (s := gg), fun x hx => by
      obtain ⟨i, hi, rfl⟩ := List.getElem_of_mem hx
      rw [hGSat i (by omega)]
      exact (hP.fr0 H.fr).at_ _⟩
    refine ⟨_, (hC.fr0 H.fr).box.cell (i := 0) rfl, call (matNew_c hRR hSR hk (by omega) hk (by omega)) ?_⟩
    rintro _ w3 ⟨q1, s1, r1, rfl, hm1, H1⟩
    have H2 := H.beside H1
    have hM : ∀ i c, i < j → c < j → ent (mt r1) i c = ent (mt rs) ((ps.getD i ⟨0, Slc.nil, []⟩).ix.toNat) c := fun i c hi hc => by
      obtain ⟨x, h1, h2, e⟩ := hRSat i hi
      rw [hm1, ent_at (by rw [mt_len]; omega), mt_at (by omega), e, List.getD_eq_getElem?_getD (l := ps), List.getElem?_eq_getElem (by omega)]
      show _ = ent (mt rs) ((ps[i]'(by omega)).ix.toNat) c
      rw [h1, Int.toNat_natCast, ent_at (by rw [mt_len]; exact h2), mt_at h2]
    have hT : Triv (ent (mt r1)) j := by
      have hA := hC.gen.any hn hkn (fun i => (ps.getD i ⟨0, Slc.nil, []⟩).ix.toNat) (fun i hi => by
          obtain ⟨x, h1, h2⟩ := hrsix i (by omega)
          rw [List.getD_eq_getElem?_getD (l := ps), List.getElem?_eq_getElem (by omega)]
          show (ps[i]'(by omega)).ix.toNat < n
          rw [h1, Int.toNat_natCast]; exact h2) (fun i i' hi hi' e => by
          simp only [List.getD_eq_getElem?_getD] at e
          rw [List.getElem?_eq_getElem (show i < ps.length by omega), List.getElem?_eq_getElem (show i' < ps.length by omega)] at e
          simp only [Option.getD_some] at e
          obtain ⟨x, h1, h2⟩ := hrsix i (by omega)
          obtain ⟨x', h1', h2'⟩ := hrsix i' (by omega)
          rw [h1, h1', Int.toNat_natCast, Int.toNat_natCast] at e
          refine (List.getElem_inj (xs := ps.map (·.ix)) (h₀ := by rw [List.length_map]; omega) (h₁ := by rw [List.length_map]; omega) hnd).1 ?_
          rw [List.getElem_map, List.getElem_map, h1, h1', e])
      intro v hv
      refine hA v fun i hi => ?_
      rw [← hv i hi]
      exact dot_congr (fun c hc => (hM i c hi hc).symm) fun _ _ => rfl
    have hS1 : Shp (mt r1) j j := by rw [hm1]; exact hSR
    refine ⟨_, _, rfl, call (invert_c (hC.field.fr H2.fr (by simp)) (rdM H1) hS1 hk (by omega) hT) ?_⟩
    rintro _ w4 ⟨q2, s2, r2, rfl, hS2, hI, H3⟩
    have H4 := H2.beside H3
    refine ⟨_, _, rfl, call (rows_c (rdM H3) (by rw [shpLen hS2]; omega) fun r hr => by
      obtain ⟨i, hi, rfl⟩ := List.getElem_of_mem hr
      rw [shpRow hS2 hi]; omega) ?_⟩
    rintro _ w5 ⟨s3, r3, rfl, hm3, H5⟩
    have H6 := H4.beside H5
    have hR3 : RdR w5 s3 r3 := rdR H5.assoc
    have hS3 : Shp (mt r3) j j := by rw [hm3]; exact hS2
    have hr3l := shpLen hS3
    have hs3l := hR3.cel.lenM
    have hRG5 : RdR w5 gg GS := hRG.fr0 (H1.fr.then_ (H3.fr.then_ H5.fr))
    have hC5 := hC.fr0 H6.fr
    have hP5 := hP.fr0 H6.fr
    refine ⟨s3, rfl, fun o x w' => ∃ (t : Nat) (os : Rws), x = (t : Int) ∧ t ≤ j ∧ mt os = ((mt r3).map (fun fs => lin fs (mt GS) l)).take t ∧ Hp w5 w' (star (own Ty_sl_uint8 1 o (os.map fun r => r.1.v)) (star (all rwA os) emp)), fun _ x _ => j - x.toNat, ⟨0, [], rfl, Nat.zero_le _, rfl, ((Hp.start w5).nilRow Ty_sl_uint8 1).ent (Ent.star (Ent.refl _) emp_l)⟩, ?_⟩
    rintro o _ w6 ⟨t, os, rfl, ht, hos, H⟩
    have hol : os.length = t := by have := congrArg List.length hos; simpa [hr3l, Nat.min_eq_left ht] using this
    have hosl := (H.cel (s := o)).lenM
    refine ⟨fun h => ?_, fun h => ?_⟩
    · have hlt : t < r3.length := by simp only [decide_eq_true_eq] at h; omega
      refine (hR3.fr0 H.fr).cel.rdS hlt fun a ha => ?_
      refine call (sum_c (hC5.fr0 H.fr) ((hR3.fr0 H.fr).at_ hlt) (hRG5.fr0 H.fr) hSG hk (by omega) (by rw [shpRow hS3 hlt]; exact Nat.le_refl _) hl16) ?_
      rintro _ w7 ⟨o2, rfl, H7⟩
      have H := H.beside H7
      refine ⟨o2, rfl, Hp.app1 (s := o) slT_sl_sl_uint8 H rfl (by unfold maxLen; omega) (by omega) fun o3 w8 H8 ho3 => ?_⟩
      rw [ofW t (by omega)]
      refine ⟨⟨t + 1, os ++ [(o2, lin r3[t].2 (mt GS) l)], rfl, by omega, ?_, ?_⟩, by dsimp only; omega⟩
      · show (os ++ [_]).map _ = _
        have hos : os.map (fun r => r.2) = ((mt r3).map (fun fs => lin fs (mt GS) l)).take t := hos
        rw [List.map_append, hos, List.take_add_one, List.getElem?_map, List.getElem?_map, List.getElem?_eq_getElem hlt]
        rfl
      · have H : Hp w5 w8 (star (own Ty_sl_uint8 1 o3 (os.map (fun r => r.1.v) ++ [o2.v])) (star (rwA (o2, lin r3[t].2 (mt GS) l)) (star emp (star (all rwA os) emp)))) := H8
        rw [List.map_append]
        exact H.ent (Ent.star (Ent.refl _) ((Ent.star (Ent.refl _) emp_l').trans (Asn.assoc'.trans (Ent.star (all_snoc rwA _ os) (Ent.refl _)))))
    · have hte : t = j := by simp only [decide_eq_false_iff_not] at h; omega
      subst hte
      rw [List.take_of_length_le (by rw [List.length_map, mt_len]; omega)] at hos
      have hD : mt os = back (ent (mt r2)) (mt GS) t l := by rw [hos, back_map hS3 hSG, hm3]
      have hSD : Shp (mt os) t l := by rw [hD]; exact back_shp _ _ _ _
      -- the first parts agree
      have hrow : ∀ i (hi : i < t), ∀ c, c < t → ((mt rs).getD ((ps[i]'(by omega)).ix.toNat) []).getD c 0 = ent (mt r1) i c := fun i hi c hc => by
        rw [hM i c hi hc, List.getD_eq_getElem?_getD (l := ps), List.getElem?_eq_getElem (by omega)]; rfl
      have hfirst : ∀ i (hi : i < t), lin ((mt rs).getD ((ps[i]'(by omega)).ix.toNat) []) (mt os) l = (ps[i]'(by omega)).bs := fun i hi => by
        rw [hD, back_agrees hI hSG hi (hrow i hi), mt_at (by omega), hGSat i hi]
      have huniq : ∀ D l', Shp D t l' → Agrees (mt rs) D l' (prs ps) → l' = l ∧ D = mt os := fun D l' hS' hA => by
        have hA' : ∀ i (hi : i < ps.length), lin ((mt rs).getD (ps[i].ix.toNat) []) D l' = ps[i].bs := fun i hi => hA (ps[i].ix.toNat, ps[i].bs) (List.mem_map_of_mem (List.getElem_mem hi))
        have e : l' = l := by
          have h1 := congrArg List.length (hA' 0 (by omega))
          rw [lin_len] at h1
          rw [h1]; exact heqL _ (List.getElem_mem _)
        subst e
        refine ⟨rfl, ?_⟩
        rw [hD]
        refine back_uniq hI hSG hS' fun i hi => ⟨_, hrow i hi, ?_⟩
        rw [hA' i (by omega), mt_at (by omega), hGSat i hi]
      have hpcl : ((p.cut 2 (Int.toNat (t : Int)) (Int.toNat (p.l : Int))).l : Int) = ((ps.length - t : Nat) : Int) := by
        show ((Int.toNat (p.l : Int) - Int.toNat (t : Int) : Nat) : Int) = _
        omega
      have hcut2 : RdP w (p.cut 2 (Int.toNat (t : Int)) (Int.toNat (p.l : Int))) (ps.drop t) := by
        have := hP.cut (l := t) (m := ps.length) hkp (Nat.le_refl _)
        rw [List.take_of_length_le (by rw [List.length_drop]; exact Nat.le_refl _)] at this
        rw [Int.toNat_natCast, Int.toNat_natCast, hpl]
        exact this
      refine ⟨(t : Int), (hC5.fr0 H.fr).box.cell (i := 2) rfl, by omega, by omega, by omega, ?_⟩
      rw [hpcl]
      have hH0 := H
      refine ⟨fun x w' => ∃ u : Nat, x = (u : Int) ∧ u ≤ ps.length - t ∧ (∀ i (hi : i < ps.length), i < t + u → lin ((mt rs).getD (ps[i].ix.toNat) []) (mt os) l = ps[i].bs) ∧ Fr [] w6 w', fun x _ => ps.length - t - x.toNat, ⟨0, rfl, Nat.zero_le _, fun i hi h => hfirst i (by omega), Fr.refl _ _⟩, ?_⟩
      rintro _ w7 ⟨u, rfl, hu, hall, f7⟩
      have H := hH0.fr0 f7
      refine ⟨fun h => ?_, fun h => ?_⟩
      · have hlt : u < ps.length - t := by simp only [decide_eq_true_eq] at h; omega
        have hut : t + u < ps.length := by omega
        have hud : u < (ps.drop t).length := by rw [List.length_drop]; exact hlt
        have eu : (ps.drop t)[u] = ps[t + u] := by rw [List.getElem_drop]
        obtain ⟨x, hx, hxn⟩ := hrsix (t + u) hut
        have hxr : x < rs.length := by omega
        obtain ⟨a, h1, h2, h3, h4⟩ := (hcut2.fr0 (H6.fr.then_ H.fr)).rd (Q := fun _ I D => I = ps[t + u].ix ∧ D = ps[t + u].sl) hud fun a _ => by rw [eu]; exact ⟨rfl, rfl⟩
        obtain ⟨I, h5, D, h6, rfl, rfl⟩ := h4
        refine ⟨a, h1, h2, by omega, _, h5, _, h6, ?_⟩
        refine (Hp.start w7).new fun b w8 G => G.stoAll (b := b) (by rfl) fun w9 G => ?_
        have G := G.drew 1
        have hC9 := (hC5.fr0 H.fr).fr0 G.fr
        have e5 : (mt rs).getD (ps[t + u].ix.toNat) [] = rs[x].2 := by rw [hx, Int.toNat_natCast, List.getD_eq_getElem?_getD, List.getElem?_map, List.getElem?_eq_getElem hxr]; rfl
        refine ⟨s, hC9.box.cell (i := 3) rfl, (x : Int), by rw [← hx]; exact G.cell (b := b) (i := 0) rfl, hC9.rows.cel.rdS hxr fun a2 ha2 => ⟨_, G.cell (b := b) (i := 1) rfl, ?_⟩⟩
        have hRos : RdR w7 o os := rdR H
        refine call (sum_c hC9 (hC9.rows.at_ hxr) (hRos.fr0 G.fr) hSD hk (by omega) (by rw [shpRow hC.gen.shp hxr]; exact Nat.le_refl _) hl16) ?_
        rintro _ w10 ⟨o2, rfl, G2⟩
        have G3 := G.beside G2
        refine ⟨o2, rfl, G3.cell (b := b) (i := 1) rfl, ?_⟩
        have hb1 : Byt w10 o2 (lin rs[x].2 (mt os) l) := G3.cel (s := o2)
        have hb2 : Byt w10 ps[t + u].sl ps[t + u].bs := (hP5.fr0 (H.fr.then_ G3.fr)).at_ hut
        refine call (equal_c hb1 hb2 (by rw [lin_len]; omega)) ?_
        rintro _ w11 ⟨rfl, f11⟩
        have f12 := G3.fr.then_ f11
        refine ⟨_, rfl, fun h => Rt.ok (.inr (.inr ⟨hr0, rfl, H6.fr.then_ (H.fr.then_ f12), fun D l' hS' hA => ?_⟩)), fun h => ?_⟩
        · obtain ⟨rfl, rfl⟩ := huniq D l' hS' hA
          simp only [Bool.not_eq_true', decide_eq_false_iff_not] at h
          apply h
          rw [← e5]
          exact hA (ps[t + u].ix.toNat, ps[t + u].bs) (List.mem_map_of_mem (List.getElem_mem hut))
        · rw [ofW u (by omega)]
          refine ⟨⟨u + 1, rfl, by omega, fun i hi hiu => ?_, f7.then_ f12⟩, by dsimp only; omega⟩
          by_cases hiu2 : i = t + u
          · subst hiu2
            rw [e5]
            simpa using h
          · exact hall i hi (by omega)
      · have hue : u = ps.length - t := by simp only [decide_eq_false_iff_not] at h; omega
        refine Rt.ok (.inr (.inl ⟨hr0, mt os, l, hSD, heqL, fun pr hpr => ?_, o, os, rfl, rfl, Hp.from H6.fr H.assoc'⟩))
        obtain ⟨r, hr, rfl⟩ := List.mem_map.1 hpr
        obtain ⟨i, hi, rfl⟩ := List.getElem_of_mem hr
        exact hall i hi (by omega)
end
end Go.Proofs.YtabifopphhpciaaGreatDoor

namespace Go.Vc
open Go

theorem flat_step {α : Type} (l : List (List α)) (k : Nat) (hk : k < l.length) : (l.take (k + 1)).flatten = (l.take k).flatten ++ l[k] := by
  rw [List.take_succ_eq_append_getElem hk, List.flatten_append]; simp
theorem flat_le {α : Type} (l : List (List α)) (k : Nat) : (l.take k).flatten.length ≤ l.flatten.length := by
  have h := congrArg (fun x : List (List α) => x.flatten.length) (List.take_append_drop k l)
  simp only [List.flatten_append, List.length_append] at h
  omega

/-! ## A number's form -/
/-! ## Bytes and Go's arithmetic -/
theorem u8_ofNat {n : Nat} (h : n < 256) : ((UInt8.ofNat n).toNat : Int) = n := by
  have : (UInt8.ofNat n).toNat = n % 256 := by simp [UInt8.toNat_ofNat']
  rw [this]; omega
theorem shr64 {n : Nat} (k : Nat) (hk : k ≤ 64) : shrI .i64 (n : Int) (k : Int) = ((n / 2 ^ k : Nat) : Int) := by
  unfold shrI
  have e : min (Int.toNat (k : Int)) (IntKind.i64.bits) = k := by
    have : IntKind.i64.bits = 64 := rfl
    rw [this, Int.toNat_natCast]; omega
  rw [e]
  have : ((2 : Int) ^ k) = ((2 ^ k : Nat) : Int) := by simp
  rw [this, Int.fdiv_eq_ediv_of_nonneg _ (Int.natCast_nonneg _)]
  exact (Int.natCast_ediv _ _).symm
/-! ## The sum -/
/-! ## Go's numbers of 32 bits as bits -/
theorem wr8_byte (n : Nat) : wr .u8 (n : Int) = ((UInt8.ofNat (n % 256)).toNat : Int) := by rw [u8_ofNat (by omega), wr8_mod]; omega
end Go.Vc

namespace Go.Vc
open Go
theorem or_shl2 {n x k : Nat} (hk : k ≤ 24) (hn : n < 2 ^ k) (hx : x < 256) : orI .i64 (n : Int) (shlI .i64 (x : Int) (k : Int)) = ((n + x * 2 ^ k : Nat) : Int) := by
  have hp : 2 ^ k ≤ 2 ^ 24 := Nat.pow_le_pow_right (by omega) hk
  have hxb : x * 2 ^ k ≤ 255 * 2 ^ 24 := Nat.mul_le_mul (by omega) hp
  have e1 : shlI .i64 (x : Int) (k : Int) = ((x * 2 ^ k : Nat) : Int) := by
    unfold shlI
    have e : min (Int.toNat (k : Int)) IntKind.i64.bits = k := by
      have : IntKind.i64.bits = 64 := rfl
      rw [this, Int.toNat_natCast]; omega
    rw [e]
    have e2 : (x : Int) * 2 ^ k = ((x * 2 ^ k : Nat) : Int) := by simp
    rw [e2]
    have := wr64 (n := ((x * 2 ^ k : Nat) : Int)) (by omega) (by omega)
    exact this
  rw [e1]
  unfold orI
  have hz : n ||| (x * 2 ^ k) = n + x * 2 ^ k := by
    rw [Nat.mul_comm x, Nat.add_comm, Nat.or_comm]
    exact (Nat.two_pow_add_eq_or_of_lt hn x).symm
  have e3 : (BitVec.ofInt IntKind.i64.bits (n : Int) ||| BitVec.ofInt IntKind.i64.bits ((x * 2 ^ k : Nat) : Int)).toNat = n + x * 2 ^ k := by
    rw [BitVec.toNat_or]
    have h1 : (BitVec.ofInt IntKind.i64.bits (n : Int)).toNat = n := by
      show (BitVec.ofInt 64 (n : Int)).toNat = n
      rw [BitVec.ofInt_natCast, BitVec.toNat_ofNat]
      exact Nat.mod_eq_of_lt (by omega)
    have h2 : (BitVec.ofInt IntKind.i64.bits ((x * 2 ^ k : Nat) : Int)).toNat = x * 2 ^ k := by
      show (BitVec.ofInt 64 ((x * 2 ^ k : Nat) : Int)).toNat = _
      rw [BitVec.ofInt_natCast, BitVec.toNat_ofNat]
      exact Nat.mod_eq_of_lt (by omega)
    rw [h1, h2, hz]
  rw [e3]
  exact wr64 (by omega) (by omega)
end Go.Vc
namespace Go.Gf
def sizeN (n k : Nat) : Nat := (n + 4 + k - 1) / k
theorem size_le {n k : Nat} (hk : 1 ≤ k) : n + 4 ≤ sizeN n k * k := by
  unfold sizeN
  have h1 := Nat.div_add_mod (n + 4 + k - 1) k
  have h2 := Nat.mod_lt (n + 4 + k - 1) (show 0 < k by omega)
  rw [Nat.mul_comm] at h1
  omega
theorem size_lt {n k : Nat} (hk : 1 ≤ k) : sizeN n k * k < n + 4 + k := by
  unfold sizeN
  have h1 := Nat.div_mul_le_self (n + 4 + k - 1) k
  omega
theorem size_pos {n k : Nat} (hk : 1 ≤ k) : 1 ≤ sizeN n k := by
  rcases Nat.eq_zero_or_pos (sizeN n k) with h | h
  · have := size_le (n := n) hk; rw [h] at this; omega
  · exact h
theorem size_bound {n k : Nat} (hk : 1 ≤ k) : sizeN n k ≤ n + 4 := by
  unfold sizeN
  have h : n + 4 + k - 1 ≤ (n + 4) * k := by
    have : (n + 4) * k = (n + 3) * k + k := Nat.succ_mul (n + 3) k
    have h2 : n + 3 ≤ (n + 3) * k := Nat.le_mul_of_pos_right _ (by omega)
    omega
  exact Nat.div_le_of_le_mul (by rw [Nat.mul_comm]; exact h)
theorem size_mono {n m k : Nat} (h : n ≤ m) : sizeN n k ≤ sizeN m k := Nat.div_le_div_right (by omega)
def len4 (n : Nat) : List UInt8 := [UInt8.ofNat n, UInt8.ofNat (n / 256), UInt8.ofNat (n / 65536), UInt8.ofNat (n / 16777216)]
def strp (v : List UInt8) (k : Nat) : List UInt8 := len4 v.length ++ v ++ List.replicate (sizeN v.length k * k - (v.length + 4)) 0
theorem strp_len (v : List UInt8) {k : Nat} (hk : 1 ≤ k) : (strp v k).length = sizeN v.length k * k := by
  have := size_le (n := v.length) hk
  unfold strp len4
  simp
  omega
def rowsL (l : List UInt8) (k s : Nat) : List (List UInt8) := (List.range k).map fun i => (l.drop (i * s)).take s
theorem rowsL_len (l : List UInt8) (k s : Nat) : (rowsL l k s).length = k := by unfold rowsL; simp
theorem rowsL_at (l : List UInt8) {k s i : Nat} (hi : i < k) : (rowsL l k s)[i]'(by rw [rowsL_len]; exact hi) = (l.drop (i * s)).take s := by unfold rowsL; simp
theorem rowsL_shp {l : List UInt8} {k s : Nat} (h : l.length = s * k) : Shp (rowsL l k s) k s := ⟨rowsL_len _ _ _, fun r hr => by
  obtain ⟨i, hi, rfl⟩ := List.getElem_of_mem hr
  rw [rowsL_len] at hi
  rw [rowsL_at l hi, List.length_take, List.length_drop, h]
  have h1 : i * s + s ≤ s * k := by
    have : (i + 1) * s ≤ k * s := Nat.mul_le_mul_right _ (by omega)
    rw [Nat.mul_comm s k]
    rw [Nat.add_mul] at this
    omega
  omega⟩
theorem rowsL_flat : ∀ (k s : Nat) (l : List UInt8), l.length = s * k → (rowsL l k s).flatten = l
  | 0, s, l, h => by
    have : l = [] := List.length_eq_zero_iff.1 (by simpa using h)
    subst this; rfl
  | k + 1, s, l, h => by
    have ih := rowsL_flat k s (l.drop s) (by rw [List.length_drop, h, Nat.mul_add]; omega)
    have e : rowsL l (k + 1) s = l.take s :: rowsL (l.drop s) k s := by
      unfold rowsL
      rw [List.range_succ_eq_map, List.map_cons, List.map_map]
      congr 1
      · simp
      · refine List.map_congr_left fun i _ => ?_
        simp only [Function.comp, List.drop_drop]
        congr 2
        rw [Nat.succ_mul]; omega
    rw [e, List.flatten_cons, ih, List.take_append_drop]
theorem flat_len {D : List (List UInt8)} {k s : Nat} (h : Shp D k s) : D.flatten.length = s * k := by
  have key : ∀ (D : List (List UInt8)), (∀ r ∈ D, r.length = s) → D.flatten.length = s * D.length := by
    intro D
    induction D with
    | nil => intro _; rfl
    | cons x r ih =>
      intro hr
      rw [List.flatten_cons, List.length_append, ih fun y hy => hr y (List.mem_cons_of_mem _ hy), hr x List.mem_cons_self, List.length_cons, Nat.mul_add]; omega
  rw [key D h.row, h.len]
def cutV (v : List UInt8) (k : Nat) : List (List UInt8) := rowsL (strp v k) k (sizeN v.length k)
theorem cutV_shp (v : List UInt8) {k : Nat} (hk : 1 ≤ k) : Shp (cutV v k) k (sizeN v.length k) := rowsL_shp (strp_len v hk)
theorem cutV_flat (v : List UInt8) {k : Nat} (hk : 1 ≤ k) : (cutV v k).flatten = strp v k := rowsL_flat _ _ _ (strp_len v hk)
def lenOf (A : List UInt8) : Nat := (A.getD 0 0).toNat + (A.getD 1 0).toNat * 256 + (A.getD 2 0).toNat * 65536 + (A.getD 3 0).toNat * 16777216
def wholeV (D : List (List UInt8)) (k s : Nat) : Sum Int (List UInt8) :=
  if s * k < 4 ∨ sizeN 65536 k < s then .inl 23
  else if 65536 < lenOf D.flatten ∨ sizeN (lenOf D.flatten) k ≠ s then .inl 25
  else if (D.flatten.drop (4 + lenOf D.flatten)).any (fun b => b ≠ 0) then .inl 24
  else .inr ((D.flatten.drop 4).take (lenOf D.flatten))
theorem lenOf_le4 {n : Nat} (h : n < 4294967296) (r : List UInt8) : lenOf (len4 n ++ r) = n := by
  unfold lenOf len4
  simp only [List.cons_append, List.nil_append, List.getD_cons_zero, List.getD_cons_succ, UInt8.toNat_ofNat']
  omega
theorem wholeV_cut {v : List UInt8} {k : Nat} (hk : 1 ≤ k) (hv : v.length ≤ 65536) : wholeV (cutV v k) k (sizeN v.length k) = .inr v := by
  have h1 := size_le (n := v.length) hk
  have e1 : (cutV v k).flatten = len4 v.length ++ (v ++ List.replicate (sizeN v.length k * k - (v.length + 4)) 0) := by rw [cutV_flat v hk]; unfold strp; rw [List.append_assoc]
  have e2 : lenOf (cutV v k).flatten = v.length := by rw [e1, lenOf_le4 (by omega)]
  have e3 : (cutV v k).flatten.drop 4 = v ++ List.replicate (sizeN v.length k * k - (v.length + 4)) 0 := by rw [e1]; rfl
  unfold wholeV
  rw [e2, if_neg (by have := size_mono (k := k) hv; omega), if_neg (by omega), if_neg, e3]
  · congr 1
    rw [List.take_append_of_le_length (Nat.le_refl _), List.take_length]
  · rw [← List.drop_drop, e3, List.drop_append_of_le_length (Nat.le_refl _), List.drop_length, List.nil_append]
    simp
end Go.Gf

namespace Go.Proofs.YtabifopphhpciaaGreatDoor
open Go Go.Vc Go.Vc.Asn Go.Gf
section
variable {w0 w : World} {F : Asn} {s p : Slc} {rs : Rws} {g n k q : Nat} {bs : List UInt8}
theorem clone_c (hB : Byt w s bs) (hl : bs.length ≤ 1099511627776) : Calls PP F_slices_Clone #[s.v] w (Rt fun v w' => ∃ o, v = o.v ∧ Hp w w' (star (own Ty_uint8 1 o (bs.map u8v)) emp)) := by
  refine sim_slices_Clone _ _ _ ?_
  unfold vc_slices_Clone
  refine ⟨fun h => Rt.ok ⟨_, rfl, ?_⟩, fun h => ?_⟩
  · have : bs = [] := by
      cases bs with
      | nil => rfl
      | cons b r =>
        obtain ⟨p, hp, _⟩ := hB.get (i := 0) (by simp)
        rw [hp] at h; simp at h
    subst this
    exact (Hp.start w).nilRow Ty_uint8 1
  · refine (Hp.start w).newRow (n := 0) (size := 1) [] rfl rfl (by unfold maxLen; omega) fun b w1 H => ?_
    have hsl := hB.len
    refine Hp.app (s := ⟨some (blk b), 0, 0⟩) slT_sl_uint8 H (hB.fr0 H.fr) (one_u8 _) (by unfold maxLen; simp only; omega) (by simp only; omega) fun o w2 H _ => Rt.ok ⟨o, rfl, ?_⟩
    exact H
theorem grow_c (hn : n ≤ 1099511627776) : Calls PP F_slices_Grow #[Slc.nil.v, .int .i64 (n : Int)] w (Rt fun v w' => ∃ o, v = o.v ∧ Hp w w' (star (own Ty_uint8 1 o []) emp) ∧ o.l = 0) := by
  refine sim_slices_Grow _ _ _ _ ?_
  unfold vc_slices_Grow
  have e0 : wr .i64 ((Slc.nil.c : Int) - (Slc.nil.l : Int)) = 0 := by decide
  rw [e0, show wr .i64 ((n : Int) - 0) = (n : Int) by rw [wr64 (by omega) (by omega)]; omega]
  refine ⟨fun w' => w' = w, ⟨fun h => ?_, fun _ => rfl⟩, ?_⟩
  · simp at h; omega
  rintro w rfl
  refine ⟨fun o w' => Hp w w' (star (own Ty_uint8 1 o []) emp) ∧ o.l = 0, ⟨fun h => ⟨by omega, by omega, by omega, ?_⟩, fun _ => ⟨(Hp.start w).nilRow Ty_uint8 1, rfl⟩⟩, ?_⟩
  · simp only [decide_eq_true_eq] at h
    refine App.zeros slT_sl_uint8 und_int (by omega) (by omega) (by omega) fun b c cur w' h1 h2 h3 hB f hb => ?_
    refine ⟨by omega, by omega, by show (0 : Int) ≤ (c : Int); omega, ?_, rfl⟩
    have hO : Own Ty_uint8 1 w' ((⟨some (blk b), n, c⟩ : Slc).cut 1 0 0) [] := Own.cut0 hB h2 h3
    have hS : ((⟨some (blk b), n, c⟩ : Slc).cut 1 0 0).blks = [b] := by simp [Slc.blks, Slc.cut, Addr.add, blk]
    exact (Hp.start w).beside ⟨f, fun x => x = b, fun x hx => by rw [hx, hb]; exact Nat.le_refl _, fun x => by show x = b ↔ x ∈ ((⟨some (blk b), n, c⟩ : Slc).cut 1 0 0).blks; rw [hS]; simp, hO⟩
  · rintro o w1 ⟨H, ho⟩
    exact Rt.ok ⟨o, rfl, H, ho⟩
theorem flat_takes (l : List (List UInt8)) (k : Nat) (hk : k < l.length) : (l.take (k + 1)).flatten = (l.take k).flatten ++ l[k] := flat_step l k hk
theorem concat_c (hR : RdR w s rs) (hl : (mt rs).flatten.length ≤ 1099511627776) (hn : rs.length ≤ 1099511627776) :
    Calls PP F_slices_Concat #[s.v] w (Rt fun v w' => ∃ o, v = o.v ∧ Hp w w' (star (own Ty_uint8 1 o ((mt rs).flatten.map u8v)) emp)) := by
  refine sim_slices_Concat _ _ _ ?_
  unfold vc_slices_Concat
  have hsl := hR.cel.lenM
  refine ⟨fun x y w' => ∃ j : Nat, y = (j : Int) ∧ j ≤ rs.length ∧ x = (((mt rs).take j).flatten.length : Int) ∧ w' = w, fun _ y _ => rs.length - y.toNat, ⟨0, rfl, Nat.zero_le _, rfl, rfl⟩, ?_⟩
  rintro _ _ w ⟨j, rfl, hj, rfl, rfl⟩
  refine ⟨fun h => ?_, fun h => ?_⟩
  · have hlt : j < rs.length := by simp only [decide_eq_true_eq] at h; omega
    have hf := flat_takes (mt rs) j (by rw [mt_len]; exact hlt)
    have hle := flat_le (mt rs) (j + 1)
    have hrow := (hR.at_ hlt).len
    have hlen : ((mt rs).take (j + 1)).flatten.length = ((mt rs).take j).flatten.length + rs[j].1.l := by rw [hf, List.length_append, mt_at hlt, hrow]
    have ew : wr .i64 ((((mt rs).take j).flatten.length : Int) + (rs[j].1.l : Int)) = (((mt rs).take (j + 1)).flatten.length : Int) := by rw [wr64 (by omega) (by omega)]; omega
    refine ⟨fun x w' => x = (((mt rs).take (j + 1)).flatten.length : Int) ∧ w' = w, hR.cel.rdS hlt fun a ha => ⟨fun h => ?_, fun _ => ⟨ew, rfl⟩⟩, ?_⟩
    · rw [ew] at h; simp at h; omega
    · rintro _ w ⟨rfl, rfl⟩
      rw [ofW j (by omega)]
      exact ⟨⟨j + 1, rfl, by omega, rfl, rfl⟩, by dsimp only; omega⟩
  · have hje : j = rs.length := by simp only [decide_eq_false_iff_not] at h; omega
    have hfull : (mt rs).take j = mt rs := List.take_of_length_le (by rw [mt_len]; omega)
    rw [hfull]
    refine call (grow_c hl) ?_
    rintro _ w1 ⟨o, rfl, H, ho⟩
    refine ⟨o, rfl, fun o y w' => ∃ j : Nat, y = (j : Int) ∧ j ≤ rs.length ∧ Hp w w' (star (own Ty_uint8 1 o (((mt rs).take j).flatten.map u8v)) emp), fun _ y _ => rs.length - y.toNat, ⟨0, rfl, Nat.zero_le _, H⟩, ?_⟩
    rintro o2 _ w2 ⟨i, rfl, hi, H⟩
    refine ⟨fun h => ?_, fun h => ?_⟩
    · have hlt : i < rs.length := by simp only [decide_eq_true_eq] at h; omega
      have hf := flat_takes (mt rs) i (by rw [mt_len]; exact hlt)
      have hle := flat_le (mt rs) (i + 1)
      have hB := (hR.fr0 H.fr).at_ hlt
      have hrow := hB.len
      have ho2 := (H.cel (s := o2)).lenM
      have hlen : ((mt rs).take (i + 1)).flatten.length = ((mt rs).take i).flatten.length + rs[i].1.l := by rw [hf, List.length_append, mt_at hlt, hrow]
      refine (hR.fr0 H.fr).cel.rdS hlt fun a ha => Hp.app (s := o2) slT_sl_uint8 H hB (one_u8 _) (by unfold maxLen; omega) (by omega) fun o3 w3 H _ => ?_
      rw [ofW i (by omega)]
      refine ⟨⟨i + 1, rfl, by omega, ?_⟩, by dsimp only; omega⟩
      rw [← List.map_append] at H
      rw [hf, mt_at hlt]
      exact H
    · have hie : i = rs.length := by simp only [decide_eq_false_iff_not] at h; omega
      rw [List.take_of_length_le (by rw [mt_len]; omega)] at H
      exact Rt.ok ⟨o2, rfl, H⟩
theorem size_c (hk : 1 ≤ k) (hk2 : k ≤ 1048576) (hn : n ≤ 1099511627776) : Calls PP F_stripe_size #[.int .i64 (n : Int), .int .i64 (k : Int)] w (Rt fun v w' => v = .int .i64 (sizeN n k : Int) ∧ w' = w) := by
  refine sim_stripe_size _ _ _ _ ?_
  unfold vc_stripe_size
  refine ⟨by omega, Rt.ok ⟨?_, rfl⟩⟩
  have e1 : wr .i64 ((n : Int) + 4) = ((n + 4 : Nat) : Int) := by rw [wr64 (by omega) (by omega)]; omega
  have e2 : wr .i64 (((n + 4 : Nat) : Int) + (k : Int)) = ((n + 4 + k : Nat) : Int) := by rw [wr64 (by omega) (by omega)]; omega
  have e3 : wr .i64 (((n + 4 + k : Nat) : Int) - 1) = ((n + 4 + k - 1 : Nat) : Int) := by rw [wr64 (by omega) (by omega)]; omega
  rw [e1, e2, e3, ← Int.ofNat_tdiv]
  have hb := size_bound (n := n) hk
  unfold sizeN at hb ⊢
  generalize (n + 4 + k - 1) / k = d at hb ⊢
  rw [wr64 (by omega) (by omega)]
theorem wr8_byte (n : Nat) : wr .u8 (n : Int) = ((UInt8.ofNat n).toNat : Int) := by rw [wr8_mod, UInt8.toNat_ofNat']; omega
theorem cut_c (hB : Byt w s bs) (hb : bs.length ≤ 65536) (hk : 1 ≤ k) (hk2 : k ≤ 255) :
    Calls PP F_stripe_cut #[s.v, .int .i64 (k : Int)] w (Rt fun v w' => ∃ o ds, v = o.v ∧ mt ds = cutV bs k ∧ RdR w' o ds ∧ Fr [] w w') := by
  refine sim_stripe_cut _ _ _ _ ?_
  unfold vc_stripe_cut
  have hsl := hB.len
  rw [hsl]
  refine call (size_c hk (by omega) (by omega)) ?_
  rintro _ w ⟨rfl, rfl⟩
  have h1 := size_le (n := bs.length) hk
  have h2 := size_lt (n := bs.length) hk
  have h3 := size_pos (n := bs.length) hk
  obtain ⟨S, hS⟩ : ∃ S, S = sizeN bs.length k := ⟨_, rfl⟩
  obtain ⟨T, hT⟩ : ∃ T, T = S * k := ⟨_, rfl⟩
  rw [← hS] at h1 h2 h3 ⊢
  rw [← hT] at h1 h2
  have e1 : wr .i64 ((S : Int) * (k : Int)) = (T : Int) := by rw [← Int.natCast_mul, ← hT, wr64 (by omega) (by omega)]
  refine ⟨_, rfl, ?_⟩
  rw [e1]
  refine Hp.make slT_sl_uint8 rfl (by omega) (by omega) (Hp.start w) fun b w1 H => ?_
  rw [zcells] at H
  have c1 : shrI .i64 (bs.length : Int) 8 = ((bs.length / 256 : Nat) : Int) := shr64 8 (by omega)
  have c2 : shrI .i64 (bs.length : Int) 16 = ((bs.length / 65536 : Nat) : Int) := shr64 16 (by omega)
  have c3 : shrI .i64 (bs.length : Int) 24 = ((bs.length / 16777216 : Nat) : Int) := shr64 24 (by omega)
  rw [c1, c2, c3, wr8_byte, wr8_byte, wr8_byte, wr8_byte]
  refine H.new fun b13 w2 H => ?_
  have hC : Byt w2 (Slc.mk (some (blk b13)) 4 4) (len4 bs.length) := Cel.block (b := b13) (e := Ty_uint8) (l := (len4 bs.length).map u8v) (H.isBlk (b := b13)) rfl (Nat.le_refl _) (Nat.le_refl _)
  refine Hp.cpy (s := ⟨some (blk b), T, T⟩) (d := ⟨some (blk b), T, T⟩) (o := 0) slT_sl_uint8 H hC (one_u8 _) (fun _ p hp => by rw [hp]; rfl) (by simp) fun w3 H => ?_
  have m4 : min (Slc.mk (some (blk b13)) 4 4).l (⟨some (blk b), T, T⟩ : Slc).l = 4 := by show min 4 T = 4; omega
  rw [m4] at H
  have E1 : ((List.replicate T (0 : UInt8)).map u8v).take 0 ++ ((len4 bs.length).map u8v).take 4 ++ ((List.replicate T (0 : UInt8)).map u8v).drop (0 + 4) = (len4 bs.length ++ List.replicate (T - 4) 0).map u8v := by
    rw [List.take_zero, List.nil_append, List.map_append, ← List.map_drop, List.drop_replicate]; rfl
  rw [E1] at H
  refine ⟨by omega, by show (4 : Int) ≤ (T : Int); omega, by show (T : Int) ≤ (T : Int); omega, ?_⟩
  have hB3 := hB.fr0 H.fr
  have dl : ((⟨some (blk b), T, T⟩ : Slc).cut 1 (Int.toNat 4) (Int.toNat ((⟨some (blk b), T, T⟩ : Slc).l : Int))).l = T - 4 := by show Int.toNat (T : Int) - 4 = T - 4; omega
  refine Hp.cpy (s := ⟨some (blk b), T, T⟩) (d := (⟨some (blk b), T, T⟩ : Slc).cut 1 (Int.toNat 4) (Int.toNat ((⟨some (blk b), T, T⟩ : Slc).l : Int))) (o := 4) slT_sl_uint8 H hB3 (one_u8 _) (fun h0 p hp => ?_) (by rw [dl]; simp [len4]; omega) fun w4 H => ?_
  · rw [dl] at h0
    show (if T = 4 then _ else _) = _
    rw [if_neg (by omega), hp]; rfl
  have m5 : min s.l ((⟨some (blk b), T, T⟩ : Slc).cut 1 (Int.toNat 4) (Int.toNat ((⟨some (blk b), T, T⟩ : Slc).l : Int))).l = bs.length := by rw [dl]; omega
  rw [m5] at H
  have E2 : ((len4 bs.length ++ List.replicate (T - 4) 0).map u8v).take 4 ++ (bs.map u8v).take bs.length ++ ((len4 bs.length ++ List.replicate (T - 4) 0).map u8v).drop (4 + bs.length) = (strp bs k).map u8v := by
    rw [← List.map_take, ← List.map_take, ← List.map_drop, List.take_length, ← List.drop_drop, ← List.map_append, ← List.map_append]
    congr 1
    unfold strp
    rw [← hS, ← hT]
    have : (len4 bs.length ++ List.replicate (T - 4) (0 : UInt8)).drop 4 = List.replicate (T - 4) 0 := rfl
    rw [this, List.drop_replicate]
    congr 2
    omega
  rw [E2] at H
  refine Hp.make slT_sl_sl_uint8 rfl (by omega) (by omega) H fun b2 w5 H => ?_
  have hstr : Byt w5 ⟨some (blk b), T, T⟩ (strp bs k) := H.cel (s := ⟨some (blk b), T, T⟩)
  have hsT : (strp bs k).length = T := by rw [strp_len _ hk, ← hS, ← hT]
  refine ⟨fun x w' => ∃ j : Nat, x = (j : Int) ∧ j ≤ k ∧ Hp w w' (star (own Ty_sl_uint8 1 ⟨some (blk b2), k, k⟩ ((List.range j).map (fun i => ((⟨some (blk b), T, T⟩ : Slc).cut 1 (i * S) ((i + 1) * S)).v) ++ List.replicate (k - j) (Slc.v Slc.nil))) (star (own Ty_uint8 1 ⟨some (blk b), T, T⟩ ((strp bs k).map u8v)) emp)), fun x _ => k - x.toNat, ⟨0, rfl, Nat.zero_le _, ?_⟩, ?_⟩
  · exact (H.blk b13).drop
  rintro _ w6 ⟨j, rfl, hj, H⟩
  have hTk : T = k * S := by rw [hT, Nat.mul_comm]
  refine ⟨fun h => ?_, fun h => ?_⟩
  · have hlt : j < k := by simp only [decide_eq_true_eq] at h; omega
    have hjS : (j + 1) * S ≤ k * S := Nat.mul_le_mul_right _ (by omega)
    have hjS2 : (j + 1) * S = j * S + S := Nat.succ_mul _ _
    have e2 : wr .i64 ((j : Int) * (S : Int)) = ((j * S : Nat) : Int) := by rw [← Int.natCast_mul, wr64 (by omega) (by omega)]
    have e3 : wr .i64 (((j + 1 : Nat) : Int) * (S : Int)) = (((j + 1) * S : Nat) : Int) := by rw [← Int.natCast_mul, wr64 (by omega) (by omega)]
    rw [ofW j (by omega), e2, e3]
    refine ⟨by omega, by omega, by show (((j + 1) * S : Nat) : Int) ≤ (T : Int); omega, ?_⟩
    rw [Int.toNat_natCast, Int.toNat_natCast]
    refine Hp.wr (s := ⟨some (blk b2), k, k⟩) H (by simp; omega) fun w7 H => ?_
    rw [List.set_append_right _ _ (by simp), List.length_map, List.length_range, Nat.sub_self, show k - j = (k - (j + 1)) + 1 by omega, List.replicate_succ, List.set_cons_zero] at H
    refine ⟨⟨j + 1, rfl, by omega, ?_⟩, by dsimp only; omega⟩
    rw [List.range_succ, List.map_append, List.append_assoc]
    exact H
  · have hje : j = k := by simp only [decide_eq_false_iff_not] at h; omega
    subst hje
    rw [Nat.sub_self, List.replicate_zero, List.append_nil] at H
    refine Rt.ok ⟨_, (List.range j).map fun i => ((⟨some (blk b), T, T⟩ : Slc).cut 1 (i * S) ((i + 1) * S), ((strp bs j).drop (i * S)).take S), rfl, ?_, ⟨?_, fun r hr => ?_⟩, H.fr⟩
    · unfold cutV rowsL mt
      rw [List.map_map, ← hS]; rfl
    · have := H.cel (s := ⟨some (blk b2), j, j⟩)
      rw [List.map_map]
      exact this
    · obtain ⟨i, hi, rfl⟩ := List.mem_map.1 hr
      rw [List.mem_range] at hi
      have hiS : (i + 1) * S ≤ j * S := Nat.mul_le_mul_right _ (by omega)
      have hiS2 : (i + 1) * S = i * S + S := Nat.succ_mul _ _
      have hst : Byt w6 ⟨some (blk b), T, T⟩ (strp bs j) := H.cel (s := ⟨some (blk b), T, T⟩)
      have := Cel.cut hst (l := i * S) (k := (i + 1) * S) (by omega) (by show (i + 1) * S ≤ T; omega)
      rw [Nat.mul_one, Nat.mul_one, ← List.map_drop, ← List.map_take, show (i + 1) * S - i * S = S by omega] at this
      exact this
theorem codeK_c (hC : RdCode w q g s rs n k) : Calls PP F_code_Code_K #[.pointer (some (blk q))] w (Rt fun v w' => v = .int .i64 (k : Int) ∧ w' = w) := by
  refine sim_code_Code_K _ _ _ ?_
  unfold vc_code_Code_K
  exact ⟨fun h => by simp at h, fun _ => ⟨_, rfl, _, hC.box.cell (i := 2) rfl, Rt.ok ⟨rfl, rfl⟩⟩⟩
theorem cut1_c {v : Slc} {i : Nat} (hC : RdCode w q g s rs n k) (hB : Byt w v bs) (hb : bs.length ≤ 65536) (hi : i < n) :
    Calls PP F_stripe_Cut #[.pointer (some (blk q)), v.v, .int .i64 (i : Int)] w (Rt fun x w' => ∃ o, x = .tuple #[o.v, .int .i64 0] ∧ Hp w w' (star (own Ty_uint8 1 o ((lin ((mt rs).getD i []) (cutV bs k) (sizeN bs.length k)).map u8v)) emp)) := by
  refine sim_stripe_Cut _ _ _ _ _ ?_
  unfold vc_stripe_Cut
  have hk := hC.hk
  have hkn := hC.hkn
  have hn := hC.hn
  have hvl := hB.len
  refine ⟨fun h => by simp at h, fun _ => ⟨fun h => ?_, fun _ => call (codeK_c hC) ?_⟩⟩
  · simp at h; omega
  rintro _ w1 ⟨rfl, rfl⟩
  refine ⟨_, rfl, call (cut_c hB hb hk (by omega)) ?_⟩
  rintro _ w2 ⟨o, ds, rfl, hds, hR, f⟩
  have hS := cutV_shp bs hk
  rw [← hds] at hS
  have hsz := size_bound (n := bs.length) hk
  refine ⟨o, rfl, call (row_c (hC.fr0 f) hR hS (by omega) hi) ?_⟩
  rintro _ w3 ⟨o2, rfl, H⟩
  rw [hds] at H
  exact ⟨_, _, rfl, Rt.ok ⟨o2, rfl, Hp.from f H⟩⟩
end
end Go.Proofs.YtabifopphhpciaaGreatDoor

namespace Go.Vc
inductive Phs where
  | ask
  | write
  | fin
  | read
deriving DecidableEq
structure Ms where
  k : Int
  cl : Int
  sv : Int
  op : Int
  key : ByteArray
  tag : Tg
  top : Tg
  has : Bool
  data : Slc
  bs : List UInt8
abbrev Ms.c (m : Ms) : List Value := [.int .i64 m.k, .int .i64 m.cl, .int .i64 m.sv, .int .i64 m.op, .string m.key, .int .i64 m.tag.n, .int .i64 m.tag.c, .int .i64 m.top.n, .int .i64 m.top.c, .bool m.has, m.data.v]
structure Am where
  k : Int
  cl : Int
  sv : Int
  op : Int
  key : ByteArray
  tag : Tg
  top : Tg
  has : Bool
  bs : List UInt8
def Ms.abs (m : Ms) : Am := ⟨m.k, m.cl, m.sv, m.op, m.key, m.tag, m.top, m.has, m.bs⟩
structure Cl where
  cfg : Cfg
  id : Int
  cd : Nat
  ops : Int
  used : List (ByteArray × Int)
  now : Option Nat
structure Opn where
  op : Int
  put : Bool
  key : ByteArray
  val : Slc
  bs : List UInt8
  stg : Phs
  tag : Tg
  ph : Nat
def reqOf (id : Int) (o : Opn) (part : Int → List UInt8) (i : Int) : Am :=
  match o.stg with
  | .ask => ⟨1, id, i, o.op, o.key, Tg.zero, Tg.zero, false, []⟩
  | .write => ⟨3, id, i, o.op, o.key, o.tag, Tg.zero, false, part i⟩
  | .fin => ⟨5, id, i, o.op, o.key, o.tag, Tg.zero, false, []⟩
  | .read => ⟨7, id, i, o.op, o.key, o.tag, Tg.zero, false, []⟩
end Go.Vc
namespace Go.Proofs.YtabifopphhpciaaGreatDoor
open Go Go.Vc Go.Vc.Asn Go.Gf
abbrev sK (s : ByteArray) : Value := .string s
def stgTy : Phs → TypeId
  | .ask => Ty_client_asking
  | .write => Ty_client_writing
  | .fin => Ty_client_ending
  | .read => Ty_client_reading
abbrev stgV (s : Phs) : Value := .iface (stgTy s) (.agg #[])
def cliA (p : Nat) (x : Cl) : Asn := ex fun g => star (bk p Ty_client_Client #[.int .i64 x.cfg.N, .int .i64 x.cfg.K, .int .i64 x.cfg.D, .int .i64 x.id, .pointer (some (blk x.cd)), .int .i64 x.ops, .map (some g), .pointer (x.now.map blk)]) (mp sK iK g x.used)
def opnA (o : Nat) (x : Opn) : Asn := star (bk o Ty_client_operation #[.int .i64 x.op, .bool x.put, .string x.key, x.val.v, stgV x.stg, .int .i64 x.tag.n, .int .i64 x.tag.c, .pointer (some (blk x.ph))]) (own Ty_uint8 1 x.val (x.bs.map u8v))
def mdA (m : Ms) : Asn := own Ty_uint8 1 m.data (m.bs.map u8v)
def msgsA (s : Slc) (ms : List Ms) : Asn := star (own Ty_api_Message 11 s (ms.flatMap Ms.c)) (all mdA ms)
theorem tas_c {xt T t : TypeId} {fs : Array Field} (hu : PP.underlying T = some (.struct fs)) (hz : zeroB PP T (.agg #[])) {K : Value → Prop} (k : K (.tuple #[.agg #[], .bool (decide (t = T))])) : Tas PP xt T true (.iface t (.agg #[])) K := by
  refine ⟨_, fun w => ?_, k⟩
  by_cases h : t = T
  · subst h
    simp [Instr.typeAssert, run_underlying hu, Result.andThen]
  · simp [Instr.typeAssert, run_underlying hu, Result.andThen, h, run_zero hz]
theorem und_ask : PP.underlying Ty_client_asking = some (.struct #[]) := by kernel_rfl
theorem und_wri : PP.underlying Ty_client_writing = some (.struct #[]) := by kernel_rfl
theorem und_end : PP.underlying Ty_client_ending = some (.struct #[]) := by kernel_rfl
theorem und_rea : PP.underlying Ty_client_reading = some (.struct #[]) := by kernel_rfl
theorem z_ask : zeroB PP Ty_client_asking (.agg #[]) := by unfold zeroB; kernel_rfl
theorem z_wri : zeroB PP Ty_client_writing (.agg #[]) := by unfold zeroB; kernel_rfl
theorem z_end : zeroB PP Ty_client_ending (.agg #[]) := by unfold zeroB; kernel_rfl
theorem z_rea : zeroB PP Ty_client_reading (.agg #[]) := by unfold zeroB; kernel_rfl
theorem tasA {xt : TypeId} {s : Phs} {K : Value → Prop} (k : K (.tuple #[.agg #[], .bool (decide (s = .ask))])) : Tas PP xt Ty_client_asking true (stgV s) K := tas_c und_ask z_ask (by cases s <;> exact k)
theorem tasW {xt : TypeId} {s : Phs} {K : Value → Prop} (k : K (.tuple #[.agg #[], .bool (decide (s = .write))])) : Tas PP xt Ty_client_writing true (stgV s) K := tas_c und_wri z_wri (by cases s <;> exact k)
theorem tasF {xt : TypeId} {s : Phs} {K : Value → Prop} (k : K (.tuple #[.agg #[], .bool (decide (s = .fin))])) : Tas PP xt Ty_client_ending true (stgV s) K := tas_c und_end z_end (by cases s <;> exact k)
theorem tasR {xt : TypeId} {s : Phs} {K : Value → Prop} (k : K (.tuple #[.agg #[], .bool (decide (s = .read))])) : Tas PP xt Ty_client_reading true (stgV s) K := tas_c und_rea z_rea (by cases s <;> exact k)
section
variable {w0 w : World} {F : Asn} {p o : Nat} {x : Cl} {y : Opn} {s : Slc}
theorem cl_open (H : Hp w0 w (star (cliA p x) F)) : ∃ g, Hp w0 w (star (bk p Ty_client_Client #[.int .i64 x.cfg.N, .int .i64 x.cfg.K, .int .i64 x.cfg.D, .int .i64 x.id, .pointer (some (blk x.cd)), .int .i64 x.ops, .map (some g), .pointer (x.now.map blk)]) (star (mp sK iK g x.used) F)) := by
  obtain ⟨g, H⟩ := H.ex
  exact ⟨g, H.assoc⟩
theorem cl_close {g : Nat} (H : Hp w0 w (star (bk p Ty_client_Client #[.int .i64 x.cfg.N, .int .i64 x.cfg.K, .int .i64 x.cfg.D, .int .i64 x.id, .pointer (some (blk x.cd)), .int .i64 x.ops, .map (some g), .pointer (x.now.map blk)]) (star (mp sK iK g x.used) F))) : Hp w0 w (star (cliA p x) F) := H.assoc'.exI g
theorem op_open (H : Hp w0 w (star (opnA o y) F)) : Hp w0 w (star (bk o Ty_client_operation #[.int .i64 y.op, .bool y.put, .string y.key, y.val.v, stgV y.stg, .int .i64 y.tag.n, .int .i64 y.tag.c, .pointer (some (blk y.ph))]) (star (own Ty_uint8 1 y.val (y.bs.map u8v)) F)) := H.assoc
theorem op_close (H : Hp w0 w (star (bk o Ty_client_operation #[.int .i64 y.op, .bool y.put, .string y.key, y.val.v, stgV y.stg, .int .i64 y.tag.n, .int .i64 y.tag.c, .pointer (some (blk y.ph))]) (star (own Ty_uint8 1 y.val (y.bs.map u8v)) F))) : Hp w0 w (star (opnA o y) F) := H.assoc'
theorem ms_len (m : Ms) : m.c.length = 11 := rfl
theorem one_ms (ms : List Ms) : ∀ u ∈ ms.flatMap Ms.c, u.oneCell' = true := by
  intro u hu
  obtain ⟨m, _, h⟩ := List.mem_flatMap.1 hu
  simp [Ms.c] at h
  rcases h with rfl | rfl | rfl | rfl | rfl | rfl | rfl | rfl | rfl | rfl | rfl <;> rfl
theorem msgs_nil (H : Hp w0 w F) : Hp w0 w (star (msgsA Slc.nil []) F) := by
  refine H.ent fun w S h => ?_
  exact ⟨fun _ => False, S, fun k => by simp, fun k h => h.elim, ⟨fun _ => False, fun _ => False, fun k => by simp, fun k h => h.elim, ⟨fun k => by simp [Slc.blks], Own.nil _ _ _⟩, fun k h => h⟩, h⟩
end
end Go.Proofs.YtabifopphhpciaaGreatDoor

namespace Go.Proofs.YtabifopphhpciaaGreatDoor
open Go Go.Vc Go.Vc.Asn Go.Gf
def partOf (rs : Rws) (bs : List UInt8) (k : Nat) (i : Int) : List UInt8 := lin ((mt rs).getD i.toNat []) (cutV bs k) (sizeN bs.length k)
section
variable {w0 w : World} {F : Asn} {p o q g n k : Nat} {x : Cl} {y : Opn} {s sc : Slc} {rs : Rws}
theorem all_snoc1 {α : Type} (f : α → Asn) (a : α) : ∀ l : List α, Ent (star (f a) (all f l)) (all f (l ++ [a]))
  | [] => Ent.refl _
  | _ :: l => left.trans (Ent.star (Ent.refl _) (all_snoc1 f a l))
theorem requests_c {ks : List Int} (hC : RdCode w x.cd g sc rs n k) (hN : ∀ i ∈ ks, 0 ≤ i ∧ i < (n : Int)) (hb : y.bs.length ≤ 65536) (hks : ks.length ≤ 255) (hnow : x.now = some o) (hS : Cel w s 1 (ks.map iK)) (H : Hp w0 w (star (cliA p x) (star (opnA o y) F))) :
    Calls PP F_client_Client_requests #[.pointer (some (blk p)), s.v] w (Rt fun v w' => ∃ t ms, v = Slc.v t ∧ ms.map Ms.abs = ks.map (reqOf x.id y (partOf rs y.bs k)) ∧ Hp w w' (star (msgsA t ms) emp)) := by
  obtain ⟨gm, H⟩ := cl_open H
  have H0 := op_open (H.take (opnA o y))
  rw [hnow, Option.map_some] at H0
  clear H
  refine sim_client_Client_requests _ _ _ _ ?_
  unfold vc_client_Client_requests
  refine ⟨_, rfl, _, H0.cell (b := p) (i := 7) rfl, ?_⟩
  refine ⟨fun t z w' => ∃ (i : Nat) (ms : List Ms), z = (i : Int) ∧ i ≤ ks.length ∧ ms.map Ms.abs = (ks.take i).map (reqOf x.id y (partOf rs y.bs k)) ∧ Hp w w' (star (msgsA t ms) emp), fun _ z _ => ks.length - z.toNat, ⟨0, [], rfl, Nat.zero_le _, by simp, msgs_nil (Hp.start w)⟩, ?_⟩
  rintro t _ w1 ⟨i, ms, rfl, hi, hab, I⟩
  have hsl : s.l = ks.length := by
    have := hS.len
    simp at this
    omega
  refine ⟨fun h => ?_, fun h => ?_⟩
  · have hlt : i < ks.length := by rw [hsl] at h; simp only [decide_eq_true_eq] at h; omega
    have hml : ms.length = i := by have := congrArg List.length hab; simpa [Nat.min_eq_left hi] using this
    obtain ⟨a, ha, hc⟩ := (hS.fr0 I.fr).at_ i (iK ks[i]) (by simp [List.getElem?_eq_getElem hlt])
    have e1 : wr .i64 ((i : Int) + 1) = ((i + 1 : Nat) : Int) := by rw [wr64 (by omega) (by omega)]; omega
    obtain ⟨j, hj⟩ : ∃ j : Nat, ks[i] = (j : Int) := ⟨ks[i].toNat, by have := (hN ks[i] (List.getElem_mem hlt)).1; omega⟩
    have hjn : j < n := by have := (hN ks[i] (List.getElem_mem hlt)).2; omega
    have I := I.assoc
    have htl : t.l = ms.length := Cel.flen (enc := Ms.c) ms_len (I.cel (s := t)) (by decide)
    have I := I.drew 1
    have H := H0.fr0 I.fr
    refine ⟨a, ha, by omega, by omega, _, by rw [Int.toNat_natCast, Nat.mul_one]; exact hc, _, H.cell (b := p) (i := 3) rfl, _, rfl, _, H.cell (b := o) (i := 0) rfl, _, H.cell (b := o) (i := 2) rfl, I.new fun b w2 I => ?_⟩
    have H := H0.fr0 I.fr
    refine ⟨H.cell (b := p) (i := 3) rfl, H.cell (b := o) (i := 0) rfl, H.cell (b := o) (i := 2) rfl, I.stoAll (b := b) (by rfl) fun w3 I => ?_⟩
    have H := H0.fr0 I.fr
    refine ⟨fun w' => ∃ m : Ms, m.abs = reqOf x.id y (partOf rs y.bs k) ks[i] ∧ Hp w w' (star (bk b Ty_api_Message m.c.toArray) (star (mdA m) (star (own Ty_api_Message 11 t (ms.flatMap Ms.c)) (star (all mdA ms) emp)))), ⟨_, H.cell (b := o) (i := 4) rfl, tasA ⟨_, rfl, fun hA => ?_, fun hA => tasW ⟨_, rfl, fun hW => ?_, fun hW => tasF ⟨_, rfl, fun hF => ?_, fun hF => tasR ⟨_, rfl, fun hR => ?_, fun hR => ?_⟩⟩⟩⟩⟩, ?_⟩
    · have hA : y.stg = .ask := of_decide_eq_true hA
      refine I.sto (b := b) (i := 0) (by simp) fun w4 I => ⟨⟨1, x.id, ks[i], y.op, y.key, Tg.zero, Tg.zero, false, Slc.nil, []⟩, ?_, ((I.blk b).nilRow Ty_uint8 1).swap⟩
      unfold reqOf
      rw [hA]; rfl
    · have hW : y.stg = .write := of_decide_eq_true hW
      have I := I.drew 1
      have H := H0.fr0 I.fr
      refine ⟨_, H.cell2 (b := o) (i := 5) (j := 0) rfl, _, H.cell2 (b := o) (i := 5) (j := 1) rfl, I.sto (b := b) (i := 0) (by simp) fun w4 I => ?_⟩
      have H := H0.fr0 I.fr
      refine ⟨H.cell2 (b := o) (i := 5) (j := 0) rfl, H.cell2 (b := o) (i := 5) (j := 1) rfl, StoN.two (I.sto2 (b := b) (i := 5) (j := 0) (by simp) fun w5 I => I.sto2 (b := b) (i := 5) (j := 1) (by simp) fun w6 I => ?_)⟩
      have I := I.drew 1
      have H := H0.fr0 I.fr
      refine ⟨_, H.cell (b := p) (i := 4) rfl, _, H.cell (b := o) (i := 3) rfl, ?_⟩
      rw [hj]
      refine call (cut1_c (hC.fr0 I.fr) (H.cel (s := y.val)) hb hjn) ?_
      rintro _ w7 ⟨o2, rfl, J⟩
      have I := I.join J
      refine ⟨_, _, rfl, I.sto (b := b) (i := 10) (by simp) fun w8 I => ⟨⟨3, x.id, ks[i], y.op, y.key, y.tag, Tg.zero, false, o2, lin ((mt rs).getD j []) (cutV y.bs k) (sizeN y.bs.length k)⟩, ?_, (I.own o2).blk b⟩⟩
      unfold reqOf partOf
      rw [hW, hj]; rfl
    · have hF : y.stg = .fin := of_decide_eq_true hF
      have I := I.drew 1
      have H := H0.fr0 I.fr
      refine ⟨_, H.cell2 (b := o) (i := 5) (j := 0) rfl, _, H.cell2 (b := o) (i := 5) (j := 1) rfl, I.sto (b := b) (i := 0) (by simp) fun w4 I => ?_⟩
      have H := H0.fr0 I.fr
      refine ⟨H.cell2 (b := o) (i := 5) (j := 0) rfl, H.cell2 (b := o) (i := 5) (j := 1) rfl, StoN.two (I.sto2 (b := b) (i := 5) (j := 0) (by simp) fun w5 I => I.sto2 (b := b) (i := 5) (j := 1) (by simp) fun w6 I => ⟨⟨5, x.id, ks[i], y.op, y.key, y.tag, Tg.zero, false, Slc.nil, []⟩, ?_, ((I.blk b).nilRow Ty_uint8 1).swap⟩)⟩
      unfold reqOf
      rw [hF]; rfl
    · have hR : y.stg = .read := of_decide_eq_true hR
      have I := I.drew 1
      have H := H0.fr0 I.fr
      refine ⟨_, H.cell2 (b := o) (i := 5) (j := 0) rfl, _, H.cell2 (b := o) (i := 5) (j := 1) rfl, I.sto (b := b) (i := 0) (by simp) fun w4 I => ?_⟩
      have H := H0.fr0 I.fr
      refine ⟨H.cell2 (b := o) (i := 5) (j := 0) rfl, H.cell2 (b := o) (i := 5) (j := 1) rfl, StoN.two (I.sto2 (b := b) (i := 5) (j := 0) (by simp) fun w5 I => I.sto2 (b := b) (i := 5) (j := 1) (by simp) fun w6 I => ⟨⟨7, x.id, ks[i], y.op, y.key, y.tag, Tg.zero, false, Slc.nil, []⟩, ?_, ((I.blk b).nilRow Ty_uint8 1).swap⟩)⟩
      unfold reqOf
      rw [hR]; rfl
    · cases hy : y.stg <;> simp [hy] at hA hW hF hR
    · rintro w4 ⟨m, hm, I⟩
      refine ⟨_, I.cell (b := b) (i := 0) rfl, _, I.cell (b := b) (i := 1) rfl, _, I.cell (b := b) (i := 2) rfl, _, I.cell (b := b) (i := 3) rfl, _, I.cell (b := b) (i := 4) rfl, _, I.cell (b := b) (i := 5) rfl, _, I.cell (b := b) (i := 6) rfl, _, I.cell (b := b) (i := 7) rfl, _, I.cell (b := b) (i := 8) rfl, _, I.cell (b := b) (i := 9) rfl, _, I.cell (b := b) (i := 10) rfl, ?_⟩
      refine I.newRow (e := Ty_api_Message) (n := 1) (size := 11) m.c rfl rfl (by decide) fun b2 w5 I => ?_
      refine I.app (s := t) slT_sl_api_Message (I.cel (s := ⟨some (blk b2), 1, 1⟩)) (fun u hu => one_ms [m] u (by simpa using hu)) (by unfold maxLen; simp only; omega) (by simp only; omega) fun t' w6 I _ => ?_
      have I := ((I.own ⟨some (blk b2), 1, 1⟩).drop.blk b).drop
      have I := (((I.take (all mdA ms)).take (mdA m)).assoc').ent (Ent.star (all_snoc1 mdA m ms) (Ent.refl _))
      have I := (I.own t').assoc'
      refine ⟨⟨i + 1, ms ++ [m], e1, by omega, ?_, ?_⟩, by rw [e1]; dsimp only; omega⟩
      · rw [List.map_append, hab, List.take_succ_eq_append_getElem hlt, List.map_append, List.map_cons, List.map_nil, List.map_cons, List.map_nil, hm]
      · unfold msgsA
        rw [show (ms ++ [m]).flatMap Ms.c = ms.flatMap Ms.c ++ m.c by simp]
        exact I
  · have hie : i = ks.length := by rw [hsl] at h; simp only [decide_eq_false_iff_not] at h; omega
    subst hie
    exact Rt.ok ⟨t, ms, rfl, by rw [hab, List.take_length], I⟩
end
end Go.Proofs.YtabifopphhpciaaGreatDoor

namespace Go.Proofs.YtabifopphhpciaaGreatDoor
open Go Go.Vc Go.Vc.Asn Go.Gf
section
variable {w0 w : World} {F : Asn} {p o : Nat} {x : Cl} {y : Opn} {s : Slc} {t u : Tg} {c : Cfg} {L : List (Int × Rp)}
theorem callF {f : FuncId} {args : Array Value} {K : Ending → World → Prop} (hb : bodyB PP f = true) (h : Calls PP f args w K) : CallV PP (.func (.func f) #[] #[]) args w K := ⟨f, #[], rfl, hb, by rw [Array.append_empty]; exact h⟩
theorem body_cmp : bodyB PP F_tag_Compare = true := by kernel_rfl
theorem maxf_c (hS : Cel w s 2 (t.cells ++ u.cells)) : Calls PP F_slices_MaxFunc #[s.v, .func (.func F_tag_Compare) #[] #[]] w (Rt fun v w' => v = (t.max u).v ∧ Fr [] w w') := by
  have hl : s.l = 2 := by
    have := hS.len
    simp at this
    omega
  obtain ⟨a, ha, h0⟩ := hS.at_ 0 (.int .i64 t.n) rfl
  obtain ⟨a', ha', h1⟩ := hS.at_ 1 (.int .i64 t.c) rfl
  obtain rfl : a = a' := Option.some.inj (ha.symm.trans ha')
  obtain ⟨a', ha', h2⟩ := hS.at_ 2 (.int .i64 u.n) rfl
  obtain rfl : a = a' := Option.some.inj (ha.symm.trans ha')
  obtain ⟨a', ha', h3⟩ := hS.at_ 3 (.int .i64 u.c) rfl
  obtain rfl : a = a' := Option.some.inj (ha.symm.trans ha')
  have g0 : (a.add (Int.toNat 0 * 2)).add 0 = a.add 0 := by rw [add_add]; rfl
  have g1 : (a.add (Int.toNat 0 * 2)).add 1 = a.add 1 := by rw [add_add]; rfl
  have g2 : (a.add (Int.toNat 1 * 2)).add 0 = a.add 2 := by rw [add_add]; rfl
  have g3 : (a.add (Int.toNat 1 * 2)).add 1 = a.add 3 := by rw [add_add]; rfl
  refine sim_slices_MaxFunc _ _ _ _ ?_
  unfold vc_slices_MaxFunc
  refine nw fun b w1 H f1 => ⟨fun w' => w' = w1, ⟨fun h => ?_, fun _ => rfl⟩, ?_⟩
  · simp at h; omega
  rintro _ rfl
  refine ⟨a, ha, by omega, by omega, t.n, ?_, t.c, ?_, H.new fun b2 w2 H => H.stoAll (b := b2) (by rfl) fun w3 H => ?_⟩
  · rw [g0]; exact f1.cell h0 (by simp)
  · rw [g1]; exact f1.cell h1 (by simp)
  refine ⟨fun i w' => ∃ cur : Tg, ((i = 1 ∧ cur = t) ∨ (i = 2 ∧ cur = t.max u)) ∧ Hp w w' (star (bk b2 Ty_api_Tag cur.cells.toArray) (star (bk b Ty_api_Tag #[.int .i64 0, .int .i64 0]) emp)), fun i _ => (2 - i).toNat, ⟨t, .inl ⟨rfl, rfl⟩, H⟩, ?_⟩
  clear H
  rintro i w4 ⟨cur, hi, H⟩
  refine ⟨fun h => ?_, fun h => ?_⟩
  · obtain ⟨rfl, rfl⟩ : i = 1 ∧ cur = t := by
      rcases hi with hi | hi
      · exact hi
      · simp only [decide_eq_true_eq] at h; omega
    have H := H.drew 1
    refine ⟨fun w' => Hp w w' (star (bk b2 Ty_api_Tag (cur.max u).cells.toArray) (star (bk b Ty_api_Tag #[.int .i64 0, .int .i64 0]) emp)), ⟨a, ha, by omega, by omega, u.n, ?_, u.c, ?_, _, H.cell (b := b2) (i := 0) rfl, _, H.cell (b := b2) (i := 1) rfl, callV (callF body_cmp (tcmp_c (t := u) (u := cur))) ?_⟩, fun w5 H => ⟨⟨_, .inr ⟨by decide, rfl⟩, H⟩, by show (2 - wr .i64 (1 + 1)).toNat < (2 - 1 : Int).toNat; decide⟩⟩
    · rw [g2]; exact H.fr.cell h2 (by simp)
    · rw [g3]; exact H.fr.cell h3 (by simp)
    · rintro _ w5 ⟨rfl, f5⟩
      have H := H.fr0 f5
      refine ⟨_, rfl, fun hp => ⟨a, ha, by omega, by omega, u.n, ?_, u.c, ?_, H.stoAll (b := b2) (by rfl) fun w6 H => ?_⟩, fun hp => ?_⟩
      · rw [g2]; exact H.fr.cell h2 (by simp)
      · rw [g3]; exact H.fr.cell h3 (by simp)
      · have e : cur.max u = u := by unfold Tg.max; rw [if_pos (of_decide_eq_true hp)]
        rw [e]; exact H
      · have e : cur.max u = cur := by unfold Tg.max; rw [if_neg (of_decide_eq_false hp)]
        rw [e]; exact H
  · obtain ⟨rfl, rfl⟩ : i = 2 ∧ cur = t.max u := by
      rcases hi with hi | hi
      · simp only [decide_eq_false_iff_not] at h; omega
      · exact hi
    exact ⟨_, H.cell (b := b2) (i := 0) rfl, _, H.cell (b := b2) (i := 1) rfl, H.stoAll (b := b) (by rfl) fun w5 H => ⟨_, H.cell (b := b) (i := 0) rfl, _, H.cell (b := b) (i := 1) rfl, Rt.ok ⟨rfl, H.fr⟩⟩⟩
theorem tmax_c (hS : Cel w s 2 (t.cells ++ u.cells)) : Calls PP F_tag_Max #[s.v] w (Rt fun v w' => v = (t.max u).v ∧ Fr [] w w') := by
  have hl : s.l = 2 := by
    have := hS.len
    simp at this
    omega
  refine sim_tag_Max _ _ _ ?_
  unfold vc_tag_Max
  refine nw fun b w1 H f1 => ⟨fun h => ?_, fun _ => call (maxf_c (hS.fr0 f1)) ?_⟩
  · simp at h; omega
  rintro _ w2 ⟨rfl, f2⟩
  have H := H.fr0 f2
  exact ⟨_, _, rfl, H.stoAll (b := b) (by rfl) fun w3 H => ⟨_, H.cell (b := b) (i := 0) rfl, _, H.cell (b := b) (i := 1) rfl, Rt.ok ⟨rfl, H.fr⟩⟩⟩
def topOf (L : List (Int × Rp)) (i : Nat) : Tg := ((keysOf L).take i).foldl (fun t k => t.max ((llook L k).getD Rp.no).top) Tg.zero
theorem topOf_succ {i : Nat} (hi : i < (keysOf L).length) : topOf L (i + 1) = (topOf L i).max ((llook L (keysOf L)[i]).getD Rp.no).top := by
  unfold topOf
  rw [List.take_succ_eq_append_getElem hi, List.foldl_append]
  rfl
theorem body_top : bodyB PP F_client_operation_top_c1 = true := by kernel_rfl
theorem top_c (hL : L.length ≤ 255) (H : Hp w0 w (star (opnA o y) (star (phA y.ph (c, L)) F))) :
    Calls PP F_client_operation_top #[.pointer (some (blk o))] w (Rt fun v w' => v = (topOf L L.length).v ∧ Hp w0 w' (star (opnA o y) (star (phA y.ph (c, L)) F))) := by
  refine sim_client_operation_top _ _ _ ?_
  unfold vc_client_operation_top
  have H := op_open H
  refine H.new fun b3 w1 H => H.new fun b7 w2 H => ⟨_, rfl, _, H.cell (b := o) (i := 7) rfl, ?_⟩
  have H := (H.blk b7).take (phA y.ph (c, L))
  refine call (peach_c (J := fun i => bk b7 Ty_api_Tag (topOf L i).cells.toArray) (stop := fun _ => false) (by omega) ⟨_, _, _, rfl⟩ (fun i hi w' A _ H => ?_) H) ?_
  · refine ⟨F_client_operation_top_c1, _, rfl, body_top, ?_⟩
    refine sim_client_operation_top_c1 _ _ _ _ _ _ _ _ ?_
    unfold vc_client_operation_top_c1
    refine H.new fun b w1 H => ⟨_, H.cell (b := b7) (i := 0) rfl, _, H.cell (b := b7) (i := 1) rfl, ?_⟩
    refine H.newRow (e := Ty_api_Tag) (n := 2) (size := 2) ((topOf L i).cells ++ ((llook L (keysOf L)[i]).getD Rp.no).top.cells) rfl rfl (by decide) fun b16 w2 H => ?_
    refine call (tmax_c (H.cel (s := ⟨some (blk b16), 2, 2⟩))) ?_
    rintro _ w3 ⟨rfl, f3⟩
    have H := H.fr0 f3
    refine ⟨_, _, rfl, H.stoAll (b := b7) (by rfl) fun w4 H => Rt.ok ⟨rfl, ?_⟩⟩
    have H := ((H.own ⟨some (blk b16), 2, 2⟩).drop.blk b).drop
    rw [topOf_succ hi]
    exact H.blk b7
  · rintro _ w3 ⟨rfl, i, hi, hd, H⟩
    have hie : i = L.length := by
      rw [keysOf_len] at hd
      rcases hd with hd | ⟨j, _, hj, _⟩
      · exact hd.1
      · exact absurd hj (by simp)
    subst hie
    refine ⟨rfl, _, H.cell (b := b7) (i := 0) rfl, _, H.cell (b := b7) (i := 1) rfl, H.stoAll (b := b3) (by rfl) fun w4 H => ⟨_, H.cell (b := b3) (i := 0) rfl, _, H.cell (b := b3) (i := 1) rfl, Rt.ok ⟨rfl, ?_⟩⟩⟩
    have H := ((H.blk b3).drop.blk b7).drop
    exact op_close (((H.own y.val).blk o).ent (Ent.refl _))
end
end Go.Proofs.YtabifopphhpciaaGreatDoor

namespace Go.Proofs.YtabifopphhpciaaGreatDoor
open Go Go.Vc Go.Vc.Asn Go.Gf
def opnR (o : Nat) (y : Opn) (sv pv : Value) : Asn := star (bk o Ty_client_operation #[.int .i64 y.op, .bool y.put, .string y.key, y.val.v, sv, .int .i64 y.tag.n, .int .i64 y.tag.c, pv]) (own Ty_uint8 1 y.val (y.bs.map u8v))
def allOf (n : Nat) : List Int := (List.range n).map fun i : Nat => (i : Int)
theorem missing_nil (n : Nat) : missing [] n = allOf n := by
  unfold missing allOf
  rw [List.filter_eq_self]
  intro i _
  rfl
theorem missing_in {L : List (Int × Rp)} {n : Nat} : ∀ i ∈ missing L n, 0 ≤ i ∧ i < (n : Int) := by
  intro i hi
  unfold missing at hi
  obtain ⟨h, _⟩ := List.mem_filter.1 hi
  obtain ⟨j, hj, rfl⟩ := List.mem_map.1 h
  have := List.mem_range.1 hj
  omega
section
variable {w0 w : World} {F Cd : Asn} {p o g n k : Nat} {x : Cl} {y : Opn} {s sc : Slc} {rs : Rws} {t : Tg} {st : Phs} {sv pv : Value}
theorem enter_c (hC : ∀ {w' : World} {A' : Asn}, Hp w0 w' (star Cd A') → RdCode w' x.cd g sc rs n k) (hc : x.cfg.Ok) (hn : x.cfg.N = (n : Int)) (hn2 : n ≤ 255) (hb : y.bs.length ≤ 65536) (hnow : x.now = some o)
    (H : Hp w0 w (star (cliA p x) (star (opnR o y sv pv) (star Cd F)))) :
    Calls PP F_client_Client_enter #[.pointer (some (blk p)), stgV st, t.v] w (Rt fun v w' => ∃ ph r ms, v = Slc.v r ∧ ms.map Ms.abs = (allOf n).map (reqOf x.id { y with stg := st, tag := t, ph := ph } (partOf rs y.bs k)) ∧
      Hp w0 w' (star (msgsA r ms) (star (cliA p x) (star (opnA o { y with stg := st, tag := t, ph := ph }) (star (phA ph (x.cfg, [])) (star Cd F)))))) := by
  obtain ⟨gm, H⟩ := cl_open H
  have H := (H.take (opnR o y sv pv)).assoc
  refine sim_client_Client_enter _ _ _ _ _ _ ?_
  unfold vc_client_Client_enter
  refine H.new fun b6 w1 H => ⟨_, rfl, _, H.cell (b := p) (i := 7) rfl, ?_⟩
  have H := H.drew 1
  refine ⟨_, H.cell (b := b6) (i := 0) rfl, _, H.cell (b := b6) (i := 1) rfl, _, by rw [hnow]; rfl, rfl, H.sto (b := o) (i := 4) (by simp) fun w2 H => ⟨H.cell (b := b6) (i := 0) rfl, H.cell (b := b6) (i := 1) rfl, StoN.two (H.sto2 (b := o) (i := 5) (j := 0) (by simp) fun w3 H => H.sto2 (b := o) (i := 5) (j := 1) (by simp) fun w4 H => ?_)⟩⟩
  refine ⟨_, H.cell2 (b := p) (i := 0) (j := 0) rfl, _, H.cell2 (b := p) (i := 0) (j := 1) rfl, _, H.cell2 (b := p) (i := 0) (j := 2) rfl, call (pnew_c hc) ?_⟩
  rintro _ w5 ⟨ph, rfl, J⟩
  have H := H.join J
  refine ⟨_, _, rfl, H.sto (b := o) (i := 7) (by simp) fun w6 H => ⟨_, H.cell (b := o) (i := 7) rfl, ?_⟩⟩
  refine call (pmissing_c hn hn2 (H.take (phA ph (x.cfg, [])))) ?_
  rintro _ w7 ⟨sM, rfl, J⟩
  have H := H.join J
  rw [missing_nil] at H
  have H := (H.blk b6).drop
  have H := cl_close ((H.take (mp sK iK gm x.used)).blk p)
  have H := op_close (y := { y with stg := st, tag := t, ph := ph }) ((H.own y.val).blk o)
  have H := H.take (cliA p x)
  have hin : ∀ i ∈ allOf n, 0 ≤ i ∧ i < (n : Int) := fun i hi => missing_in (L := []) i (by rw [missing_nil]; exact hi)
  have hle : (allOf n).length ≤ 255 := by unfold allOf; simp; omega
  refine ⟨_, rfl, call (requests_c (y := { y with stg := st, tag := t, ph := ph }) (hC (H.take Cd)) hin hb hle hnow (H.cel (s := sM)) H) ?_⟩
  rintro _ w8 ⟨r, ms, rfl, hms, J⟩
  have H := H.join J
  have H := (H.own sM).drop
  refine ⟨_, rfl, Rt.ok ⟨ph, r, ms, rfl, hms, ?_⟩⟩
  exact (((H.take (phA ph (x.cfg, []))).take (opnA o { y with stg := st, tag := t, ph := ph })).take (cliA p x)).take (msgsA r ms)
structure _root_.Go.Vc.Rs where
  op : Int
  put : Bool
  status : Int
  tag : Tg
  val : Slc
abbrev _root_.Go.Vc.Rs.v (r : Rs) : Value := .agg #[.int .i64 r.op, .bool r.put, .int .i64 r.status, .int .i64 r.tag.n, .int .i64 r.tag.c, r.val.v]
theorem end_c {e : Int} {v : Slc} (hnow : x.now = some o) (H : Hp w0 w (star (cliA p x) (star (opnA o y) F))) :
    Calls PP F_client_Client_end #[.pointer (some (blk p)), .int .i64 e, t.v, v.v] w (Rt fun z w' => z = .tuple #[(Rs.mk y.op y.put e t v).v, .bool true] ∧ Hp w0 w' (star (cliA p { x with now := none }) (star (opnA o y) F))) := by
  obtain ⟨gm, H⟩ := cl_open H
  have H := op_open (H.take (opnA o y))
  refine sim_client_Client_end _ _ _ _ _ _ _ ?_
  unfold vc_client_Client_end
  refine H.new fun b7 w1 H => H.new fun b10 w2 H => ⟨_, rfl, _, H.cell (b := p) (i := 7) rfl, H.sto (b := p) (i := 7) (by simp) fun w3 H => ⟨_, by rw [hnow]; rfl, ?_⟩⟩
  have H := H.drew 1
  refine ⟨_, H.cell (b := o) (i := 0) rfl, _, H.cell (b := o) (i := 1) rfl, _, H.cell (b := b7) (i := 0) rfl, _, H.cell (b := b7) (i := 1) rfl, H.stoAll (b := b10) (by rfl) fun w4 H => ⟨_, H.cell (b := b10) (i := 0) rfl, _, H.cell (b := b10) (i := 1) rfl, _, H.cell (b := b10) (i := 2) rfl, _, H.cell (b := b10) (i := 3) rfl, _, H.cell (b := b10) (i := 4) rfl, _, H.cell (b := b10) (i := 5) rfl, Rt.ok ⟨rfl, ?_⟩⟩⟩
  have H := ((H.blk b7).drop.blk b10).drop
  have H := cl_close (x := { x with now := none }) ((H.take (mp sK iK gm x.used)).blk p)
  have H := op_close (y := y) ((H.own y.val).blk o)
  exact H.take (cliA p { x with now := none })
end
end Go.Proofs.YtabifopphhpciaaGreatDoor

namespace Go.Proofs.YtabifopphhpciaaGreatDoor
open Go Go.Vc Go.Vc.Asn Go.Gf
section
variable {w0 w : World} {F Cd : Asn} {p o g n k : Nat} {x : Cl} {y : Opn} {s sc v : Slc} {rs : Rws} {t : Tg} {bs : List UInt8} {key : ByteArray} {b : Bool}
theorem bclone_c (hB : Byt w s bs) (hl : bs.length ≤ 1099511627776) : Calls PP F_bytes_Clone #[s.v] w (Rt fun v w' => ∃ o, v = o.v ∧ Hp w w' (star (own Ty_uint8 1 o (bs.map u8v)) emp)) := by
  refine sim_bytes_Clone _ _ _ ?_
  unfold vc_bytes_Clone
  refine ⟨fun h => Rt.ok ⟨_, rfl, ?_⟩, fun h => ?_⟩
  · have : bs = [] := by
      cases bs with
      | nil => rfl
      | cons b r =>
        obtain ⟨p, hp, _⟩ := hB.get (i := 0) (by simp)
        rw [hp] at h; simp at h
    subst this
    exact (Hp.start w).nilRow Ty_uint8 1
  · refine (Hp.start w).newRow (n := 0) (size := 1) [] rfl rfl (by unfold maxLen; omega) fun b w1 H => ?_
    have hsl := hB.len
    refine Hp.app (s := ⟨some (blk b), 0, 0⟩) slT_sl_uint8 H (hB.fr0 H.fr) (one_u8 _) (by unfold maxLen; simp only; omega) (by simp only; omega) fun o w2 H _ => Rt.ok ⟨o, rfl, ?_⟩
    exact H
theorem begin_c {Vp : Asn} (hC : ∀ {w' : World} {A' : Asn}, Hp w0 w' (star Cd A') → RdCode w' x.cd g sc rs n k) (hV : ∀ {w' : World} {A' : Asn}, Hp w0 w' (star Vp A') → Byt w' v bs) (hc : x.cfg.Ok) (hn : x.cfg.N = (n : Int)) (hn2 : n ≤ 255) (hnow : x.now = none) (h0 : 0 ≤ x.ops) (h1 : x.ops < 4611686018427387903) (hk : 1 ≤ key.size) (hk2 : key.size ≤ 64) (hb : bs.length ≤ 65536)
    (H : Hp w0 w (star (cliA p x) (star Vp (star Cd F)))) :
    Calls PP F_client_Client_begin #[.pointer (some (blk p)), .bool b, .string key, v.v] w (Rt fun z w' => ∃ o val ph r ms, z = .tuple #[.int .i64 (x.ops + 1), Slc.v r, .int .i64 0] ∧ ms.map Ms.abs = (allOf n).map (reqOf x.id ⟨x.ops + 1, b, key, val, bs, .ask, Tg.zero, ph⟩ (partOf rs bs k)) ∧
      Hp w0 w' (star (msgsA r ms) (star (cliA p { x with ops := x.ops + 1, now := some o }) (star (opnA o ⟨x.ops + 1, b, key, val, bs, .ask, Tg.zero, ph⟩) (star (phA ph (x.cfg, [])) (star Cd (star Vp F))))))) := by
  obtain ⟨gm, H⟩ := cl_open H
  refine sim_client_Client_begin _ _ _ _ _ _ ?_
  unfold vc_client_Client_begin
  have hvl := (hV (H.take Vp)).len
  refine ⟨_, rfl, _, H.cell (b := p) (i := 7) rfl, fun h => by simp [hnow] at h, fun _ => ⟨fun h => ?_, fun _ => ⟨fun h => ?_, fun _ => ⟨_, H.cell (b := p) (i := 5) rfl, fun h => ?_, fun _ => ⟨_, H.cell (b := p) (i := 5) rfl, ?_⟩⟩⟩⟩⟩
  · simp at h; omega
  · simp at h; omega
  · simp at h; omega
  rw [wr64 (n := x.ops + 1) (by omega) (by omega)]
  refine H.sto (b := p) (i := 5) (by simp) fun w1 H => ?_
  have H := H.drew 1
  refine ⟨_, H.cell (b := p) (i := 5) rfl, call (bclone_c (hV (H.take Vp)) (by omega)) ?_⟩
  rintro _ w2 ⟨val, rfl, J⟩
  have H := H.join J
  refine ⟨_, rfl, H.cell (b := p) (i := 5) rfl, H.new fun o w3 H => H.sto (b := p) (i := 7) (by simp) fun w4 H => ?_⟩
  have H := H.drew 1
  refine ⟨_, H.cell (b := p) (i := 5) rfl, ?_⟩
  have H := H.take Cd
  have H : Hp w0 _ (star (opnR o ⟨x.ops + 1, b, key, val, bs, .ask, Tg.zero, 0⟩ .nilIface (.pointer none)) _) := ((H.own val).blk o).assoc'
  have H := cl_close (x := { x with ops := x.ops + 1, now := some o }) ((H.take (mp sK iK gm x.used)).blk p)
  refine call (enter_c (x := { x with ops := x.ops + 1, now := some o }) (y := ⟨x.ops + 1, b, key, val, bs, .ask, Tg.zero, 0⟩) (st := .ask) (t := Tg.zero) hC hc hn hn2 hb rfl H) ?_
  rintro _ w5 ⟨ph, r, ms, rfl, hms, H⟩
  obtain ⟨gm2, H2⟩ := cl_open (H.take (cliA p { x with ops := x.ops + 1, now := some o }))
  exact ⟨_, rfl, H2.cell (b := p) (i := 5) rfl, Rt.ok ⟨o, val, ph, r, ms, rfl, hms, H⟩⟩
theorem put_c {Vp : Asn} (hC : ∀ {w' : World} {A' : Asn}, Hp w0 w' (star Cd A') → RdCode w' x.cd g sc rs n k) (hV : ∀ {w' : World} {A' : Asn}, Hp w0 w' (star Vp A') → Byt w' v bs) (hc : x.cfg.Ok) (hn : x.cfg.N = (n : Int)) (hn2 : n ≤ 255) (hnow : x.now = none) (h0 : 0 ≤ x.ops) (h1 : x.ops < 4611686018427387903) (hk : 1 ≤ key.size) (hk2 : key.size ≤ 64) (hb : bs.length ≤ 65536)
    (H : Hp w0 w (star (cliA p x) (star Vp (star Cd F)))) :
    Calls PP F_client_Client_Put #[.pointer (some (blk p)), .string key, v.v] w (Rt fun z w' => ∃ o val ph r ms, z = .tuple #[.int .i64 (x.ops + 1), Slc.v r, .int .i64 0] ∧ ms.map Ms.abs = (allOf n).map (reqOf x.id ⟨x.ops + 1, true, key, val, bs, .ask, Tg.zero, ph⟩ (partOf rs bs k)) ∧
      Hp w0 w' (star (msgsA r ms) (star (cliA p { x with ops := x.ops + 1, now := some o }) (star (opnA o ⟨x.ops + 1, true, key, val, bs, .ask, Tg.zero, ph⟩) (star (phA ph (x.cfg, [])) (star Cd (star Vp F))))))) := by
  refine sim_client_Client_Put _ _ _ _ _ ?_
  unfold vc_client_Client_Put
  refine ⟨fun h => by simp at h, fun _ => call (begin_c hC hV hc hn hn2 hnow h0 h1 hk hk2 hb H) ?_⟩
  rintro _ w1 ⟨o, val, ph, r, ms, rfl, hms, H⟩
  exact ⟨_, _, _, rfl, Rt.ok ⟨o, val, ph, r, ms, rfl, hms, H⟩⟩
end
end Go.Proofs.YtabifopphhpciaaGreatDoor

namespace Go.Vc
def badB (x : Cl) (y : Opn) (m : Ms) : Bool := (((decide (m.cl ≠ x.id) || decide (m.op ≠ y.op)) || decide (m.key.toList ≠ y.key.toList)) || decide (m.sv < 0)) || decide (x.cfg.N ≤ m.sv)
def goodB (y : Opn) (m : Ms) : Bool :=
  match y.stg with
  | .ask => decide (m.k = 2) && m.top.valid
  | .write => decide (m.k = 4) && (decide (m.tag.n = y.tag.n) && decide (m.tag.c = y.tag.c))
  | .fin => decide (m.k = 6) && (decide (m.tag.n = y.tag.n) && decide (m.tag.c = y.tag.c))
  | .read => decide (m.k = 8) && ((decide (m.tag.n = y.tag.n) && decide (m.tag.c = y.tag.c)) && m.top.valid)
def countsB (x : Cl) (y : Opn) (m : Ms) : Bool := !badB x y m && goodB y m
end Go.Vc
namespace Go.Proofs.YtabifopphhpciaaGreatDoor
open Go Go.Vc Go.Vc.Asn Go.Gf
section
variable {w0 w : World} {F Cd : Asn} {p o g n k : Nat} {x : Cl} {y : Opn} {m : Ms} {sc : Slc} {rs : Rws} {t : Tg}
theorem counts_c (hnow : x.now = some o) (H : Hp w0 w (star (cliA p x) (star (opnA o y) F))) :
    Calls PP F_client_Client_counts #[.pointer (some (blk p)), .agg m.c.toArray] w (Rt fun v w' => v = .bool (countsB x y m) ∧ Fr [] w w') := by
  obtain ⟨gm, H⟩ := cl_open H
  have H0 := op_open (H.take (opnA o y))
  rw [hnow, Option.map_some] at H0
  clear H
  refine sim_client_Client_counts _ _ _ _ _ _ _ _ _ _ _ _ _ _ ?_
  unfold vc_client_Client_counts
  refine nw fun b w1 J f1 => ?_
  have H := H0.fr0 f1
  refine ⟨_, rfl, _, H.cell (b := p) (i := 7) rfl, decide (m.cl ≠ x.id), fun _ => ⟨_, H.cell (b := p) (i := 3) rfl, rfl⟩, fun h => by simp at h, decide (m.cl ≠ x.id) || decide (m.op ≠ y.op), fun h => ⟨_, rfl, _, H.cell (b := o) (i := 0) rfl, by rw [h, Bool.false_or]⟩, fun h => by rw [h, Bool.true_or], (decide (m.cl ≠ x.id) || decide (m.op ≠ y.op)) || decide (m.key.toList ≠ y.key.toList), fun h => ⟨_, rfl, _, H.cell (b := o) (i := 2) rfl, by rw [h, Bool.false_or]⟩, fun h => by rw [h, Bool.true_or], badB x y m, fun h => ⟨_, H.cell2 (b := p) (i := 0) (j := 0) rfl, by unfold badB; rw [h, Bool.false_or]⟩, fun h => by unfold badB; rw [h, Bool.true_or], fun q => ?_⟩
  have H := H.drew q
  have J := J.drew q
  refine ⟨fun hb => Rt.ok ⟨by unfold countsB; rw [hb]; rfl, J.fr⟩, fun hb => ⟨_, rfl, _, H.cell (b := o) (i := 4) rfl, ?_⟩⟩
  have ec : countsB x y m = goodB y m := by unfold countsB; rw [hb]; rfl
  rw [ec]
  refine tasA ⟨_, rfl, fun hA => ?_, fun hA => tasW ⟨_, rfl, fun hW => ?_, fun hW => tasF ⟨_, rfl, fun hF => ?_, fun hF => tasR ⟨_, rfl, fun hR => ?_, fun hR => ?_⟩⟩⟩⟩
  · have hA : y.stg = .ask := of_decide_eq_true hA
    have eg : goodB y m = (decide (m.k = 2) && m.top.valid) := by unfold goodB; rw [hA]
    refine ⟨fun b w' => b = goodB y m ∧ Fr [] w w', ⟨fun h => call (valid_c (t := m.top)) ?_, fun h => ⟨by rw [eg, h, Bool.false_and], J.fr⟩⟩, ?_⟩
    · rintro _ w2 ⟨rfl, f2⟩
      exact ⟨_, rfl, by rw [eg, h, Bool.true_and], J.fr.then_ f2⟩
    · rintro _ w2 ⟨rfl, f2⟩
      exact Rt.ok ⟨rfl, f2⟩
  · have hW : y.stg = .write := of_decide_eq_true hW
    have eg : goodB y m = (decide (m.k = 4) && (decide (m.tag.n = y.tag.n) && decide (m.tag.c = y.tag.c))) := by unfold goodB; rw [hW]
    exact ⟨goodB y m, fun h => ⟨_, H.cell2 (b := o) (i := 5) (j := 0) rfl, _, H.cell2 (b := o) (i := 5) (j := 1) rfl, by rw [eg, h, Bool.true_and]⟩, fun h => by rw [eg, h, Bool.false_and], fun q => Rt.ok ⟨rfl, (J.drew q).fr⟩⟩
  · have hF : y.stg = .fin := of_decide_eq_true hF
    have eg : goodB y m = (decide (m.k = 6) && (decide (m.tag.n = y.tag.n) && decide (m.tag.c = y.tag.c))) := by unfold goodB; rw [hF]
    exact ⟨goodB y m, fun h => ⟨_, H.cell2 (b := o) (i := 5) (j := 0) rfl, _, H.cell2 (b := o) (i := 5) (j := 1) rfl, by rw [eg, h, Bool.true_and]⟩, fun h => by rw [eg, h, Bool.false_and], fun q => Rt.ok ⟨rfl, (J.drew q).fr⟩⟩
  · have hR : y.stg = .read := of_decide_eq_true hR
    have eg : goodB y m = (decide (m.k = 8) && ((decide (m.tag.n = y.tag.n) && decide (m.tag.c = y.tag.c)) && m.top.valid)) := by unfold goodB; rw [hR]
    have J := J.drew 1
    have H := H.drew 1
    refine ⟨fun b w' => b = goodB y m ∧ Fr [] w w', ⟨_, J.cell (b := b) (i := 0) rfl, fun h => ⟨_, J.cell2 (b := b) (i := 5) (j := 0) rfl, _, J.cell2 (b := b) (i := 5) (j := 1) rfl, _, H.cell2 (b := o) (i := 5) (j := 0) rfl, _, H.cell2 (b := o) (i := 5) (j := 1) rfl, fun h2 => ⟨_, J.cell2 (b := b) (i := 7) (j := 0) rfl, _, J.cell2 (b := b) (i := 7) (j := 1) rfl, call (valid_c (t := m.top)) ?_⟩, fun h2 => ⟨by rw [eg, h2, Bool.false_and, Bool.and_false], J.fr⟩⟩, fun h => ⟨by rw [eg, h, Bool.false_and], J.fr⟩⟩, ?_⟩
    · rintro _ w2 ⟨rfl, f2⟩
      exact ⟨_, rfl, by rw [eg, h, h2, Bool.true_and, Bool.true_and], J.fr.then_ f2⟩
    · rintro _ w2 ⟨rfl, f2⟩
      exact Rt.ok ⟨rfl, f2⟩
  · cases hy : y.stg <;> simp [hy] at hA hW hF hR
end
end Go.Proofs.YtabifopphhpciaaGreatDoor

namespace Go.Proofs.YtabifopphhpciaaGreatDoor
open Go Go.Vc Go.Vc.Asn Go.Gf
def usedOf (x : Cl) (k : ByteArray) : Int := (llook x.used k).getD 0
def Rs.no : Rs := ⟨0, false, 0, Tg.zero, Slc.nil⟩
theorem und_maps : PP.underlying Ty_map_string_int64 = some (.map Ty_string Ty_int64) := by kernel_rfl
theorem keyT_s : KeyT PP Ty_string sK := keyT_str (by kernel_rfl)
theorem zero_i64 (w : World) : (zeroValue Ty_int64).run PP w = .ok (.int .i64 0) w := run_zero (by unfold zeroB; kernel_rfl)
theorem used_v (x : Cl) (k : ByteArray) : ((llook x.used k).map iK).getD (.int .i64 0) = .int .i64 (usedOf x k) := by
  unfold usedOf
  cases llook x.used k <;> rfl
abbrev chA (p o b5 b8 gm : Nat) (x : Cl) (y : Opn) (t : Tg) (F : Asn) : Asn :=
  star (bk b8 Ty_api_Result #[.int .i64 0, .bool false, .int .i64 0, .int .i64 0, .int .i64 0, Slc.nil.v]) (star (bk b5 Ty_api_Tag #[.int .i64 t.n, .int .i64 t.c])
    (star (bk o Ty_client_operation #[.int .i64 y.op, .bool y.put, .string y.key, y.val.v, stgV y.stg, .int .i64 y.tag.n, .int .i64 y.tag.c, .pointer (some (blk y.ph))]) (star (own Ty_uint8 1 y.val (y.bs.map u8v))
      (star (bk p Ty_client_Client #[.int .i64 x.cfg.N, .int .i64 x.cfg.K, .int .i64 x.cfg.D, .int .i64 x.id, .pointer (some (blk x.cd)), .int .i64 x.ops, .map (some gm), .pointer (some (blk o))]) (star (mp sK iK gm x.used) F)))))
def chB (o3 : Option Nat) (o4 : Option Unit) (u : Tg) (A : Asn) : Asn :=
  match o3, o4 with
  | none, _ => A
  | some b, none => star (bk b Ty_api_Tag #[.int .i64 0, .int .i64 0]) A
  | some b, some _ => star (bk b Ty_api_Tag #[.int .i64 u.n, .int .i64 u.c]) A
section
variable {w0 w : World} {F Cd : Asn} {p o g n k : Nat} {x : Cl} {y : Opn} {sc : Slc} {rs : Rws} {t : Tg}
theorem chosenPut_c (hC : ∀ {w' : World} {A' : Asn}, Hp w0 w' (star Cd A') → RdCode w' x.cd g sc rs n k) (hc : x.cfg.Ok) (hn : x.cfg.N = (n : Int)) (hn2 : n ≤ 255) (hb : y.bs.length ≤ 65536) (hnow : x.now = some o)
    (hput : y.put = true) (hv : t.valid = true) (hu : 0 ≤ usedOf x y.key) (hu2 : usedOf x y.key ≤ 4611686018427387903) (hi : 1 ≤ x.id) (hi2 : x.id ≤ 65535) (hm : (t.next (usedOf x y.key) x.id).n ≤ 4611686018427387903)
    (H : Hp w0 w (star (cliA p x) (star (opnA o y) (star Cd F)))) :
    Calls PP F_client_Client_chosen #[.pointer (some (blk p)), t.v] w (Rt fun v w' => ∃ ph r ms, v = .tuple #[Slc.v r, Rs.no.v, .bool false] ∧ ms.map Ms.abs = (allOf n).map (reqOf x.id { y with stg := .write, tag := t.next (usedOf x y.key) x.id, ph := ph } (partOf rs y.bs k)) ∧
      Hp w0 w' (star (msgsA r ms) (star (cliA p { x with used := lput x.used y.key (t.next (usedOf x y.key) x.id).n }) (star (opnA o { y with stg := .write, tag := t.next (usedOf x y.key) x.id, ph := ph }) (star (phA ph (x.cfg, [])) (star Cd F)))))) := by
  obtain ⟨gm, H⟩ := cl_open H
  have H := op_open (H.take (opnA o y))
  rw [hnow, Option.map_some] at H
  refine sim_client_Client_chosen _ _ _ _ _ ?_
  unfold vc_client_Client_chosen
  refine H.new fun b5 w1 H => H.new fun b8 w2 H => ⟨_, rfl, _, H.cell (b := p) (i := 7) rfl, _, rfl, _, H.cell (b := o) (i := 1) rfl, fun h => by rw [hput] at h; simp at h, fun _ => ?_⟩
  have H := H.drew 1
  generalize hnt : t.next (usedOf x y.key) x.id = nt at *
  have H : Hp w0 (w2.drewN 1) (chA p o b5 b8 gm x y t (star Cd F)) := H
  refine ⟨t.n, t.c, some gm, y.key, x.id, fun o1 o2 o3 o4 w' => (o1 = none ∨ o1 = some (usedOf x y.key)) ∧ (o2 = none ∨ (o1 = some (usedOf x y.key) ∧ o2 = some (nt.n, nt.c, 0))) ∧ Hp w0 w' (chB o3 o4 nt (chA p o b5 b8 gm x y t (star Cd F))), ⟨.inl rfl, .inl rfl, H⟩, ?_, ?_, ?_, ?_, ?_, ?_, ?_, ?_, ?_⟩
  · rintro o1 (_ | b) w3 ⟨_, _, H⟩
    · have H : Hp w0 w3 (chA p o b5 b8 gm x y t (star Cd F)) := H
      exact ⟨H.cell (b := b5) (i := 0) rfl, H.cell (b := b5) (i := 1) rfl⟩
    · have H : Hp w0 w3 (star (bk b Ty_api_Tag #[.int .i64 0, .int .i64 0]) (chA p o b5 b8 gm x y t (star Cd F))) := H
      exact ⟨H.cell (b := b5) (i := 0) rfl, H.cell (b := b5) (i := 1) rfl⟩
  · rintro (_ | b) w3 ⟨_, _, H⟩
    · have H : Hp w0 w3 (chA p o b5 b8 gm x y t (star Cd F)) := H
      exact H.cell (b := p) (i := 6) rfl
    · have H : Hp w0 w3 (star (bk b Ty_api_Tag #[.int .i64 0, .int .i64 0]) (chA p o b5 b8 gm x y t (star Cd F))) := H
      exact H.cell (b := p) (i := 6) rfl
  · rintro (_ | b) w3 ⟨_, _, H⟩
    · have H : Hp w0 w3 (chA p o b5 b8 gm x y t (star Cd F)) := H
      exact H.cell (b := o) (i := 2) rfl
    · have H : Hp w0 w3 (star (bk b Ty_api_Tag #[.int .i64 0, .int .i64 0]) (chA p o b5 b8 gm x y t (star Cd F))) := H
      exact H.cell (b := o) (i := 2) rfl
  · rintro o1 (_ | b) w3 ⟨_, _, H⟩
    · have H : Hp w0 w3 (chA p o b5 b8 gm x y t (star Cd F)) := H
      exact H.cell (b := p) (i := 3) rfl
    · have H : Hp w0 w3 (star (bk b Ty_api_Tag #[.int .i64 0, .int .i64 0]) (chA p o b5 b8 gm x y t (star Cd F))) := H
      exact H.cell (b := p) (i := 3) rfl
  · rintro (_ | b) w3 ⟨_, _, H⟩
    · have H' : Hp w0 w3 (chA p o b5 b8 gm x y t (star Cd F)) := H
      refine Hp.lkp (g := gm) (ev := iK) H' keyT_s und_maps (zero_i64 _) ?_
      simp only [Bool.false_eq_true, if_false]
      rw [used_v]
      exact ⟨_, rfl, .inr rfl, .inl trivial, H⟩
    · have H' : Hp w0 w3 (star (bk b Ty_api_Tag #[.int .i64 0, .int .i64 0]) (chA p o b5 b8 gm x y t (star Cd F))) := H
      refine Hp.lkp (g := gm) (ev := iK) H' keyT_s und_maps (zero_i64 _) ?_
      simp only [Bool.false_eq_true, if_false]
      rw [used_v]
      exact ⟨_, rfl, .inr rfl, .inl trivial, H⟩
  · rintro m o3 w3 ⟨h1, _, H⟩
    obtain rfl : m = usedOf x y.key := by simpa using h1
    refine call (tnext_c (t := t) hv hu hu2 hi hi2) ?_
    rintro _ w4 ⟨hw, f4⟩
    rw [hnt, if_neg (by omega)] at hw
    exact ⟨_, _, _, hw, .inr rfl, .inr ⟨rfl, rfl⟩, H.fr0 f4⟩
  · rintro o1 o2 w3 ⟨h1, h2, H⟩
    have H : Hp w0 w3 (chA p o b5 b8 gm x y t (star Cd F)) := H
    exact H.new fun b w4 H => ⟨h1, h2, H⟩
  · rintro m C118 C119 N120 b w3 ⟨h1, h2, H⟩
    have H : Hp w0 w3 (star (bk b Ty_api_Tag #[.int .i64 0, .int .i64 0]) (chA p o b5 b8 gm x y t (star Cd F))) := H
    obtain ⟨rfl, rfl, rfl⟩ : C118 = nt.n ∧ C119 = nt.c ∧ N120 = 0 := by
      rcases h2 with h2 | ⟨_, h2⟩
      · simp at h2
      · simpa using h2
    exact H.stoAll (b := b) (by rfl) fun w4 H => ⟨h1, h2, H⟩
  · rintro m C118 C119 N120 b w3 ⟨h1, h2, H⟩
    have H : Hp w0 w3 (star (bk b Ty_api_Tag #[.int .i64 nt.n, .int .i64 nt.c]) (chA p o b5 b8 gm x y t (star Cd F))) := H
    obtain ⟨rfl, rfl, rfl⟩ : C118 = nt.n ∧ C119 = nt.c ∧ N120 = 0 := by
      rcases h2 with h2 | ⟨_, h2⟩
      · simp at h2
      · simpa using h2
    refine ⟨fun h => absurd h (by decide), fun _ => ?_⟩
    have H := H.drew 1
    refine ⟨_, H.cell (b := p) (i := 6) rfl, _, H.cell (b := o) (i := 2) rfl, _, H.cell (b := b) (i := 0) rfl, Hp.mup (g := gm) (ev := iK) (v := nt.n) H keyT_s und_maps fun w4 H => ?_⟩
    refine ⟨_, H.cell (b := b) (i := 0) rfl, _, H.cell (b := b) (i := 1) rfl, ?_⟩
    have H := ((H.blk b).drop.blk b5).drop
    have H := H.take Cd
    have H : Hp w0 w4 (star (opnR o y (stgV y.stg) (.pointer (some (blk y.ph)))) _) := ((H.own y.val).blk o).assoc'
    have H := cl_close (x := { x with used := lput x.used y.key nt.n }) (((H.take (mp sK iK gm (lput x.used y.key nt.n))).blk p).ent (by rw [hnow]; exact Ent.refl _))
    refine call (enter_c (x := { x with used := lput x.used y.key nt.n }) (y := y) (st := .write) (t := nt) hC hc hn hn2 hb hnow H) ?_
    rintro _ w5 ⟨ph, r, ms, rfl, hms, H⟩
    refine ⟨_, rfl, H.stoAll (b := b8) (by rfl) fun w6 H => ⟨_, H.cell (b := b8) (i := 0) rfl, _, H.cell (b := b8) (i := 1) rfl, _, H.cell (b := b8) (i := 2) rfl, _, H.cell (b := b8) (i := 3) rfl, _, H.cell (b := b8) (i := 4) rfl, _, H.cell (b := b8) (i := 5) rfl, Rt.ok ⟨ph, r, ms, rfl, hms, (H.blk b8).drop⟩⟩⟩
end
end Go.Proofs.YtabifopphhpciaaGreatDoor

namespace Go.Proofs.YtabifopphhpciaaGreatDoor
open Go Go.Vc Go.Vc.Asn Go.Gf
section
variable {w0 w : World} {A F Cd : Asn} {p o g n k : Nat} {x : Cl} {y : Opn} {sc : Slc} {rs : Rws} {t : Tg} {c : Cfg} {L : List (Int × Rp)}
theorem rd_now [h : Take (cliA p x) A F] (H : Hp w0 w A) (hnow : x.now = some o) : w.cell? ((blk p).add 7) = some (.pointer (some (blk o))) := by
  obtain ⟨gm, H⟩ := cl_open (H.take (cliA p x))
  have := H.cell (b := p) (i := 7) rfl
  rw [this, hnow]
  rfl
theorem rd_stg [h : Take (opnA o y) A F] (H : Hp w0 w A) : w.cell? ((blk o).add 4) = some (stgV y.stg) := (op_open (H.take (opnA o y))).cell (b := o) (i := 4) rfl
theorem rd_tagn [h : Take (opnA o y) A F] (H : Hp w0 w A) : w.cell? (((blk o).add 5).add 0) = some (.int .i64 y.tag.n) := (op_open (H.take (opnA o y))).cell2 (b := o) (i := 5) (j := 0) rfl
theorem rd_tagc [h : Take (opnA o y) A F] (H : Hp w0 w A) : w.cell? (((blk o).add 5).add 1) = some (.int .i64 y.tag.c) := (op_open (H.take (opnA o y))).cell2 (b := o) (i := 5) (j := 1) rfl
theorem rd_ph [h : Take (opnA o y) A F] (H : Hp w0 w A) : w.cell? ((blk o).add 7) = some (.pointer (some (blk y.ph))) := (op_open (H.take (opnA o y))).cell (b := o) (i := 7) rfl
theorem metAsk_c (hC : ∀ {w' : World} {A' : Asn}, Hp w0 w' (star Cd A') → RdCode w' x.cd g sc rs n k) (hc : x.cfg.Ok) (hn : x.cfg.N = (n : Int)) (hn2 : n ≤ 255) (hb : y.bs.length ≤ 65536) (hnow : x.now = some o) (hs : y.stg = .ask) (hL : L.length ≤ 255) (ht : topOf L L.length = t)
    (hput : y.put = true) (hv : t.valid = true) (hu : 0 ≤ usedOf x y.key) (hu2 : usedOf x y.key ≤ 4611686018427387903) (hi : 1 ≤ x.id) (hi2 : x.id ≤ 65535) (hm : (t.next (usedOf x y.key) x.id).n ≤ 4611686018427387903)
    (H : Hp w0 w (star (cliA p x) (star (opnA o y) (star (phA y.ph (c, L)) (star Cd F))))) :
    Calls PP F_client_Client_met #[.pointer (some (blk p))] w (Rt fun v w' => ∃ ph r ms, v = .tuple #[Slc.v r, Rs.no.v, .bool false] ∧ ms.map Ms.abs = (allOf n).map (reqOf x.id { y with stg := .write, tag := t.next (usedOf x y.key) x.id, ph := ph } (partOf rs y.bs k)) ∧
      Hp w0 w' (star (msgsA r ms) (star (cliA p { x with used := lput x.used y.key (t.next (usedOf x y.key) x.id).n }) (star (opnA o { y with stg := .write, tag := t.next (usedOf x y.key) x.id, ph := ph }) (star (phA ph (x.cfg, [])) (star Cd (star (phA y.ph (c, L)) F))))))) := by
  refine sim_client_Client_met _ _ _ ?_
  unfold vc_client_Client_met
  refine H.new fun b3 w1 H => ⟨_, rfl, _, rd_now (x := x) H hnow, H.new fun b11 w2 H => ⟨fun _ _ => False, ⟨_, rfl, _, rd_stg (y := y) H, tasA ⟨_, rfl, fun _ => ?_, fun h => ?_⟩⟩, fun _ _ h => h.elim⟩⟩
  · refine call (top_c hL ((H.take (phA y.ph (c, L))).take (opnA o y))) ?_
    rintro _ w3 ⟨rfl, H⟩
    rw [ht]
    refine ⟨_, _, rfl, call (chosenPut_c hC hc hn hn2 hb hnow hput hv hu hu2 hi hi2 hm (((H.take Cd).take (opnA o y)).take (cliA p x))) ?_⟩
    rintro _ w4 ⟨ph, r, ms, rfl, hms, H⟩
    refine ⟨_, _, _, _, _, _, _, _, rfl, H.stoAll (b := b3) (by rfl) fun w5 H => ⟨_, H.cell (b := b3) (i := 0) rfl, _, H.cell (b := b3) (i := 1) rfl, _, H.cell (b := b3) (i := 2) rfl, _, H.cell (b := b3) (i := 3) rfl, _, H.cell (b := b3) (i := 4) rfl, _, H.cell (b := b3) (i := 5) rfl, Rt.ok ⟨ph, r, ms, rfl, hms, ?_⟩⟩⟩
    have H := ((H.blk b3).drop.blk b11).drop
    exact H
  · rw [hs] at h
    exact absurd h (by decide)
theorem metWrite_c (hC : ∀ {w' : World} {A' : Asn}, Hp w0 w' (star Cd A') → RdCode w' x.cd g sc rs n k) (hc : x.cfg.Ok) (hn : x.cfg.N = (n : Int)) (hn2 : n ≤ 255) (hb : y.bs.length ≤ 65536) (hnow : x.now = some o) (hs : y.stg = .write)
    (H : Hp w0 w (star (cliA p x) (star (opnA o y) (star Cd F)))) :
    Calls PP F_client_Client_met #[.pointer (some (blk p))] w (Rt fun v w' => ∃ ph r ms, v = .tuple #[Slc.v r, Rs.no.v, .bool false] ∧ ms.map Ms.abs = (allOf n).map (reqOf x.id { y with stg := .fin, ph := ph } (partOf rs y.bs k)) ∧
      Hp w0 w' (star (msgsA r ms) (star (cliA p x) (star (opnA o { y with stg := .fin, ph := ph }) (star (phA ph (x.cfg, [])) (star Cd F)))))) := by
  refine sim_client_Client_met _ _ _ ?_
  unfold vc_client_Client_met
  refine H.new fun b3 w1 H => ⟨_, rfl, _, rd_now (x := x) H hnow, H.new fun b11 w2 H => ⟨fun _ _ => False, ⟨_, rfl, _, rd_stg (y := y) H, tasA ⟨_, rfl, fun h => ?_, fun _ => tasW ⟨_, rfl, fun _ => ?_, fun h => ?_⟩⟩⟩, fun _ _ h => h.elim⟩⟩
  · rw [hs] at h
    exact absurd h (by decide)
  · have H := H.drew 1
    refine ⟨_, rd_tagn (y := y) H, _, rd_tagc (y := y) H, _, H.cell (b := b11) (i := 0) rfl, _, H.cell (b := b11) (i := 1) rfl, _, H.cell (b := b11) (i := 2) rfl, _, H.cell (b := b11) (i := 3) rfl, _, H.cell (b := b11) (i := 4) rfl, _, H.cell (b := b11) (i := 5) rfl, ?_⟩
    have H : Hp w0 _ (star (opnR o y (stgV y.stg) (.pointer (some (blk y.ph)))) _) := (H.take Cd).take (opnA o y)
    refine call (enter_c (st := .fin) (t := y.tag) hC hc hn hn2 hb hnow (H.take (cliA p x))) ?_
    rintro _ w3 ⟨ph, r, ms, rfl, hms, H⟩
    refine ⟨_, rfl, H.cell (b := b11) (i := 0) rfl, H.cell (b := b11) (i := 1) rfl, H.cell (b := b11) (i := 2) rfl, H.cell (b := b11) (i := 3) rfl, H.cell (b := b11) (i := 4) rfl, H.cell (b := b11) (i := 5) rfl, H.stoAll (b := b3) (by rfl) fun w5 H => ⟨_, H.cell (b := b3) (i := 0) rfl, _, H.cell (b := b3) (i := 1) rfl, _, H.cell (b := b3) (i := 2) rfl, _, H.cell (b := b3) (i := 3) rfl, _, H.cell (b := b3) (i := 4) rfl, _, H.cell (b := b3) (i := 5) rfl, Rt.ok ⟨ph, r, ms, rfl, hms, ?_⟩⟩⟩
    exact ((H.blk b3).drop.blk b11).drop
  · rw [hs] at h
    exact absurd h (by decide)
theorem metFin_c (hnow : x.now = some o) (hs : y.stg = .fin) (H : Hp w0 w (star (cliA p x) (star (opnA o y) F))) :
    Calls PP F_client_Client_met #[.pointer (some (blk p))] w (Rt fun v w' => v = .tuple #[Slc.v Slc.nil, (Rs.mk y.op y.put 0 y.tag Slc.nil).v, .bool true] ∧ Hp w0 w' (star (cliA p { x with now := none }) (star (opnA o y) F))) := by
  refine sim_client_Client_met _ _ _ ?_
  unfold vc_client_Client_met
  refine H.new fun b3 w1 H => ⟨_, rfl, _, rd_now (x := x) H hnow, H.new fun b11 w2 H => ⟨fun e w' => e = true ∧ Hp w0 w' (star (bk b11 Ty_api_Result #[.int .i64 y.op, .bool y.put, .int .i64 0, .int .i64 y.tag.n, .int .i64 y.tag.c, Slc.nil.v]) (star (bk b3 Ty_api_Result #[.int .i64 0, .bool false, .int .i64 0, .int .i64 0, .int .i64 0, Slc.nil.v]) (star (cliA p { x with now := none }) (star (opnA o y) F)))), ⟨_, rfl, _, rd_stg (y := y) H, tasA ⟨_, rfl, fun h => ?_, fun _ => tasW ⟨_, rfl, fun h => ?_, fun _ => tasF ⟨_, rfl, fun _ => ?_, fun h => ?_⟩⟩⟩⟩, ?_⟩⟩
  · rw [hs] at h
    exact absurd h (by decide)
  · rw [hs] at h
    exact absurd h (by decide)
  · refine ⟨_, rd_tagn (y := y) H, _, rd_tagc (y := y) H, call (end_c (t := y.tag) (v := Slc.nil) hnow ((H.take (opnA o y)).take (cliA p x))) ?_⟩
    rintro _ w3 ⟨rfl, H⟩
    refine ⟨_, _, _, _, _, _, _, rfl, H.stoAll (b := b11) (by rfl) fun w4 H => ⟨rfl, ?_⟩⟩
    exact (((H.take (opnA o y)).take (cliA p { x with now := none })).blk b3).blk b11
  · rw [hs] at h
    exact absurd h (by decide)
  · rintro _ w3 ⟨rfl, H⟩
    have H := H.drew 1
    refine ⟨_, H.cell (b := b11) (i := 0) rfl, _, H.cell (b := b11) (i := 1) rfl, _, H.cell (b := b11) (i := 2) rfl, _, H.cell (b := b11) (i := 3) rfl, _, H.cell (b := b11) (i := 4) rfl, _, H.cell (b := b11) (i := 5) rfl, H.stoAll (b := b3) (by rfl) fun w5 H => ⟨_, H.cell (b := b3) (i := 0) rfl, _, H.cell (b := b3) (i := 1) rfl, _, H.cell (b := b3) (i := 2) rfl, _, H.cell (b := b3) (i := 3) rfl, _, H.cell (b := b3) (i := 4) rfl, _, H.cell (b := b3) (i := 5) rfl, Rt.ok ⟨rfl, ?_⟩⟩⟩
    exact ((H.blk b3).drop.blk b11).drop
end
end Go.Proofs.YtabifopphhpciaaGreatDoor

namespace Go.Vc
def repl (y : Opn) (L : List (Int × Rp)) (m : Ms) : Rp :=
  if y.stg = .ask then { (llook L m.sv).getD Rp.no with top := ((llook L m.sv).getD Rp.no).top.max m.top } else (llook L m.sv).getD Rp.no
end Go.Vc
namespace Go.Proofs.YtabifopphhpciaaGreatDoor
open Go Go.Vc Go.Vc.Asn Go.Gf
abbrev haA (p o b14 b17 : Nat) (x : Cl) (y : Opn) (L : List (Int × Rp)) (m : Ms) (F : Asn) : Asn :=
  star (bk b17 Ty_api_Result #[.int .i64 0, .bool false, .int .i64 0, .int .i64 0, .int .i64 0, Slc.nil.v]) (star (bk b14 Ty_api_Message m.c.toArray) (star (cliA p x) (star (opnA o y) (star (phA y.ph (x.cfg, L)) F))))
def haB (o3 : Option Nat) (o4 : Option Unit) (r : Rp) (A : Asn) : Asn :=
  match o3, o4 with
  | none, _ => A
  | some b, none => star (bk b Ty_client_reply #[.int .i64 0, .int .i64 0, .bool false, Slc.nil.v]) A
  | some b, some _ => star (bk b Ty_client_reply #[.int .i64 r.top.n, .int .i64 r.top.c, .bool r.has, r.data.v]) A
section
variable {w0 w : World} {A F Cd : Asn} {p o g n k : Nat} {x : Cl} {y : Opn} {m : Ms} {sc : Slc} {rs : Rws} {t : Tg} {L : List (Int × Rp)}
theorem counts_sv (h : countsB x y m = true) : 0 ≤ m.sv ∧ m.sv < x.cfg.N := by
  unfold countsB badB at h
  simp only [Bool.and_eq_true, Bool.not_eq_true', Bool.or_eq_false_iff, decide_eq_false_iff_not] at h
  omega
theorem handle_c {Pm : Slc → Rs → Bool → Asn → Prop} (hc : x.cfg.Ok) (hnow : x.now = some o) (hcount : countsB x y m = true) (hr : y.stg ≠ .read)
    (met : (x.cfg.N + x.cfg.K + 1) / 2 ≤ ((lput L m.sv (repl y L m)).length : Int) → ∀ (w : World) (F : Asn), Hp w0 w (star (cliA p x) (star (opnA o y) (star (phA y.ph (x.cfg, lput L m.sv (repl y L m))) (star Cd F)))) →
      Calls PP F_client_Client_met #[.pointer (some (blk p))] w (Rt fun v w' => ∃ r R e A', v = .tuple #[Slc.v r, Rs.v R, .bool e] ∧ Pm r R e A' ∧ Hp w0 w' (star A' F)))
    (H : Hp w0 w (star (cliA p x) (star (opnA o y) (star (phA y.ph (x.cfg, L)) (star Cd F))))) :
    Calls PP F_client_Client_Handle #[.pointer (some (blk p)), .agg m.c.toArray] w (Rt fun v w' =>
      (((lput L m.sv (repl y L m)).length : Int) < (x.cfg.N + x.cfg.K + 1) / 2 ∧ v = .tuple #[Slc.v Slc.nil, Rs.no.v, .bool false] ∧ Hp w0 w' (star (cliA p x) (star (opnA o y) (star (phA y.ph (x.cfg, lput L m.sv (repl y L m))) (star Cd F))))) ∨
      ((x.cfg.N + x.cfg.K + 1) / 2 ≤ ((lput L m.sv (repl y L m)).length : Int) ∧ ∃ r R e A', v = .tuple #[Slc.v r, Rs.v R, .bool e] ∧ Pm r R e A' ∧ Hp w0 w' (star A' F))) := by
  refine sim_client_Client_Handle _ _ _ _ _ _ _ _ _ _ _ _ _ _ ?_
  unfold vc_client_Client_Handle
  refine H.new fun b14 w1 H => H.new fun b17 w2 H => ⟨fun b w' => b = false ∧ Hp w0 w' (haA p o b14 b17 x y L m (star Cd F)), ⟨fun _ => call (counts_c (m := m) hnow (((H.take (opnA o y)).take (cliA p x)))) ?_, fun h => by simp at h⟩, ?_⟩
  · rintro _ w3 ⟨rfl, f3⟩
    exact ⟨_, rfl, by rw [hcount]; rfl, H.fr0 f3⟩
  clear H
  rintro _ w3 ⟨rfl, H⟩
  obtain ⟨hs0, hs1⟩ := counts_sv hcount
  refine ⟨fun h => by simp at h, fun _ => ⟨_, rfl, _, rd_now (x := x) H hnow, _, rfl, ?_⟩⟩
  have H := H.drew 1
  generalize hR : (llook L m.sv).getD Rp.no = r
  have hrep : repl y L m = if y.stg = .ask then { r with top := r.top.max m.top } else r := by unfold repl; rw [hR]
  refine ⟨some (blk y.ph), m.sv, fun o1 o3 o4 w' => (o1 = none ∨ o1 = some (r.top.n, r.top.c, r.has, r.data, (llook L m.sv).isSome)) ∧ Hp w0 w' (haB o3 o4 r (haA p o b14 b17 x y L m (star Cd F))), ⟨.inl rfl, H⟩, ?_, ?_, ?_, ?_, ?_, ?_⟩
  · rintro (_ | b) w4 ⟨_, H⟩
    · have H : Hp w0 w4 (haA p o b14 b17 x y L m (star Cd F)) := H
      exact rd_ph (y := y) H
    · have H : Hp w0 w4 (star (bk b Ty_client_reply #[.int .i64 0, .int .i64 0, .bool false, Slc.nil.v]) (haA p o b14 b17 x y L m (star Cd F))) := H
      exact rd_ph (y := y) H
  · rintro (_ | b) w4 ⟨_, H⟩
    · have H : Hp w0 w4 (haA p o b14 b17 x y L m (star Cd F)) := H
      exact H.cell (b := b14) (i := 2) rfl
    · have H : Hp w0 w4 (star (bk b Ty_client_reply #[.int .i64 0, .int .i64 0, .bool false, Slc.nil.v]) (haA p o b14 b17 x y L m (star Cd F))) := H
      exact H.cell (b := b14) (i := 2) rfl
  · rintro (_ | b) w4 ⟨_, H⟩
    · have H' : Hp w0 w4 (haA p o b14 b17 x y L m (star Cd F)) := H
      refine call (pget_c (s := m.sv) (H'.take (phA y.ph (x.cfg, L)))) ?_
      rintro _ w5 ⟨rfl, f5⟩
      rw [hR]
      exact ⟨_, _, _, _, _, rfl, .inr rfl, H.fr0 f5⟩
    · have H' : Hp w0 w4 (star (bk b Ty_client_reply #[.int .i64 0, .int .i64 0, .bool false, Slc.nil.v]) (haA p o b14 b17 x y L m (star Cd F))) := H
      refine call (pget_c (s := m.sv) (H'.take (phA y.ph (x.cfg, L)))) ?_
      rintro _ w5 ⟨rfl, f5⟩
      rw [hR]
      exact ⟨_, _, _, _, _, rfl, .inr rfl, H.fr0 f5⟩
  · rintro o1 w4 ⟨h1, H⟩
    have H : Hp w0 w4 (haA p o b14 b17 x y L m (star Cd F)) := H
    exact H.new fun b w5 H => ⟨h1, H⟩
  · rintro C64 C65 h66 d67 G68 b w4 ⟨h1, H⟩
    have H : Hp w0 w4 (star (bk b Ty_client_reply #[.int .i64 0, .int .i64 0, .bool false, Slc.nil.v]) (haA p o b14 b17 x y L m (star Cd F))) := H
    obtain ⟨rfl, rfl, rfl, rfl, rfl⟩ : C64 = r.top.n ∧ C65 = r.top.c ∧ h66 = r.has ∧ d67 = r.data ∧ G68 = (llook L m.sv).isSome := by simpa using h1
    exact H.stoAll (b := b) (by rfl) fun w5 H => ⟨h1, H⟩
  · rintro C64 C65 h66 d67 G68 b w4 ⟨h1, H⟩
    have H : Hp w0 w4 (star (bk b Ty_client_reply #[.int .i64 r.top.n, .int .i64 r.top.c, .bool r.has, r.data.v]) (haA p o b14 b17 x y L m (star Cd F))) := H
    refine ⟨fun w' => Hp w0 w' (star (bk b Ty_client_reply #[.int .i64 (repl y L m).top.n, .int .i64 (repl y L m).top.c, .bool (repl y L m).has, (repl y L m).data.v]) (haA p o b14 b17 x y L m (star Cd F))), ⟨_, rd_stg (y := y) H, tasA ⟨_, rfl, fun hA => ?_, fun hA => tasR ⟨_, rfl, fun h => absurd (of_decide_eq_true h) hr, fun _ => ?_⟩⟩⟩, ?_⟩
    · have hA : y.stg = .ask := of_decide_eq_true hA
      refine ⟨_, H.cell2 (b := b) (i := 0) (j := 0) rfl, _, H.cell2 (b := b) (i := 0) (j := 1) rfl, _, H.cell2 (b := b14) (i := 7) (j := 0) rfl, _, H.cell2 (b := b14) (i := 7) (j := 1) rfl, ?_⟩
      refine H.newRow (e := Ty_api_Tag) (n := 2) (size := 2) (r.top.cells ++ m.top.cells) rfl rfl (by decide) fun b172 w5 H => ?_
      refine call (tmax_c (H.cel (s := ⟨some (blk b172), 2, 2⟩))) ?_
      rintro _ w6 ⟨rfl, f6⟩
      have H := (H.fr0 f6).drop
      refine ⟨_, _, rfl, StoN.two (H.sto2 (b := b) (i := 0) (j := 0) (by simp) fun w7 H => H.sto2 (b := b) (i := 0) (j := 1) (by simp) fun w8 H => ?_)⟩
      rw [hrep, if_pos hA]
      exact H
    · rw [hrep, if_neg (of_decide_eq_false hA)]
      exact H
    · intro w5 H
      have H := H.drew 1
      refine ⟨_, rd_ph (y := y) H, _, H.cell (b := b14) (i := 2) rfl, _, H.cell (b := b) (i := 0) rfl, _, H.cell (b := b) (i := 1) rfl, _, H.cell (b := b) (i := 2) rfl, _, H.cell (b := b) (i := 3) rfl, ?_⟩
      refine call (panswer_c (r := repl y L m) hs0 hs1 (H.take (phA y.ph (x.cfg, L)))) ?_
      rintro _ w6 ⟨rfl, H⟩
      refine ⟨_, _, rfl, _, rd_ph (y := y) H, call (pmet_c hc H) ?_⟩
      rintro _ w7 ⟨rfl, f7⟩
      have H := H.fr0 f7
      have H := (H.blk b).drop
      refine ⟨_, rfl, fun h => ?_, fun h => ?_⟩
      · have hq : ((lput L m.sv (repl y L m)).length : Int) < (x.cfg.N + x.cfg.K + 1) / 2 := by
          have h : decide ((x.cfg.N + x.cfg.K + 1) / 2 ≤ ((lput L m.sv (repl y L m)).length : Int)) = false := by simpa using h
          have := of_decide_eq_false h
          omega
        refine H.stoAll (b := b17) (by rfl) fun w8 H => ⟨_, H.cell (b := b17) (i := 0) rfl, _, H.cell (b := b17) (i := 1) rfl, _, H.cell (b := b17) (i := 2) rfl, _, H.cell (b := b17) (i := 3) rfl, _, H.cell (b := b17) (i := 4) rfl, _, H.cell (b := b17) (i := 5) rfl, Rt.ok (.inl ⟨hq, rfl, ?_⟩)⟩
        have H := ((H.blk b17).drop.blk b14).drop
        exact ((H.take (phA y.ph (x.cfg, lput L m.sv (repl y L m)))).take (opnA o y)).take (cliA p x)
      · have hq : (x.cfg.N + x.cfg.K + 1) / 2 ≤ ((lput L m.sv (repl y L m)).length : Int) := by
          have h : decide ((x.cfg.N + x.cfg.K + 1) / 2 ≤ ((lput L m.sv (repl y L m)).length : Int)) = true := by simpa using h
          exact of_decide_eq_true h
        have H := (H.blk b14).drop
        have H := (((H.take Cd).take (phA y.ph (x.cfg, lput L m.sv (repl y L m)))).take (opnA o y)).take (cliA p x)
        refine call (met hq _ _ H) ?_
        rintro _ w8 ⟨r2, R, e, A', rfl, hP, H⟩
        have H := H.blk b17
        refine ⟨_, _, _, _, _, _, _, _, rfl, H.stoAll (b := b17) (by rfl) fun w9 H => ⟨_, H.cell (b := b17) (i := 0) rfl, _, H.cell (b := b17) (i := 1) rfl, _, H.cell (b := b17) (i := 2) rfl, _, H.cell (b := b17) (i := 3) rfl, _, H.cell (b := b17) (i := 4) rfl, _, H.cell (b := b17) (i := 5) rfl, Rt.ok (.inr ⟨hq, r2, R, e, A', rfl, hP, H.drop⟩)⟩⟩
end
end Go.Proofs.YtabifopphhpciaaGreatDoor

namespace Go.Proofs.YtabifopphhpciaaGreatDoor
open Go Go.Vc Go.Vc.Asn Go.Gf
def codeA (q g : Nat) (s : Slc) (rs : Rws) (n k : Nat) : Asn := star (bk q Ty_code_Code #[.pointer (some (blk g)), .int .i64 (n : Int), .int .i64 (k : Int), s.v]) (star (rwsA s rs) (fieldA g))
section
variable {w0 w : World} {A F Cd : Asn} {p o q g n k : Nat} {x : Cl} {y : Opn} {m : Ms} {s sc : Slc} {rs : Rws} {t : Tg} {L : List (Int × Rp)} {bs : List UInt8}
theorem rdCode (hG : Gen n k (mt rs)) (hk : 1 ≤ k) (hkn : k ≤ n) (hn : n ≤ 255) (H : Hp w0 w (star (codeA q g s rs n k) F)) : RdCode w q g s rs n k := by
  have H := H.assoc
  have H2 := H.drop.assoc
  exact ⟨H.isBlk (b := q), (H2.drop).isBlk (b := g), rdR (H2.assoc), hG, hk, hkn, hn⟩
theorem codeNewA_c (hk : 1 ≤ k) (hkn : k ≤ n) (hn : n ≤ 255) :
    Calls PP F_code_New #[.int .i64 (n : Int), .int .i64 (k : Int)] w (Rt fun v w' => ∃ q g s rs, v = .tuple #[.pointer (some (blk q)), .int .i64 0] ∧ Gen n k (mt rs) ∧ Hp w w' (star (codeA q g s rs n k) emp)) := by
  refine sim_code_New _ _ _ _ ?_
  unfold vc_code_New
  refine ⟨fun h => ?_, fun _ => call std_c ?_⟩
  · simp at h; omega
  · rintro _ w1 ⟨g, rfl, H⟩
    refine ⟨_, rfl, call (generator_c (H.isBlk (b := g)) hk hkn hn) ?_⟩
    rintro _ w2 ⟨s, rs, rfl, hG, H2⟩
    have H3 := H.join H2
    refine ⟨s, rfl, H3.new fun q w3 H => Rt.ok ⟨q, g, s, rs, rfl, hG, ?_⟩⟩
    exact (H.assoc'.assoc').ent (Ent.star assoc (Ent.refl _))
theorem newA_c {c : Cfg} {id : Int} (hc : c.Ok) (hi : 1 ≤ id) (hi2 : id ≤ 65535) (hn : c.N = (n : Int)) (hk : c.K = (k : Int)) :
    Calls PP F_client_New #[c.v, .int .i64 id] w (Rt fun v w' => ∃ p q g sc rs, v = .tuple #[.pointer (some (blk p)), .int .i64 0] ∧ Gen n k (mt rs) ∧ Hp w w' (star (cliA p ⟨c, id, q, 0, [], none⟩) (star (codeA q g sc rs n k) emp))) := by
  obtain ⟨h1, h2, h3, h4, h5⟩ := hc
  refine sim_client_New _ _ _ _ _ _ ?_
  unfold vc_client_New
  refine (Hp.start w).new fun b w1 H => call (check_c ⟨h1, h2, h3, h4, h5⟩) ?_
  rintro _ w2 ⟨rfl, f2⟩
  have H := H.fr0 f2
  refine ⟨_, rfl, fun h => absurd h (by decide), fun _ => ⟨fun h => ?_, fun _ => ⟨_, H.cell (b := b) (i := 0) rfl, _, H.cell (b := b) (i := 1) rfl, ?_⟩⟩⟩
  · simp at h; omega
  rw [hn, hk]
  refine call (codeNewA_c (by omega) (by omega) (by omega)) ?_
  rintro _ w3 ⟨q, g, sc, rs, rfl, hG, J⟩
  have H := H.join J
  refine ⟨_, _, rfl, fun h => absurd h (by decide), fun _ => ⟨_, H.cell (b := b) (i := 0) rfl, _, H.cell (b := b) (i := 1) rfl, _, H.cell (b := b) (i := 2) rfl, H.newM sK iK fun gm w4 H => H.new fun p w5 H => Rt.ok ⟨p, q, g, sc, rs, rfl, hG, ?_⟩⟩⟩
  have H := (H.blk b).drop
  exact cl_close (g := gm) (H.blk p)
def modI (k n : Int) : Int := if k.tmod n < 0 then k.tmod n + n else k.tmod n
theorem modI_bounds {k n : Int} (hn : 0 < n) : 0 ≤ modI k n ∧ modI k n < n := by
  have h1 : n.tmod n = 0 := Int.tmod_self
  have h2 := Int.tmod_lt_of_pos k hn
  have h3 : -n < k.tmod n := by
    have := Int.lt_tmod_of_pos k hn
    omega
  unfold modI
  split <;> omega
theorem mod_c {k n : Int} (hn : 0 < n) (hn2 : n ≤ 1000) : Calls PP F_sherdlaw18_mod #[.int .i64 k, .int .i64 n] w (Rt fun v w' => v = .int .i64 (modI k n) ∧ w' = w) := by
  have hb := modI_bounds (k := k) hn
  refine sim_sherdlaw18_mod _ _ _ _ ?_
  unfold vc_sherdlaw18_mod
  refine ⟨by omega, fun r w' => r = modI k n ∧ w' = w, ⟨fun h => ⟨?_, rfl⟩, fun h => ⟨?_, rfl⟩⟩, fun r w' h => ?_⟩
  · have h := of_decide_eq_true h
    unfold modI at hb ⊢
    rw [if_pos h] at hb ⊢
    rw [wr64 (by omega) (by omega)]
  · have h := of_decide_eq_false h
    unfold modI
    rw [if_neg h]
  · obtain ⟨rfl, rfl⟩ := h
    exact Rt.ok ⟨rfl, rfl⟩
theorem value_c (hB : Byt w s bs) (hl : bs.length ≤ 1099511627776) : Calls PP F_sherdlaw18_value #[s.v] w (Rt fun v w' => ∃ o, v = Slc.v o ∧ Hp w w' (star (own Ty_uint8 1 o ((bs.take 300).map u8v)) emp)) := by
  refine sim_sherdlaw18_value _ _ _ ?_
  unfold vc_sherdlaw18_value
  have hsl := hB.len
  refine (Hp.start w).newRow (n := 0) (size := 1) [] rfl rfl (by unfold maxLen; omega) fun b w1 H => ?_
  have em : minI (s.l : Int) 300 = ((min bs.length 300 : Nat) : Int) := by
    unfold minI
    rw [hsl]
    split <;> omega
  have hc := hB.cap
  rw [em]
  refine ⟨by omega, by omega, by omega, ?_⟩
  have hcut : Byt w1 (s.cut 1 (Int.toNat 0) (Int.toNat ((min bs.length 300 : Nat) : Int))) (bs.take 300) := by
    have h2 := Cel.cut (hB.fr0 H.fr) (l := 0) (k := min bs.length 300) (Nat.zero_le _) (by omega)
    unfold Byt
    rw [List.map_take]
    rw [Nat.sub_zero, Nat.mul_one, Nat.zero_mul, List.drop_zero] at h2
    have e : (bs.map u8v).take (min bs.length 300) = (bs.map u8v).take 300 := by
      rw [Nat.min_comm, ← List.take_take, List.take_of_length_le (l := bs.map u8v) (by simp)]
    rw [e] at h2
    exact h2
  have hcl := hcut.len
  have htl : (bs.take 300).length ≤ 300 := by rw [List.length_take]; omega
  refine Hp.app (s := ⟨some (blk b), 0, 0⟩) slT_sl_uint8 H hcut (one_u8 _) (by unfold maxLen; simp only; omega) (by simp only; omega) fun o w2 H _ => Rt.ok ⟨o, rfl, ?_⟩
  exact H
end
end Go.Proofs.YtabifopphhpciaaGreatDoor

namespace Go.Proofs.YtabifopphhpciaaGreatDoor
open Go Go.Vc Go.Vc.Asn Go.Gf
section
variable {w0 w : World} {s P : Slc} {n : Nat} {ps is : List Int}
end
end Go.Proofs.YtabifopphhpciaaGreatDoor

namespace Go.Gf
theorem Gen.uniq {n k : Nat} {R R' : List (List UInt8)} (h : Gen n k R) (h' : Gen n k R') : R = R' := by
  obtain ⟨B, hB, he⟩ := h.by_
  obtain ⟨B', hB', he'⟩ := h'.by_
  have hb : ∀ j c, j < k → c < k → B j c = B' j c := fun j c hj hc => by
    have h1 := hB.1 (fun j => dot k (B' j) fun x => if x = c then 1 else 0) j hj
    have h2 : dot k (B j) (fun i => dot k (vm i) fun j => dot k (B' j) fun x => if x = c then 1 else 0) = dot k (B j) fun x => if x = c then 1 else 0 := dot_congr (fun _ _ => rfl) fun i hi => hB'.2 _ i hi
    rw [h2, dot_delta (B j) hc] at h1
    rw [h1]
    exact dot_delta (B' j) hc
  refine ent_ext h.shp h'.shp fun i c hi hc => ?_
  rw [he i c hi hc, he' i c hi hc]
  exact dot_congr (fun _ _ => rfl) fun j hj => hb j c hj hc
end Go.Gf
namespace Go.Vc
theorem Tg.valid_bounds {t : Tg} (h : t.valid = true) : 0 ≤ t.n ∧ t.n ≤ 4611686018427387903 ∧ 0 ≤ t.c ∧ t.c ≤ 65535 := by
  unfold Tg.valid Tg.proper at h
  simp only [Bool.or_eq_true, Bool.and_eq_true, decide_eq_true_eq] at h
  rcases h with h | h
  · rw [h]; decide
  · omega
theorem Tg.next_above (t : Tg) (used cl : Int) : (t.next used cl).cmp t = 1 := by
  have hn : (t.next used cl).n = if (if t.n ≤ used + 1 then used + 1 else t.n) = t.n ∧ cl ≤ t.c then (if t.n ≤ used + 1 then used + 1 else t.n) + 1 else (if t.n ≤ used + 1 then used + 1 else t.n) := rfl
  have hc : (t.next used cl).c = cl := rfl
  unfold Tg.cmp
  generalize hm : (if t.n ≤ used + 1 then used + 1 else t.n) = m at hn
  have hm2 : t.n ≤ m := by rw [← hm]; split <;> omega
  rcases cmpI_cases (t.next used cl).n t.n with ⟨h1, h2⟩ | ⟨h1, h2⟩ | ⟨h1, h2⟩
  · exfalso
    rw [hn] at h1
    split at h1 <;> omega
  · rw [h2]; rfl
  · rw [h2, if_neg (by decide), hc]
    rcases cmpI_cases cl t.c with ⟨k1, k2⟩ | ⟨k1, k2⟩ | ⟨k1, k2⟩
    · exfalso
      rw [hn] at h1
      split at h1 <;> rename_i hh
      · omega
      · exact hh ⟨h1, by omega⟩
    · exact k2
    · exfalso
      rw [hn] at h1
      split at h1 <;> rename_i hh
      · omega
      · exact hh ⟨h1, by omega⟩
end Go.Vc

namespace Go.Vc
open Go Go.Vc.Asn
theorem byt_loc {w w' : World} {d : Slc} {bs : List UInt8} (h : Byt w d bs) (hb : ∀ k ∈ d.blks, w'.heap[k]? = w.heap[k]?) : Byt w' d bs :=
  ⟨Cel.len h, Cel.cap h, fun i v hv => by
    obtain ⟨p, hp, hc⟩ := Cel.at_ h i v hv
    refine ⟨p, hp, (World.cell?_of_block (hb _ ?_)).trans hc⟩
    rw [block_add]
    unfold Slc.blks
    rw [hp]
    simp⟩
def Asn.rdp (d : Slc) (bs : List UInt8) : Asn where
  p w S := (∀ k, S k ↔ k ∈ d.blks) ∧ (∀ k ∈ d.blks, k < w.heap.size) ∧ Byt w d bs
  loc := by
    rintro w w' S ⟨h1, h2, h3⟩ h
    have hb : ∀ k ∈ d.blks, w'.heap[k]? = w.heap[k]? := fun k hk => h k ((h1 k).2 hk)
    refine ⟨h1, fun k hk => ?_, byt_loc h3 hb⟩
    have e := hb k hk
    rw [Array.getElem?_eq_getElem (h2 k hk)] at e
    exact (Array.getElem?_eq_some_iff.1 e).1
  lt := by
    rintro w S ⟨h1, h2, h3⟩ k hk
    exact h2 k ((h1 k).1 hk)
theorem Hp.rdp {w0 w : World} {F : Asn} {d : Slc} {bs : List UInt8} (H : Hp w0 w (star (Asn.rdp d bs) F)) : Byt w d bs := by
  obtain ⟨_, S, _, S1, S2, _, _, ⟨_, _, h⟩, _⟩ := H
  exact h
section
variable {P : Program} {w0 w : World} {A F : Asn} {t1 t2 e : Nat}
theorem Hp.cvB {t b n c : Nat} {bs : List UInt8} {K : World → Prop} (h2 : P.underlying t = some (.slice e)) (h3 : P.underlying e = some (.int .u8)) (hne : bs ≠ []) (H : Hp w0 w (star (Asn.own e 1 ⟨some (Vc.blk b), n, c⟩ (bs.map u8v)) F))
    (k : ∀ w', Hp w0 w' (star (Asn.rdp ⟨some (Vc.blk b), n, c⟩ bs) F) → K w') : CvB P t w (Slc.v ⟨some (Vc.blk b), n, c⟩) K := by
  have hO := H.isOwn (s := ⟨some (Vc.blk b), n, c⟩)
  obtain ⟨g, cur, ha, hB, h4, h5, h6, h7⟩ := hO.some_ (by simpa using hne)
  have hg : b = g := by injection ha with ha; injection ha
  subst hg
  have hB : w.heap[b]? = some (.cells cur e (0, 0)) := hB
  have hlt : b < w.heap.size := (Array.getElem?_eq_some_iff.1 hB).1
  have hsh : w.shape? b = some (e, cur.size) := by simp [World.shape?, hB]
  have hat : (w.freeze ⟨b, cur.size, none⟩ 1).heap[b]? = some (.cells cur e (cur.size, cur.size + 1)) := by
    simp [World.freeze, Array.getElem?_modify, hB]
  have hoth : ∀ k, k ≠ b → (w.freeze ⟨b, cur.size, none⟩ 1).heap[k]? = w.heap[k]? := fun k hk => by
    simp [World.freeze, Array.getElem?_modify, Ne.symm hk]
  refine ⟨w.freeze ⟨b, cur.size, none⟩ 1, ?_, k _ (H.step fun S _ hp => ⟨[b], S, fun x hx => (hp.1 x).2 (by simpa [Slc.blks] using hx), ⟨by simp [World.freeze], by simp [World.freeze], by simp [World.freeze], by simp [World.freeze], fun x _ hx => hoth x (by simpa using hx)⟩, ⟨hp.1, fun x hx => ?_, ?_, ?_, fun i v hv => ?_⟩, fun x hx => .inl hx⟩)⟩
  · simp only [Slc.v, Vc.blk, convert, Sem.run_bind, run_underlying h2, run_underlying h3, Result.andThen, beq_self_eq_true]
    simp [markStringish, hsh, Result.andThen]
  · simp [Slc.blks] at hx; subst hx; simpa [World.freeze] using hlt
  · exact hO.1
  · exact h4
  · refine ⟨_, rfl, ?_⟩
    rw [blk_add, cell_of_row _ b i cur e _ hat]
    have := congrArg (fun l => l[i]?) h7
    simp only [Nat.mul_one, List.getElem?_take, Array.getElem?_toList] at this
    have hi : i < n := by
      have h8 := (List.getElem?_eq_some_iff.1 hv).1
      have h9 := hO.1
      simp at h8 h9
      omega
    rw [if_pos hi] at this
    rw [this, hv]
end
end Go.Vc

namespace Go.Proofs.YtabifopphhpciaaGreatDoor
open Go Go.Vc Go.Vc.Asn Go.Gf
section
variable {w0 w : World} {A F Cd : Asn} {p o q g n k : Nat} {x : Cl} {y : Opn} {m : Ms} {s sc : Slc} {rs : Rws} {t : Tg} {L : List (Int × Rp)} {bs : List UInt8}
theorem rdMs {ms : List Ms} (H : Hp w0 w (star (msgsA s ms) F)) {i : Nat} (hi : i < ms.length) : s.l = ms.length ∧ ∃ a, s.a = some a ∧ ∀ j v, ms[i].c[j]? = some v → w.cell? ((a.add (i * 11)).add j) = some v := by
  have hc := H.assoc.cel (s := s)
  exact ⟨Cel.flen (enc := Ms.c) ms_len hc (by decide), Cel.elem (enc := Ms.c) ms_len hc (List.getElem?_eq_getElem hi) (by decide)⟩
theorem sortI_of {l : List Int} (h : List.Pairwise (fun x y => x ≤ y) l) : sortI l = l := List.mergeSort_of_pairwise (by simpa using h)
abbrev awC (q : Nat) : Cl := ⟨⟨3, 1, 0⟩, 7, q, 0, [], none⟩
theorem awake_c : Calls PP F_sherdlaw18_awake #[] w (Rt fun v w' => v = .bool true ∧ Fr [] w w') := by
  refine sim_sherdlaw18_awake _ _ ?_
  unfold vc_sherdlaw18_awake
  have hok : (⟨3, 1, 0⟩ : Cfg).Ok := ⟨by decide, by decide, by decide, by decide, by decide⟩
  refine call (newA_c (c := ⟨3, 1, 0⟩) (id := 7) (n := 3) (k := 1) hok (by decide) (by decide) rfl rfl) ?_
  rintro _ w1 ⟨p, q, g, sc, rs, rfl, hG, H⟩
  have hC : ∀ {w' : World} {A' : Asn}, Hp w w' (star (codeA q g sc rs 3 1) A') → RdCode w' q g sc rs 3 1 := fun H => rdCode hG (by decide) (by decide) (by decide) H
  refine ⟨_, _, rfl, fun h => by simp at h, fun _ => ?_⟩
  refine H.newRow (e := Ty_uint8) (n := 1) (size := 1) ([120].map u8v) rfl rfl (by decide) fun b w2 H => ?_
  refine Hp.cvB (e := Ty_uint8) slT_sl_uint8.ut und_uint8 (by simp) H fun w3 H => ?_
  refine call (put_c (x := awC q) (n := 3) (k := 1) (Vp := rdp ⟨some (blk b), 1, 1⟩ [120]) (bs := [120]) (key := ByteArray.mk #[107]) hC (fun H => H.rdp) hok rfl (by decide) rfl (Int.le_refl 0) (by show (0 : Int) < 4611686018427387903; decide) (by decide) (by decide) (by decide) (((H.take (codeA q g sc rs 3 1)).take (rdp ⟨some (blk b), 1, 1⟩ [120])).take (cliA p (awC q)))) ?_
  rintro _ w4 ⟨o, val, ph, r, ms, rfl, hms, H⟩
  have hml : ms.length = 3 := by have := congrArg List.length hms; simpa [allOf] using this
  obtain ⟨hrl, a, ha, hcs⟩ := rdMs H (i := 2) (by omega)
  have habs : ms[2].abs = ⟨1, 7, 2, 1, ByteArray.mk #[107], Tg.zero, Tg.zero, false, []⟩ := by
    have := congrArg (fun l => l[2]?) hms
    simp only [List.getElem?_map] at this
    rw [List.getElem?_eq_getElem (by omega)] at this
    injection this
  have hk : ms[2].k = 1 := congrArg Am.k habs
  have hsv : ms[2].sv = 2 := congrArg Am.sv habs
  refine ⟨_, _, _, rfl, false, fun _ => ⟨a, ha, by decide, by omega, ms[2].k, hcs 0 _ rfl, by rw [hk]; rfl⟩, fun h => ?_, false, fun _ => ⟨a, ha, by decide, by omega, ms[2].sv, hcs 2 _ rfl, by rw [hsv]; rfl⟩, fun h => by simp at h, fun h => by simp at h, fun _ => ?_⟩
  · rw [hrl, hml] at h
    exact absurd h (by show ¬((decide ((0 : Int) ≠ 0) || decide ((0 : Int) + 1 ≠ 1) || decide (((3 : Nat) : Int) ≠ 3)) = true); decide)
  -- the answers
  have H := H.drop
  generalize hx : ({ awC q with ops := (awC q).ops + 1, now := some o } : Cl) = x at H
  generalize hy : (⟨(awC q).ops + 1, true, ByteArray.mk #[107], val, [120], .ask, Tg.zero, ph⟩ : Opn) = y at H
  have e1 : x.cfg = ⟨3, 1, 0⟩ := by rw [← hx]
  have e2 : y.ph = ph := by rw [← hy]
  have e3 : y.stg = .ask := by rw [← hy]
  have e4 : x.now = some o := by rw [← hx]
  have e5 : x.cd = q := by rw [← hx]
  have hcount : ∀ (sv : Int) (t : Tg), 0 ≤ sv → sv < 3 → t.valid = true → countsB x y ⟨2, 7, sv, 1, ByteArray.mk #[107], Tg.zero, t, false, Slc.nil, []⟩ = true := fun sv t h0 h1 h2 => by
    unfold countsB badB goodB
    rw [e3, ← hx, ← hy]
    simp [h2]
    omega
  have hno : ∀ {L : List (Int × Rp)} {G : Asn} {w' : World} {sv : Int} {t : Tg}, 0 ≤ sv → sv < 3 → t.valid = true → (lput L sv (repl y L ⟨2, 7, sv, 1, ByteArray.mk #[107], Tg.zero, t, false, Slc.nil, []⟩)).length = 1 → Hp w w' (star (cliA p x) (star (opnA o y) (star (phA y.ph (x.cfg, L)) (star (codeA q g sc rs 3 1) G)))) →
      Calls PP F_client_Client_Handle #[.pointer (some (blk p)), .agg (Ms.c ⟨2, 7, sv, 1, ByteArray.mk #[107], Tg.zero, t, false, Slc.nil, []⟩).toArray] w' (Rt fun v w'' => v = .tuple #[Slc.v Slc.nil, Rs.no.v, .bool false] ∧ Hp w w'' (star (cliA p x) (star (opnA o y) (star (phA y.ph (x.cfg, lput L sv (repl y L ⟨2, 7, sv, 1, ByteArray.mk #[107], Tg.zero, t, false, Slc.nil, []⟩))) (star (codeA q g sc rs 3 1) G))))) := fun h0 h1 h2 h3 H => by
    refine Rt.mono (handle_c (Pm := fun _ _ _ _ => False) (by rw [e1]; exact hok) e4 (hcount _ _ h0 h1 h2) (by rw [e3]; decide) (fun h => ?_) H) ?_
    · rw [h3, e1] at h
      exact absurd h (by decide)
    · rintro v w'' (⟨_, h⟩ | ⟨_, _, _, _, _, _, h, _⟩)
      · exact h
      · exact h.elim
  have H : Hp w w4 (star (cliA p x) (star (opnA o y) (star (phA y.ph (x.cfg, [])) (star (codeA q g sc rs 3 1) (star (rdp ⟨some (blk b), 1, 1⟩ [120]) emp))))) := by rw [e1, e2]; exact H
  have e6 : y.bs = [120] := by rw [← hy]
  have e7 : y.put = true := by rw [← hy]
  have e8 : usedOf x y.key = 0 := by rw [← hx]; rfl
  have e9 : x.id = 7 := by rw [← hx]
  have rp : ∀ (L : List (Int × Rp)) (m : Ms) (u : Tg), ((llook L m.sv).getD Rp.no).top.max m.top = u → ((llook L m.sv).getD Rp.no).has = false → ((llook L m.sv).getD Rp.no).data = Slc.nil → repl y L m = ⟨u, false, Slc.nil⟩ := fun L m u h1 h2 h3 => by
    unfold repl
    rw [if_pos e3, h1]
    dsimp only
    rw [h2, h3]
  have r1 : repl y [] ⟨2, 7, 0, 1, ByteArray.mk #[107], Tg.zero, ⟨4, 9⟩, false, Slc.nil, []⟩ = ⟨⟨4, 9⟩, false, Slc.nil⟩ := rp _ _ _ rfl rfl rfl
  have r2 : repl y [(0, ⟨⟨4, 9⟩, false, Slc.nil⟩)] ⟨2, 7, 0, 1, ByteArray.mk #[107], Tg.zero, ⟨6, 1⟩, false, Slc.nil, []⟩ = ⟨⟨6, 1⟩, false, Slc.nil⟩ := rp _ _ _ rfl rfl rfl
  have r3 : repl y [(0, ⟨⟨6, 1⟩, false, Slc.nil⟩)] ⟨2, 7, 2, 1, ByteArray.mk #[107], Tg.zero, ⟨2, 2⟩, false, Slc.nil, []⟩ = ⟨⟨2, 2⟩, false, Slc.nil⟩ := rp _ _ _ rfl rfl rfl
  refine call (hno (sv := 0) (t := ⟨4, 9⟩) (by decide) (by decide) (by decide) rfl H) ?_
  rintro _ w5 ⟨rfl, H5⟩
  rw [r1] at H5
  have H5 : Hp w w5 (star (cliA p x) (star (opnA o y) (star (phA y.ph (x.cfg, [(0, ⟨⟨4, 9⟩, false, Slc.nil⟩)])) (star (codeA q g sc rs 3 1) (star (rdp ⟨some (blk b), 1, 1⟩ [120]) emp))))) := H5
  refine ⟨_, _, _, _, _, _, _, _, rfl, call (hno (sv := 0) (t := ⟨6, 1⟩) (by decide) (by decide) (by decide) rfl H5) ?_⟩
  rintro _ w6 ⟨rfl, H6⟩
  rw [r2] at H6
  have H6 : Hp w w6 (star (cliA p x) (star (opnA o y) (star (phA y.ph (x.cfg, [(0, ⟨⟨6, 1⟩, false, Slc.nil⟩)])) (star (codeA q g sc rs 3 1) (star (rdp ⟨some (blk b), 1, 1⟩ [120]) emp))))) := H6
  have hko : keysOf [(0, (⟨⟨6, 1⟩, false, Slc.nil⟩ : Rp)), (2, ⟨⟨2, 2⟩, false, Slc.nil⟩)] = [0, 2] := sortI_of (by simp)
  have htop : topOf [(0, (⟨⟨6, 1⟩, false, Slc.nil⟩ : Rp)), (2, ⟨⟨2, 2⟩, false, Slc.nil⟩)] 2 = ⟨6, 1⟩ := by
    unfold topOf
    rw [hko]
    rfl
  refine ⟨_, _, _, _, _, _, _, _, rfl, call (handle_c (m := ⟨2, 7, 2, 1, ByteArray.mk #[107], Tg.zero, ⟨2, 2⟩, false, Slc.nil, []⟩) (Pm := fun r R e A' => R = Rs.no ∧ e = false ∧ ∃ ph' ms, ms.map Ms.abs = (allOf 3).map (reqOf x.id { y with stg := .write, tag := ⟨6, 7⟩, ph := ph' } (partOf rs y.bs 1)) ∧ A' = msgsA r ms) (by rw [e1]; exact hok) e4 (hcount 2 ⟨2, 2⟩ (by decide) (by decide) (by decide)) (by rw [e3]; decide) (fun _ w' F H => ?_) H6) ?_⟩
  · rw [r3] at H
    have H : Hp w w' (star (cliA p x) (star (opnA o y) (star (phA y.ph (x.cfg, [(0, ⟨⟨6, 1⟩, false, Slc.nil⟩), (2, ⟨⟨2, 2⟩, false, Slc.nil⟩)])) (star (codeA q g sc rs 3 1) F)))) := H
    have hnx : Tg.next ⟨6, 1⟩ (usedOf x y.key) x.id = ⟨6, 7⟩ := by rw [e8, e9]; rfl
    refine Rt.mono (metAsk_c (n := 3) (t := ⟨6, 1⟩) (fun H => by rw [e5]; exact hC H) (by rw [e1]; exact hok) (by rw [e1]; rfl) (by decide) (by rw [e6]; decide) e4 e3 (by decide) htop e7 (by decide) (by rw [e8]; decide) (by rw [e8]; decide) (by rw [e9]; decide) (by rw [e9]; decide) (by rw [hnx]; decide) H) ?_
    rintro v w7 ⟨ph', r', ms', rfl, hms', H⟩
    rw [hnx] at hms' H
    exact ⟨r', Rs.no, false, _, rfl, ⟨rfl, rfl, ph', ms', hms', rfl⟩, H.swap.drop.swap.drop.swap.drop.swap.drop.swap.drop⟩
  · rintro v w7 (⟨h, _⟩ | ⟨_, r', R, e, A', rfl, ⟨rfl, rfl, ph', ms', hms', rfl⟩, H⟩)
    · rw [r3, e1] at h
      exact absurd h (by decide)
    have hml' : ms'.length = 3 := by have := congrArg List.length hms'; simpa [allOf] using this
    refine ⟨_, _, _, _, _, _, _, _, rfl, H.new fun b82 w8 H => H.stoAll (b := b82) (by rfl) fun w9 H => ?_⟩
    obtain ⟨hrl', a', ha', hcs'⟩ := rdMs (H.take (msgsA r' ms')) (i := 1) (by omega)
    have habs' : ms'[1].abs = reqOf x.id { y with stg := .write, tag := ⟨6, 7⟩, ph := ph' } (partOf rs y.bs 1) 1 := by
      have := congrArg (fun l => l[1]?) hms'
      simp only [List.getElem?_map] at this
      rw [List.getElem?_eq_getElem (by omega)] at this
      injection this
    have hk' : ms'[1].k = 3 := congrArg Am.k habs'
    have ht' : ms'[1].tag = ⟨6, 7⟩ := congrArg Am.tag habs'
    refine ⟨true, fun _ => ⟨a', ha', by decide, by omega, ms'[1].k, hcs' 0 _ rfl, by rw [hk']; rfl⟩, fun h => ?_, true, fun _ => ⟨a', ha', by decide, by omega, ms'[1].tag.n, by rw [add_add]; exact hcs' 5 _ rfl, ms'[1].tag.c, by rw [add_add]; exact hcs' 6 _ rfl, by rw [ht']; rfl⟩, fun h => by simp at h, Rt.ok ⟨rfl, H.fr⟩⟩
    rw [hrl', hml'] at h
    exact absurd h (by decide)
end
end Go.Proofs.YtabifopphhpciaaGreatDoor
