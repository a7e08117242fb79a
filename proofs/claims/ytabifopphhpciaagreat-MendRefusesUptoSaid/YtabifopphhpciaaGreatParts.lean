/-
  Parts (an index and bytes), read; contract of code.refused.
-/
import Derived.Test.YtabifopphhpciaaGreatCode
namespace Go.Vc
open Go Go.Vc.Asn
/-- A part: its index, where its bytes are, and these. -/
structure Pt where
  ix : Int
  sl : Slc
  bs : List UInt8
def Pt.enc (p : Pt) : List Value := [.int .i64 p.ix, p.sl.v]
theorem enc_len (ps : List Pt) : (ps.flatMap Pt.enc).length = ps.length * 2 := by
  induction ps with
  | nil => rfl
  | cons p r ih => rw [List.flatMap_cons, List.length_append, ih, List.length_cons]; show 2 + _ = _; omega
theorem enc_get : ∀ (ps : List Pt) (i : Nat) (h : i < ps.length), (ps.flatMap Pt.enc)[i * 2]? = some (.int .i64 ps[i].ix) ∧ (ps.flatMap Pt.enc)[i * 2 + 1]? = some ps[i].sl.v
  | [], _, h => by simp at h
  | p :: r, 0, _ => ⟨rfl, rfl⟩
  | p :: r, i + 1, h => by
    have ih := enc_get r i (by simpa using h)
    rw [List.flatMap_cons, show (i + 1) * 2 = i * 2 + 2 by omega]
    exact ih
theorem enc_drop : ∀ (ps : List Pt) (l : Nat), (ps.flatMap Pt.enc).drop (l * 2) = (ps.drop l).flatMap Pt.enc
  | ps, 0 => by simp
  | [], l + 1 => by simp
  | p :: r, l + 1 => by
    rw [List.flatMap_cons, show (l + 1) * 2 = l * 2 + 2 by omega]
    exact enc_drop r l
theorem enc_take : ∀ (ps : List Pt) (l : Nat), (ps.flatMap Pt.enc).take (l * 2) = (ps.take l).flatMap Pt.enc
  | ps, 0 => by simp
  | [], l + 1 => by simp
  | p :: r, l + 1 => by
    rw [List.flatMap_cons, show (l + 1) * 2 = l * 2 + 2 by omega, List.take_succ_cons, List.flatMap_cons, ← enc_take r l]
    rfl
/-- Parts that can be read. -/
structure RdP (w : World) (s : Slc) (ps : List Pt) : Prop where
  cel : Cel w s 2 (ps.flatMap Pt.enc)
  byt : ∀ p ∈ ps, Byt w p.sl p.bs
section
variable {w w' : World} {s : Slc} {ps : List Pt}
theorem RdP.fr0 (h : RdP w s ps) (f : Fr [] w w') : RdP w' s ps := ⟨h.cel.fr0 f, fun p hp => (h.byt p hp).fr0 f⟩
theorem RdP.len (h : RdP w s ps) : s.l = ps.length := by have := h.cel.len; rw [enc_len] at this; omega
theorem RdP.at_ (h : RdP w s ps) {i : Nat} (hi : i < ps.length) : Byt w ps[i].sl ps[i].bs := h.byt _ (List.getElem_mem hi)
theorem RdP.rd (h : RdP w s ps) {i : Nat} (hi : i < ps.length) {Q : Addr → Int → Slc → Prop} (k : ∀ a, s.a = some a → Q a ps[i].ix ps[i].sl) :
    ∃ a : Addr, s.a = some a ∧ (0 : Int) ≤ (i : Int) ∧ ((i : Nat) : Int) < s.l ∧ ∃ I : Int, w.cell? ((a.add (Int.toNat (i : Int) * 2)).add 0) = some (.int .i64 I) ∧ ∃ D : Slc, w.cell? ((a.add (Int.toNat (i : Int) * 2)).add 1) = some D.v ∧ Q a I D := by
  obtain ⟨e1, e2⟩ := enc_get ps i hi
  obtain ⟨a, ha, h1⟩ := h.cel.at_ _ _ e1
  obtain ⟨a', ha', h2⟩ := h.cel.at_ _ _ e2
  rw [ha] at ha'
  injection ha' with ha'
  subst ha'
  refine ⟨a, ha, by omega, by rw [h.len]; omega, _, ?_, _, ?_, k a ha⟩
  · rw [Int.toNat_natCast, add_add]; exact h1
  · rw [Int.toNat_natCast, add_add]; exact h2
theorem RdP.rdD (h : RdP w s ps) {i : Nat} (hi : i < ps.length) {Q : Addr → Slc → Prop} (k : ∀ a, s.a = some a → Q a ps[i].sl) :
    ∃ a : Addr, s.a = some a ∧ (0 : Int) ≤ (i : Int) ∧ ((i : Nat) : Int) < s.l ∧ ∃ D : Slc, w.cell? ((a.add (Int.toNat (i : Int) * 2)).add 1) = some D.v ∧ Q a D := by
  obtain ⟨a, ha, h1, h2, I, _, D, h4, h5⟩ := h.rd hi (Q := fun a I D => D = ps[i].sl) fun _ _ => rfl
  exact ⟨a, ha, h1, h2, D, h4, h5 ▸ k a ha⟩
theorem RdP.cut (h : RdP w s ps) {l m : Nat} (hl : l ≤ m) (hm : m ≤ ps.length) : RdP w (s.cut 2 l m) ((ps.drop l).take (m - l)) := by
  refine ⟨?_, fun p hp => h.byt p (List.mem_of_mem_drop (List.mem_of_mem_take hp))⟩
  have := h.cel.cut (l := l) (k := m) hl (by rw [h.len]; exact hm)
  rwa [enc_drop, enc_take] at this
end
end Go.Vc
namespace Go.Proofs.YtabifopphhpciaaGreat
open Go Go.Vc Go.Vc.Asn Go.Gf
def seenL (l : List Int) : List Value := (List.range 255).map fun i : Nat => .bool (l.contains (i : Int))
theorem seenL_len (l : List Int) : (seenL l).length = 255 := by unfold seenL; simp
theorem seenL_at (l : List Int) {i : Nat} (hi : i < 255) : (seenL l)[i]? = some (.bool (l.contains (i : Int))) := by
  unfold seenL; rw [List.getElem?_map, List.getElem?_range hi]; rfl
theorem seenL_set (l : List Int) {i : Nat} (hi : i < 255) : (seenL l).set i (.bool true) = seenL (l ++ [(i : Int)]) := by
  apply List.ext_getElem?
  intro j
  by_cases hj : j < 255
  · rw [seenL_at _ hj, List.getElem?_set]
    by_cases h : i = j
    · subst h
      rw [if_pos rfl, if_pos (by rw [seenL_len]; exact hi)]
      simp
    · rw [if_neg h, seenL_at _ hj]
      have : ¬ (j : Int) = (i : Int) := by omega
      simp [this]
  · rw [List.getElem?_eq_none (by rw [List.length_set, seenL_len]; omega), List.getElem?_eq_none (by rw [seenL_len]; omega)]
theorem sto_seen {w0 w : World} {F : Asn} {b : Nat} {t : TypeId} {cs : Array Value} {vs : List Value} {K : World → Prop} (H : Hp w0 w (star (bk b t cs) F)) (hv : vs = seenL []) (hs : cs.size = 255) (k : ∀ w', Hp w0 w' (star (bk b t (seenL []).toArray) F) → K w') : StoN (blk b) 0 vs w K := by
  subst hv
  exact H.stoAll (b := b) (by rw [seenL_len]; exact hs.symm) k
open Classical in
/-- Why parts are refused, or 0. -/
noncomputable def refusedV (n k : Nat) (ps : List Pt) : Int :=
  if ∃ p ∈ ps, p.ix < 0 ∨ (n : Int) ≤ p.ix then 22 else if ¬ (ps.map (·.ix)).Nodup then 21 else if ∃ p ∈ ps, p.bs.length ≠ (ps.headD ⟨0, Slc.nil, []⟩).bs.length then 23 else if ps.length < k then 20 else 0
section
variable {w0 w : World} {F : Asn} {s p : Slc} {rs : Rws} {g n k q : Nat} {ps : List Pt}
theorem indexP_c {fn : FuncId} {cap : Array Value} {f : Int → Slc → Bool} (hC : RdP w p ps) (hl : ps.length ≤ 1099511627776) (hb : bodyB PP fn = true)
    (hp : 0 < ps.length → ∀ w' (I : Int) (l : Slc), Fr [] w w' → Calls PP fn (#[.agg #[.int .i64 I, l.v]] ++ cap) w' (Rt fun v w'' => v = .bool (f I l) ∧ Fr [] w' w'')) :
    Calls PP F_slices_IndexFunc_api_Part_api_Part #[p.v, .func (.func fn) #[] cap] w (Rt fun v w' => ∃ i : Int, v = .int .i64 i ∧ decide (0 ≤ i) = ps.any (fun r => f r.ix r.sl) ∧ Fr [] w w') := by
  refine sim_slices_IndexFunc_api_Part_api_Part _ _ _ _ ?_
  unfold vc_slices_IndexFunc_api_Part_api_Part
  have hsl := hC.len
  refine ⟨fun i w' => ∃ j : Nat, i = (j : Int) ∧ j ≤ ps.length ∧ (∀ k (hk : k < ps.length), k < j → f ps[k].ix ps[k].sl = false) ∧ Fr [] w w', fun i _ => ps.length - i.toNat, ⟨0, rfl, Nat.zero_le _, fun k _ hk => by omega, Fr.refl _ _⟩, ?_⟩
  rintro _ w2 ⟨j, rfl, hj, hno, f2⟩
  refine ⟨fun h => ?_, fun h => ?_⟩
  · have hlt : j < ps.length := by simp only [decide_eq_true_eq] at h; omega
    refine (hC.fr0 f2).rd hlt fun a ha => ⟨fn, cap, rfl, hb, call (hp (by omega) w2 _ _ f2) ?_⟩
    rintro _ w3 ⟨rfl, f3⟩
    refine ⟨_, rfl, fun h => Rt.ok ⟨_, rfl, ?_, f2.then_ f3⟩, fun h => ?_⟩
    · rw [show decide (0 ≤ (j : Int)) = true by simp]
      symm
      exact List.any_eq_true.2 ⟨ps[j], List.getElem_mem hlt, h⟩
    · rw [ofW j (by omega)]
      refine ⟨⟨j + 1, rfl, by omega, fun k hk hkj => ?_, f2.then_ f3⟩, by dsimp only; omega⟩
      by_cases hkj2 : k = j
      · subst hkj2; exact h
      · exact hno k hk (by omega)
  · have hje : j = ps.length := by simp only [decide_eq_false_iff_not] at h; omega
    refine Rt.ok ⟨-1, rfl, ?_, f2⟩
    symm
    show ps.any _ = false
    rw [List.any_eq_false]
    intro r hr
    obtain ⟨k, hk, rfl⟩ := List.getElem_of_mem hr
    rw [hno k hk (by omega)]
    simp
theorem containsP_c {fn : FuncId} {cap : Array Value} {f : Int → Slc → Bool} (hC : RdP w p ps) (hl : ps.length ≤ 1099511627776) (hb : bodyB PP fn = true)
    (hp : 0 < ps.length → ∀ w' (I : Int) (l : Slc), Fr [] w w' → Calls PP fn (#[.agg #[.int .i64 I, l.v]] ++ cap) w' (Rt fun v w'' => v = .bool (f I l) ∧ Fr [] w' w'')) :
    Calls PP F_slices_ContainsFunc_api_Part_api_Part #[p.v, .func (.func fn) #[] cap] w (Rt fun v w' => v = .bool (ps.any fun r => f r.ix r.sl) ∧ Fr [] w w') := by
  refine sim_slices_ContainsFunc_api_Part_api_Part _ _ _ _ ?_
  unfold vc_slices_ContainsFunc_api_Part_api_Part
  refine call (indexP_c hC hl hb hp) ?_
  rintro _ w1 ⟨i, rfl, hi, f⟩
  exact ⟨i, rfl, Rt.ok ⟨by rw [hi], f⟩⟩
theorem nodup_snoc {l : List Int} {x : Int} : (l ++ [x]).Nodup ↔ l.Nodup ∧ ¬ l.contains x = true := by
  rw [List.nodup_append]
  simp
  intro _
  constructor
  · intro h hx; exact h x hx rfl
  · intro h a ha e; subst e; exact h ha
open Classical in
theorem refused_c (hC : RdCode w q g s rs n k) (hP : RdP w p ps) (hl : ps.length ≤ 1099511627776) :
    Calls PP F_code_Code_refused #[.pointer (some (blk q)), p.v] w (Rt fun v w' => v = .int .i64 (refusedV n k ps) ∧ Fr [] w w') := by
  refine sim_code_Code_refused _ _ _ _ ?_
  unfold vc_code_Code_refused
  have hpl := hP.len
  have hn := hC.hn
  refine (Hp.start w).new fun b4 w1 H => H.new fun b8 w2 H => ?_
  refine sto_seen H (by kernel_rfl) (by kernel_rfl) fun w3 H => ⟨p, H.cell (b := b4) (i := 0) rfl, ?_⟩
  refine ⟨fun t x w' => ∃ j : Nat, x = (j : Int) ∧ j ≤ ps.length ∧ (∀ r ∈ ps.take j, ¬ (r.ix < 0 ∨ (n : Int) ≤ r.ix)) ∧ t = decide (¬ ((ps.take j).map (·.ix)).Nodup) ∧ Hp w w' (star (bk b8 Ty_255_bool (seenL ((ps.take j).map (·.ix))).toArray) (star (bk b4 Ty_sl_api_Part #[p.v]) emp)), fun _ x _ => ps.length - x.toNat, ⟨0, rfl, Nat.zero_le _, fun r hr => by simp at hr, by simp, H⟩, ?_⟩
  rintro t _ w4 ⟨j, rfl, hj, hok, ht, H⟩
  refine ⟨fun h => ?_, fun h => ?_⟩
  · have hlt : j < ps.length := by simp only [decide_eq_true_eq] at h; omega
    refine (hP.fr0 H.fr).rd hlt fun a ha => H.new fun b35 w5 H => H.stoAll (b := b35) (by rfl) fun w6 H => ⟨_, H.cell (b := b35) (i := 0) rfl, decide (ps[j].ix < 0 ∨ (n : Int) ≤ ps[j].ix), fun h => ⟨_, H.cell (b := b35) (i := 0) rfl, _, rfl, (n : Int), (hC.fr0 H.fr).box.cell (i := 1) rfl, ?_⟩, fun h => ?_, fun k41 => ⟨fun h => Rt.ok ⟨?_, (H.drew k41).fr⟩, fun h => ?_⟩⟩
    · simp only [decide_eq_false_iff_not] at h
      simp [h]
    · simp only [decide_eq_true_eq] at h
      simp [h]
    · unfold refusedV
      rw [if_pos ⟨ps[j], List.getElem_mem hlt, by simpa using h⟩]
    · have hin : ¬ (ps[j].ix < 0 ∨ (n : Int) ≤ ps[j].ix) := by simpa using h
      obtain ⟨i, hi⟩ : ∃ i : Nat, ps[j].ix = (i : Int) := ⟨ps[j].ix.toNat, by omega⟩
      have hi2 : i < 255 := by omega
      have H := H.drew k41
      have et : (ps.take (j + 1)).map (·.ix) = (ps.take j).map (·.ix) ++ [(i : Int)] := by
        rw [List.take_add_one, List.getElem?_eq_getElem hlt, List.map_append]; simp [hi]
      have e8 : (w6.drewN k41).cell? ((blk b8).add (Int.toNat (i : Int) * 1)) = some (.bool (((ps.take j).map (·.ix)).contains (i : Int))) := by
        rw [Int.toNat_natCast, Nat.mul_one]
        exact H.cell (b := b8) (by rw [List.getElem?_toArray]; exact seenL_at _ hi2)
      refine ⟨t || ((ps.take j).map (·.ix)).contains (i : Int), fun h => ⟨_, H.cell (b := b35) (i := 0) rfl, by omega, by omega, _, by rw [hi]; exact e8, by rw [h, Bool.false_or]⟩, fun h => by rw [h, Bool.true_or], _, H.cell (b := b35) (i := 0) rfl, by omega, by omega, ?_⟩
      rw [hi, Int.toNat_natCast, Nat.mul_one]
      refine H.sto (b := b8) (i := i) (by rw [List.size_toArray, seenL_len]; exact hi2) fun w7 H => ?_
      rw [List.setIfInBounds_toArray, seenL_set _ hi2, ← et] at H
      rw [ofW j (by omega)]
      refine ⟨⟨j + 1, rfl, by omega, fun r hr => ?_, ?_, ?_⟩, by dsimp only; omega⟩
      · rw [List.take_add_one, List.getElem?_eq_getElem hlt] at hr
        rcases List.mem_append.1 hr with hr | hr
        · exact hok r hr
        · simp at hr; subst hr; exact hin
      · rw [et, ht]
        by_cases h1 : ((ps.take j).map (·.ix)).Nodup
        · by_cases h2 : ((ps.take j).map (·.ix)).contains (i : Int) = true
          · rw [h2, Bool.or_true]
            symm; rw [decide_eq_true_iff]; exact fun h3 => (nodup_snoc.1 h3).2 h2
          · rw [Bool.eq_false_iff.2 h2, Bool.or_false, decide_eq_false (fun h3 => h3 h1)]
            exact (decide_eq_false (fun h3 => h3 (nodup_snoc.2 ⟨h1, h2⟩))).symm
        · rw [decide_eq_true h1, Bool.true_or]
          symm; rw [decide_eq_true_iff]; exact fun h3 => h1 (nodup_snoc.1 h3).1
      · exact (H.blk b35).drop
  · have hje : j = ps.length := by simp only [decide_eq_false_iff_not] at h; omega
    subst hje
    rw [List.take_length] at hok ht
    have hno : ¬ ∃ p ∈ ps, p.ix < 0 ∨ (n : Int) ≤ p.ix := fun ⟨r, hr, h1⟩ => hok r hr h1
    refine ⟨fun h => Rt.ok ⟨?_, H.fr⟩, fun h => ⟨p, H.cell (b := b4) (i := 0) rfl, ?_⟩⟩
    · rw [h] at ht
      unfold refusedV
      rw [if_neg hno, if_pos (of_decide_eq_true ht.symm)]
    · rw [h] at ht
      have hnd := of_decide_eq_false ht.symm
      refine call (containsP_c (f := fun _ l => decide ((l.l : Int) ≠ ((ps.headD ⟨0, Slc.nil, []⟩).bs.length : Int))) (hP.fr0 H.fr) hl (by kernel_rfl) fun h0 w' I l f => ?_) ?_
      · refine sim_code_Code_refused_c1 _ _ _ _ _ ?_
        unfold vc_code_Code_refused_c1
        refine (Hp.start w').new fun b w6 H2 => ⟨p, ((H.fr0 f).fr0 H2.fr).cell (b := b4) (i := 0) rfl, (((hP.fr0 H.fr).fr0 f).fr0 H2.fr).rdD (i := 0) h0 fun a ha => fun k9 => Rt.ok ⟨?_, (H2.drew k9).fr⟩⟩
        have e0 : (ps.headD ⟨0, Slc.nil, []⟩) = ps[0] := by
          rw [List.headD_eq_head?_getD, List.head?_eq_getElem?, List.getElem?_eq_getElem h0]; rfl
        rw [e0, (hP.at_ h0).len]
      · rintro _ w5 ⟨rfl, f5⟩
        have H := H.fr0 f5
        have e1 : (ps.any fun r => decide ((r.sl.l : Int) ≠ ((ps.headD ⟨0, Slc.nil, []⟩).bs.length : Int))) = decide (∃ p ∈ ps, p.bs.length ≠ (ps.headD ⟨0, Slc.nil, []⟩).bs.length) := by
          rw [Bool.eq_iff_iff, List.any_eq_true, decide_eq_true_eq]
          constructor
          · rintro ⟨r, hr, h1⟩
            have := (hP.byt r hr).len
            exact ⟨r, hr, by simp only [decide_eq_true_eq] at h1; omega⟩
          · rintro ⟨r, hr, h1⟩
            have := (hP.byt r hr).len
            exact ⟨r, hr, by simp only [decide_eq_true_eq]; omega⟩
        refine ⟨_, rfl, fun h => Rt.ok ⟨?_, H.fr⟩, fun h => ⟨p, H.cell (b := b4) (i := 0) rfl, _, rfl, (k : Int), (hC.fr0 H.fr).box.cell (i := 2) rfl, fun k88 => ⟨fun h => Rt.ok ⟨?_, (H.drew k88).fr⟩, fun h => Rt.ok ⟨?_, (H.drew k88).fr⟩⟩⟩⟩
        · rw [e1] at h
          unfold refusedV
          rw [if_neg hno, if_neg hnd, if_pos (of_decide_eq_true h)]
        · rename_i h0
          rw [e1] at h0
          simp only [decide_eq_true_eq] at h
          unfold refusedV
          rw [if_neg hno, if_neg hnd, if_neg (of_decide_eq_false h0), if_pos (by omega)]
        · rename_i h0
          rw [e1] at h0
          simp only [decide_eq_false_iff_not] at h
          unfold refusedV
          rw [if_neg hno, if_neg hnd, if_neg (of_decide_eq_false h0), if_neg (by omega)]
end
end Go.Proofs.YtabifopphhpciaaGreat
