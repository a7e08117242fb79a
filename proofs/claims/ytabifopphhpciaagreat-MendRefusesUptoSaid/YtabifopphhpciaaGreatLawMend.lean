/-
  MendRefuses' contract.
-/
import Derived.Test.YtabifopphhpciaaGreatMendP
namespace Go.Vc
open Go Go.Vc.Asn
theorem all_app {α : Type} (f : α → Asn) : ∀ (a b : List α), Ent (all f (a ++ b)) (star (all f a) (all f b))
  | [], _ => emp_l
  | x :: r, b => (Ent.star (Ent.refl _) (all_app f r b)).trans Asn.assoc'
theorem addr0 (a : Addr) : a.add 0 = a := by unfold Addr.add; split <;> simp_all
theorem Hp.ahead {e size n : Nat} {w0 w : World} {F : Asn} {s : Slc} {cs : List Value} (H : Hp w0 w (star (Asn.own e size s cs) F)) (hn : n ≤ s.l) : Hp w0 w (star (Asn.own e size (s.cut size 0 n) (cs.take (n * size))) F) := by
  refine H.ent (Ent.star (fun w S h => ?_) (Ent.refl _))
  have ea : (s.cut size 0 n).a = s.a := by
    unfold Slc.cut
    rw [Nat.zero_mul]
    dsimp only
    split
    · rfl
    · cases hs : s.a with
      | none => rfl
      | some p => rw [Option.map_some, addr0]
  refine ⟨fun k => ?_, h.2.ahead ea rfl rfl (by show n - 0 ≤ s.l; omega)⟩
  rw [h.1 k]
  unfold Slc.blks
  rw [ea]
end Go.Vc
namespace Go.Proofs.YtabifopphhpciaaGreat
open Go Go.Vc Go.Vc.Asn Go.Gf
/-- k modulo n, from 0. -/
def modI (k n : Int) : Int := if k.tmod n < 0 then k.tmod n + n else k.tmod n
theorem modI_at {k n : Int} (hn : 0 < n) : 0 ≤ modI k n ∧ modI k n < n := by
  have h1 := Int.tmod_lt_of_pos k hn
  have h2 : -n < k.tmod n := by
    rcases Int.le_total 0 k with h | h
    · have := Int.tmod_nonneg n h; omega
    · have e : k = -(-k) := by omega
      rw [e, Int.neg_tmod]
      have := Int.tmod_lt_of_pos (-k) hn
      omega
  unfold modI
  split <;> omega
theorem mod_c {k n : Int} {w : World} (hn : 0 < n) (hm : n ≤ 4294967296) : Calls PP F_sherdlaw04_mod #[.int .i64 k, .int .i64 n] w (Rt fun v w' => v = .int .i64 (modI k n) ∧ w' = w) := by
  refine sim_sherdlaw04_mod _ _ _ _ ?_
  unfold vc_sherdlaw04_mod
  have h1 := modI_at (k := k) hn
  have h2 := Int.tmod_lt_of_pos k hn
  refine ⟨by omega, fun r w' => r = modI k n ∧ w' = w, ⟨fun h => ⟨?_, rfl⟩, fun h => ⟨?_, rfl⟩⟩, ?_⟩
  · have h : k.tmod n < 0 := by simpa using h
    have e : modI k n = k.tmod n + n := if_pos h
    rw [e] at h1 ⊢
    exact wr64 (by omega) (by omega)
  · have h : ¬ k.tmod n < 0 := by simpa using h
    exact (if_neg h).symm
  · rintro _ _ ⟨rfl, rfl⟩
    exact Rt.ok ⟨rfl, rfl⟩
theorem slT_sl_bool' : SlT PP Ty_sl_bool Ty_bool 1 1 (.bool false) := ⟨by kernel_rfl, by kernel_rfl, rfl, by decide⟩
def seenN (n : Nat) (l : List Int) : List Value := (List.range n).map fun i : Nat => .bool (l.contains (i : Int))
theorem seenN_len (n : Nat) (l : List Int) : (seenN n l).length = n := by unfold seenN; simp
theorem seenN_at {n : Nat} (l : List Int) {i : Nat} (hi : i < n) : (seenN n l)[i]? = some (.bool (l.contains (i : Int))) := by
  unfold seenN; rw [List.getElem?_map, List.getElem?_range hi]; rfl
theorem seenN_nil (n : Nat) : List.replicate n (Value.bool false) = seenN n [] := by
  unfold seenN
  apply List.ext_getElem?
  intro j
  rw [List.getElem?_map, List.getElem?_replicate]
  by_cases hj : j < n
  · rw [List.getElem?_range hj, if_pos hj]; rfl
  · rw [List.getElem?_eq_none (by simp; omega), if_neg hj]; rfl
theorem seenN_set {n : Nat} (l : List Int) {i : Nat} (hi : i < n) : (seenN n l).set i (.bool true) = seenN n (l ++ [(i : Int)]) := by
  apply List.ext_getElem?
  intro j
  by_cases hj : j < n
  · rw [seenN_at _ hj, List.getElem?_set]
    by_cases h : i = j
    · subst h
      rw [if_pos rfl, if_pos (by rw [seenN_len]; exact hi)]
      simp
    · rw [if_neg h, seenN_at _ hj]
      have : ¬ (j : Int) = (i : Int) := by omega
      simp [this]
  · rw [List.getElem?_eq_none (by rw [List.length_set, seenN_len]; omega), List.getElem?_eq_none (by rw [seenN_len]; omega)]
section
variable {w0 w : World} {F : Asn} {s p : Slc} {rs : Rws} {g n k q : Nat} {ps : List Pt}
theorem codeN'_c (hC : RdCode w q g s rs n k) : Calls PP F_code_Code_N #[.pointer (some (blk q))] w (Rt fun v w' => v = .int .i64 (n : Int) ∧ w' = w) := by
  refine sim_code_Code_N _ _ _ ?_
  unfold vc_code_Code_N
  exact ⟨fun h => by simp at h, fun _ => ⟨_, rfl, (n : Int), hC.box.cell (i := 1) rfl, Rt.ok ⟨rfl, rfl⟩⟩⟩
theorem codeK'_c (hC : RdCode w q g s rs n k) : Calls PP F_code_Code_K #[.pointer (some (blk q))] w (Rt fun v w' => v = .int .i64 (k : Int) ∧ w' = w) := by
  refine sim_code_Code_K _ _ _ ?_
  unfold vc_code_Code_K
  exact ⟨fun h => by simp at h, fun _ => ⟨_, rfl, (k : Int), hC.box.cell (i := 2) rfl, Rt.ok ⟨rfl, rfl⟩⟩⟩
open Classical in
theorem mrefused_c (hC : RdCode w q g s rs n k) (hP : RdP w p ps) (hl : ps.length ≤ 1099511627776) :
    Calls PP F_mend_refused #[.pointer (some (blk q)), p.v] w (Rt fun v w' => v = .int .i64 (refusedV n k ps) ∧ Fr [] w w') := by
  refine sim_mend_refused _ _ _ _ ?_
  unfold vc_mend_refused
  have hpl := hP.len
  have hn := hC.hn
  refine ⟨fun h => by simp at h, fun _ => ?_⟩
  refine ⟨fun i w' => ∃ j : Nat, i = (j : Int) ∧ j ≤ ps.length ∧ (∀ r ∈ ps.take j, ¬ (r.ix < 0 ∨ (n : Int) ≤ r.ix)) ∧ Fr [] w w', fun i _ => ps.length - i.toNat, ⟨0, rfl, Nat.zero_le _, fun r hr => by simp at hr, Fr.refl _ _⟩, ?_⟩
  rintro _ w1 ⟨j, rfl, hj, hok, f1⟩
  refine ⟨fun h => ?_, fun h => ?_⟩
  · have hlt : j < ps.length := by simp only [decide_eq_true_eq] at h; omega
    refine (hP.fr0 f1).rd hlt fun a ha => (Hp.start w1).new fun b w2 H => H.stoAll (b := b) (by rfl) fun w3 H => ?_
    have H := H.drew 1
    have hC' := (hC.fr0 f1).fr0 H.fr
    refine ⟨fun x w' => x = decide (ps[j].ix < 0 ∨ (n : Int) ≤ ps[j].ix) ∧ Fr [] w w', ⟨_, H.cell (b := b) (i := 0) rfl, fun h => ⟨?_, f1.then_ H.fr⟩, fun h => ⟨_, H.cell (b := b) (i := 0) rfl, call (codeN'_c hC') ?_⟩⟩, ?_⟩
    · have h : ps[j].ix < 0 := by simpa using h
      exact (decide_eq_true (.inl h)).symm
    · rintro _ _ ⟨rfl, rfl⟩
      have h : ¬ ps[j].ix < 0 := by simpa using h
      refine ⟨_, rfl, H.cell (b := b) (i := 0) rfl, ?_, f1.then_ H.fr⟩
      by_cases h2 : (n : Int) ≤ ps[j].ix
      · rw [decide_eq_true h2, decide_eq_true (.inr h2)]
      · rw [decide_eq_false h2, decide_eq_false (by omega)]
    · rintro _ w4 ⟨rfl, f4⟩
      refine ⟨fun h => Rt.ok ⟨?_, f4⟩, fun h => ⟨⟨j + 1, ofW j (by omega), hlt, fun r hr => ?_, f4⟩, by rw [ofW j (by omega)]; dsimp only; omega⟩⟩
      · unfold refusedV
        rw [if_pos ⟨ps[j], List.getElem_mem hlt, by simpa using h⟩]
      · rw [List.take_add_one, List.getElem?_eq_getElem hlt] at hr
        rcases List.mem_append.1 hr with hr | hr
        · exact hok r hr
        · simp at hr; subst hr; simpa using h
  have hje : j = ps.length := by simp only [decide_eq_false_iff_not] at h; omega
  subst hje
  rw [List.take_length] at hok
  clear hj h
  have hno : ¬ ∃ p ∈ ps, p.ix < 0 ∨ (n : Int) ≤ p.ix := fun ⟨r, hr, h1⟩ => hok r hr h1
  refine call (codeN'_c (hC.fr0 f1)) ?_
  rintro _ _ ⟨rfl, rfl⟩
  refine ⟨_, rfl, ?_⟩
  refine Hp.make slT_sl_bool' rfl (by omega) (by omega) ((Hp.start w).fr0 f1) fun b w2 H => ?_
  rw [seenN_nil] at H
  refine ⟨fun i w' => ∃ j : Nat, i = (j : Int) ∧ j ≤ ps.length ∧ ((ps.take j).map (·.ix)).Nodup ∧ Hp w w' (star (own Ty_bool 1 ⟨some (blk b), n, n⟩ (seenN n ((ps.take j).map (·.ix)))) emp), fun i _ => ps.length - i.toNat, ⟨0, rfl, Nat.zero_le _, by simp, H⟩, ?_⟩
  clear H
  rintro _ w3 ⟨j, rfl, hj, hnd, H⟩
  refine ⟨fun h => ?_, fun h => ?_⟩
  · have hlt : j < ps.length := by simp only [decide_eq_true_eq] at h; omega
    have hin := hok _ (List.getElem_mem hlt)
    obtain ⟨i, hi⟩ : ∃ i : Nat, ps[j].ix = (i : Int) := ⟨ps[j].ix.toNat, by omega⟩
    have hi2 : i < n := by omega
    have et : (ps.take (j + 1)).map (·.ix) = (ps.take j).map (·.ix) ++ [(i : Int)] := by
      rw [List.take_add_one, List.getElem?_eq_getElem hlt, List.map_append]; simp [hi]
    refine (hP.fr0 H.fr).rd hlt fun a ha => H.new fun b2 w4 H => H.stoAll (b := b2) (by rfl) fun w5 H => ?_
    have hc8 : w5.cell? ((blk b).add (Int.toNat (i : Int) * 1)) = some (.bool (((ps.take j).map (·.ix)).contains (i : Int))) := by
      rw [Int.toNat_natCast, Nat.mul_one]
      obtain ⟨p1, hp1, hc1⟩ := (H.cel (s := ⟨some (blk b), n, n⟩)).at_ i _ (seenN_at _ hi2)
      injection hp1 with hp1
      rw [← hp1] at hc1
      exact hc1
    refine ⟨_, H.cell (b := b2) (i := 0) rfl, blk b, rfl, by omega, by show ps[j].ix < (n : Int); omega, _, by rw [hi]; exact hc8, fun h => Rt.ok ⟨?_, H.fr⟩, fun h => ⟨_, H.cell (b := b2) (i := 0) rfl, blk b, rfl, by omega, by show ps[j].ix < (n : Int); omega, ?_⟩⟩
    · have hnn : ¬ (ps.map (·.ix)).Nodup := by
        intro h1
        have h2 : ((ps.take (j + 1)).map (·.ix)).Nodup := by
          rw [List.map_take]
          exact h1.sublist (List.take_sublist _ _)
        rw [et] at h2
        exact (nodup_snoc.1 h2).2 h
      unfold refusedV
      rw [if_neg hno, if_pos hnn]
    · rw [hi, Int.toNat_natCast, Nat.mul_one]
      refine H.stoS (s := ⟨some (blk b), n, n⟩) (i := i) (by rw [seenN_len]; exact hi2) rfl fun w6 H => ⟨⟨j + 1, ofW j (by omega), hlt, ?_, ?_⟩, by rw [ofW j (by omega)]; dsimp only; omega⟩
      · rw [et]; exact nodup_snoc.2 ⟨hnd, by rw [h]; simp⟩
      · rw [seenN_set _ hi2, ← et] at H
        have H := (H.blk b2).drop
        exact H
  have hje : j = ps.length := by simp only [decide_eq_false_iff_not] at h; omega
  subst hje
  rw [List.take_length] at hnd
  clear hj h
  refine ⟨fun i w' => ∃ j : Nat, i = (j : Int) ∧ j ≤ ps.length ∧ (∀ r ∈ ps.take j, r.bs.length = (ps.headD ⟨0, Slc.nil, []⟩).bs.length) ∧ Fr [] w w', fun i _ => ps.length - i.toNat, ⟨0, rfl, Nat.zero_le _, fun r hr => by simp at hr, H.fr⟩, ?_⟩
  rintro _ w4 ⟨j, rfl, hj, hsz, f4⟩
  refine ⟨fun h => ?_, fun h => ?_⟩
  · have hlt : j < ps.length := by simp only [decide_eq_true_eq] at h; omega
    refine (hP.fr0 f4).rd hlt fun a ha => (Hp.start w4).new fun b2 w5 H => H.stoAll (b := b2) (by rfl) fun w6 H => ?_
    have f6 := f4.then_ H.fr
    refine ⟨_, H.cell (b := b2) (i := 1) rfl, (hP.fr0 f6).rdD (i := 0) (by omega) fun a2 ha2 => fun k1 => ⟨fun h => Rt.ok ⟨?_, f6.drewN k1⟩, fun h => ⟨⟨j + 1, ofW j (by omega), hlt, fun r hr => ?_, f6.drewN k1⟩, by rw [ofW j (by omega)]; dsimp only; omega⟩⟩⟩
    all_goals
      have e0 : (ps.headD ⟨0, Slc.nil, []⟩) = ps[0] := by
        rw [List.headD_eq_head?_getD, List.head?_eq_getElem?, List.getElem?_eq_getElem (by omega)]; rfl
      have l0 := (hP.at_ (i := 0) (by omega)).len
      have lj := (hP.at_ hlt).len
    · have h : ¬ ps[j].sl.l = ps[0].sl.l := by intro h1; rw [h1] at h; simp at h
      unfold refusedV
      rw [if_neg hno, if_neg (fun h => h hnd), if_pos ⟨ps[j], List.getElem_mem hlt, by rw [e0]; omega⟩]
    · have h : ps[j].sl.l = ps[0].sl.l := by simp at h; omega
      rw [List.take_add_one, List.getElem?_eq_getElem hlt] at hr
      rcases List.mem_append.1 hr with hr | hr
      · exact hsz r hr
      · simp at hr; subst hr; rw [e0]; omega
  have hje : j = ps.length := by simp only [decide_eq_false_iff_not] at h; omega
  subst hje
  rw [List.take_length] at hsz
  have hns : ¬ ∃ p ∈ ps, p.bs.length ≠ (ps.headD ⟨0, Slc.nil, []⟩).bs.length := fun ⟨r, hr, h1⟩ => h1 (hsz r hr)
  refine call (codeK'_c (hC.fr0 f4)) ?_
  rintro _ _ ⟨rfl, rfl⟩
  refine ⟨_, rfl, fun h => Rt.ok ⟨?_, f4⟩, fun h => Rt.ok ⟨?_, f4⟩⟩
  · simp only [decide_eq_true_eq] at h
    unfold refusedV
    rw [if_neg hno, if_neg (fun h => h hnd), if_neg hns, if_pos (by omega)]
  · simp only [decide_eq_false_iff_not] at h
    unfold refusedV
    rw [if_neg hno, if_neg (fun h => h hnd), if_neg hns, if_neg (by omega)]
theorem mrefused0_c : Calls PP F_mend_refused #[.pointer none, p.v] w (Rt fun v w' => v = .int .i64 1 ∧ w' = w) := by
  refine sim_mend_refused _ _ _ _ ?_
  unfold vc_mend_refused
  exact ⟨fun _ => Rt.ok ⟨rfl, rfl⟩, fun h => by simp at h⟩
theorem mdecode_c (hC : RdCode w q g s rs n k) (hP : RdP w p ps) (hl : ps.length ≤ 1099511627776) (hr : refusedV n k ps ≠ 0) :
    Calls PP F_mend_Decode #[.pointer (some (blk q)), p.v] w (Rt fun v w' => v = .tuple #[Slc.nil.v, Slc.nil.v, .int .i64 (refusedV n k ps)] ∧ Fr [] w w') := by
  refine sim_mend_Decode _ _ _ _ ?_
  unfold vc_mend_Decode
  refine call (mrefused_c hC hP hl) ?_
  rintro _ w1 ⟨rfl, f⟩
  exact ⟨_, rfl, fun _ => Rt.ok ⟨rfl, f⟩, fun h => by simp [hr] at h⟩
theorem mdecode0_c : Calls PP F_mend_Decode #[.pointer none, p.v] w (Rt fun v w' => v = .tuple #[Slc.nil.v, Slc.nil.v, .int .i64 1] ∧ w' = w) := by
  refine sim_mend_Decode _ _ _ _ ?_
  unfold vc_mend_Decode
  refine call mrefused0_c ?_
  rintro _ w1 ⟨rfl, rfl⟩
  exact ⟨_, rfl, fun _ => Rt.ok ⟨rfl, rfl⟩, fun h => by simp at h⟩
theorem most0_c {m : Int} : Calls PP F_mend_Most #[.pointer none, .int .i64 m] w (Rt fun v w' => v = .int .i64 0 ∧ w' = w) := by
  refine sim_mend_Most _ _ _ _ ?_
  unfold vc_mend_Most
  refine ⟨fun x w' => x = true ∧ w' = w, ⟨fun h => by simp at h, fun _ => ⟨rfl, rfl⟩⟩, ?_⟩
  rintro _ w ⟨rfl, rfl⟩
  refine ⟨fun x w' => x = true ∧ w' = w, ⟨fun h => (by cases h), fun _ => ⟨rfl, rfl⟩⟩, ?_⟩
  rintro _ _ ⟨rfl, rfl⟩
  exact ⟨fun _ => Rt.ok ⟨rfl, rfl⟩, fun h => (by cases h)⟩
/-! ## The law -/
theorem rv22 (h : ∃ p ∈ ps, p.ix < 0 ∨ (n : Int) ≤ p.ix) : refusedV n k ps = 22 := by unfold refusedV; rw [if_pos h]
theorem rv21 (h : ¬ ∃ p ∈ ps, p.ix < 0 ∨ (n : Int) ≤ p.ix) (h2 : ¬ (ps.map (·.ix)).Nodup) : refusedV n k ps = 21 := by unfold refusedV; rw [if_neg h, if_pos h2]
theorem rv23 (h : ¬ ∃ p ∈ ps, p.ix < 0 ∨ (n : Int) ≤ p.ix) (h2 : (ps.map (·.ix)).Nodup) (h3 : ∃ p ∈ ps, p.bs.length ≠ (ps.headD ⟨0, Slc.nil, []⟩).bs.length) : refusedV n k ps = 23 := by unfold refusedV; rw [if_neg h, if_neg (fun h => h h2), if_pos h3]
theorem rv20 (h : ¬ ∃ p ∈ ps, p.ix < 0 ∨ (n : Int) ≤ p.ix) (h2 : (ps.map (·.ix)).Nodup) (h3 : ¬ ∃ p ∈ ps, p.bs.length ≠ (ps.headD ⟨0, Slc.nil, []⟩).bs.length) (h4 : ps.length < k) : refusedV n k ps = 20 := by unfold refusedV; rw [if_neg h, if_neg (fun h => h h2), if_neg h3, if_pos h4]
/-- Right parts. -/
structure RightP (n L : Nat) (ps : List Pt) : Prop where
  ix : ∀ p ∈ ps, 0 ≤ p.ix ∧ p.ix < n
  nd : (ps.map (·.ix)).Nodup
  bs : ∀ p ∈ ps, p.bs.length = L
theorem RightP.no {L : Nat} (h : RightP n L ps) : ¬ ∃ p ∈ ps, p.ix < 0 ∨ (n : Int) ≤ p.ix := fun ⟨p, hp, h1⟩ => by have := h.ix p hp; omega
theorem RightP.take {L : Nat} (h : RightP n L ps) (m : Nat) : RightP n L (ps.take m) :=
  ⟨fun p hp => h.ix p (List.mem_of_mem_take hp), by rw [List.map_take]; exact h.nd.sublist (List.take_sublist _ _), fun p hp => h.bs p (List.mem_of_mem_take hp)⟩
theorem RightP.same {L : Nat} (h : RightP n L ps) : ¬ ∃ p ∈ ps, p.bs.length ≠ (ps.headD ⟨0, Slc.nil, []⟩).bs.length := fun ⟨p, hp, h1⟩ => by
  cases ps with
  | nil => simp at hp
  | cons x r => exact h1 ((h.bs p hp).trans (h.bs x (by simp)).symm)
theorem RightP.perm {L : Nat} {ps' : List Pt} (h : RightP n L ps) (hp : ps'.Perm ps) : RightP n L ps' :=
  ⟨fun p hx => h.ix p (hp.mem_iff.1 hx), (hp.map _).nodup_iff.2 h.nd, fun p hx => h.bs p (hp.mem_iff.1 hx)⟩
theorem partsSwap {i j : Nat} {sl : Slc} (hi : i < ps.length) (hj : j < ps.length) (H : Hp w0 w (star (own Ty_api_Part 2 sl (((ps.set i ps[j]).set j ps[i]).flatMap Pt.enc)) (star (all rowP ps) F))) : Hp w0 w (star (own Ty_api_Part 2 sl (((ps.set i ps[j]).set j ps[i]).flatMap Pt.enc)) (star (all rowP ((ps.set i ps[j]).set j ps[i])) F)) :=
  H.ent (Ent.star (Ent.refl _) (Ent.star (all_perm (List.set_set_perm hi hj).symm) (Ent.refl _)))
theorem oneP (ps : List Pt) : ∀ v ∈ ps.flatMap Pt.enc, v.oneCell' = true := by
  intro v hv
  obtain ⟨p, _, hv⟩ := List.mem_flatMap.1 hv
  simp [Pt.enc] at hv
  rcases hv with rfl | rfl <;> rfl
set_option maxHeartbeats 1000000 in
theorem made_c {N K T : Int} {v o sp hw : Slc} {vb : List UInt8} {zs : List Int} (hV : Byt w v vb) (hvl : vb.length ≤ 16777216) (hO : Cel w o 1 (zs.map fun x => Value.int .i64 x)) (hzl : zs.length ≤ 1099511627776) :
    Calls PP F_sherdlaw04_made #[.agg #[.int .i64 N, .int .i64 K, v.v, o.v, .int .i64 T, sp.v, hw.v]] w (Rt fun x w' => ∃ q g s rs n k d sl ps L wm, x = .tuple #[.pointer (some (blk q)), Slc.v d, Slc.v sl, .bool true] ∧ RdCode wm q g s rs n k ∧ k ≤ ps.length ∧ ps.length ≤ n ∧ L ≤ 16777216 ∧ RightP n L ps ∧ Fr [] w wm ∧ Hp wm w' (star (partsA sl ps) emp)) := by
  refine sim_sherdlaw04_made _ _ _ _ _ _ _ _ _ ?_
  unfold vc_sherdlaw04_made
  refine (Hp.start w).new fun b9 w1 H => ?_
  refine call (mod_c (by omega) (by omega)) ?_
  rintro _ _ ⟨rfl, rfl⟩
  have hm1 := modI_at (k := N) (n := 255) (by omega)
  obtain ⟨a, ha⟩ : ∃ a : Nat, modI N 255 = (a : Int) := ⟨(modI N 255).toNat, by omega⟩
  rw [ha] at hm1 ⊢
  refine ⟨_, rfl, K, H.cell (b := b9) (i := 1) rfl, ?_⟩
  rw [ofW a (by omega)]
  refine call (mod_c (by omega) (by omega)) ?_
  rintro _ w1 ⟨rfl, rfl⟩
  have hm2 := modI_at (k := K) (n := ((a + 1 : Nat) : Int)) (by omega)
  obtain ⟨c, hc⟩ : ∃ c : Nat, modI K ((a + 1 : Nat) : Int) = (c : Int) := ⟨(modI K ((a + 1 : Nat) : Int)).toNat, by omega⟩
  rw [hc] at hm2 ⊢
  refine ⟨_, rfl, ?_⟩
  rw [ofW c (by omega)]
  obtain ⟨n, hn⟩ : ∃ n, n = a + 1 := ⟨_, rfl⟩
  obtain ⟨k, hk⟩ : ∃ k, k = c + 1 := ⟨_, rfl⟩
  rw [← hn] at hm2 ⊢
  rw [← hk]
  refine call (codeNew_c (by omega) (by omega) (by omega)) ?_
  rintro _ w2 ⟨q, g, s, rs, rfl, hC, f2⟩
  have H := H.fr0 f2
  have hB := H.isBlk (b := b9)
  have f02 := H.fr
  clear H
  have hV := hV.fr0 f02
  have hO := hO.fr0 f02
  have hgl := hC.gen.shp
  refine ⟨_, _, rfl, fun h => (by simp at h), fun _ => ⟨v, hB.cell (i := 2) rfl, by omega, ?_⟩⟩
  have hvl2 := hV.len
  obtain ⟨S, hS⟩ : ∃ S, S = vb.length / k := ⟨_, rfl⟩
  have hSk : S * k ≤ vb.length := by rw [hS]; exact Nat.div_mul_le_self _ _
  have hSl : S ≤ vb.length := by rw [hS]; exact Nat.div_le_self _ _
  have eS : wr .i64 ((v.l : Int).tdiv (k : Int)) = (S : Int) := by
    rw [hvl2, ← Int.ofNat_tdiv, ← hS, wr64 (by omega) (by omega)]
  rw [eS]
  refine ⟨fun d i w' => ∃ (j : Nat) (ds : Rws), i = (j : Int) ∧ j ≤ k ∧ ds.length = j ∧ (∀ r ∈ ds, r.2.length = S) ∧ Hp w2 w' (star (own Ty_sl_uint8 1 d (ds.map fun r => r.1.v)) (star (all rwA ds) emp)), fun _ i _ => k - i.toNat, ⟨0, [], rfl, Nat.zero_le _, rfl, fun r hr => by simp at hr, ((Hp.start w2).ent Asn.emp_l).nilRow Ty_sl_uint8 1⟩, ?_⟩
  rintro d _ w3 ⟨j, ds, rfl, hj, hdl, hdr, H⟩
  have hdsl := (H.cel (s := d)).lenM
  refine ⟨fun h => ?_, fun h => ?_⟩
  · have hlt : j < k := by simp at h; omega
    have hmul : j * S + S ≤ vb.length := by
      have h1 : (j + 1) * S ≤ k * S := Nat.mul_le_mul_right _ hlt
      have h2 : k * S = S * k := Nat.mul_comm _ _
      have h3 : (j + 1) * S = j * S + S := Nat.succ_mul _ _
      omega
    refine H.newRow (n := 0) (size := 1) [] rfl rfl (by decide) fun b w4 H => ?_
    have e1 : wr .i64 ((j : Int) * (S : Int)) = ((j * S : Nat) : Int) := by rw [← Int.natCast_mul, wr64 (by omega) (by omega)]
    have e2 : wr .i64 (((j * S : Nat) : Int) + (S : Int)) = ((j * S + S : Nat) : Int) := by rw [← Int.natCast_add, wr64 (by omega) (by omega)]
    have hcap := hV.cap
    refine ⟨v, (hB.fr H.fr (by simp)).cell (i := 2) rfl, ?_⟩
    rw [e1, e2]
    refine ⟨by omega, by omega, by omega, ?_⟩
    rw [Int.toNat_natCast, Int.toNat_natCast]
    have hcut : Byt w4 (v.cut 1 (j * S) (j * S + S)) ((vb.drop (j * S)).take S) := by
      have := Cel.cut (hV.fr0 H.fr) (l := j * S) (k := j * S + S) (by omega) (by omega)
      rw [Nat.mul_one, ← List.map_drop, ← List.map_take, Nat.mul_one, Nat.add_sub_cancel_left] at this
      exact this
    have hcl : (v.cut 1 (j * S) (j * S + S)).l = S := by show j * S + S - j * S = S; omega
    refine Hp.app slT_sl_uint8 (H.own ⟨some (blk b), 0, 0⟩) hcut (one_u8 _) (by rw [hcl]; unfold maxLen; simp only; omega) (by rw [hcl]; simp only; omega) fun s1 w5 H _ => ?_
    rw [List.nil_append] at H
    refine Hp.app1 (s := d) slT_sl_sl_uint8 (H.own d) rfl (by unfold maxLen; omega) (by omega) fun d2 w6 H _ => ⟨⟨j + 1, ds ++ [(s1, (vb.drop (j * S)).take S)], ofW j (by omega), hlt, by simp [hdl], fun r hr => ?_, ?_⟩, by rw [ofW j (by omega)]; dsimp only; omega⟩
    · rcases List.mem_append.1 hr with hr | hr
      · exact hdr r hr
      · simp at hr; subst hr; simp; omega
    · rw [List.map_append]
      have H := (H.take (all rwA ds)).own s1
      have H : Hp w2 w6 (star (rwA (s1, (vb.drop (j * S)).take S)) (star (all rwA ds) _)) := H
      have H := H.assoc'.ent (Ent.star (all_snoc rwA _ ds) (Ent.refl _))
      exact H.own d2
  have hje : j = k := by simp at h; omega
  subst hje
  clear hj h
  have hSh : Shp (mt ds) j S := ⟨by rw [mt_len]; exact hdl, fun r hr => by obtain ⟨x, hx, rfl⟩ := List.mem_map.1 hr; exact hdr x hx⟩
  have hRd : RdR w3 d ds := rdR H
  refine call (encode_c (l := S) (hC.fr0 H.fr) hRd hSh (by omega)) ?_
  rintro _ w4 ⟨E, os, rfl, hos, H4⟩
  have H := H.join H4
  have hol : os.length = n := by have := congrArg List.length hos; rw [mt_len, List.length_map, hgl.len] at this; exact this
  have hor : ∀ i (hi : i < os.length), os[i].2.length = S := fun i hi => by
    have h1 : (mt os)[i]'(by rw [mt_len]; exact hi) = ((mt rs).map (fun fs => lin fs (mt ds) S))[i]'(by rw [List.length_map, hgl.len]; omega) := by simp only [hos]
    rw [mt_at hi, List.getElem_map] at h1
    rw [h1, lin_len]
  have hE : Hp w2 w4 (star (own Ty_sl_uint8 1 E (os.map fun r => r.1.v)) (star (all rwA os) (star (own Ty_sl_uint8 1 d (ds.map fun r => r.1.v)) (star (all rwA ds) emp)))) := H.assoc
  have hOs : RdR w4 E os := rdR hE
  have hEl := hOs.cel.lenM
  have f24 := H.fr
  clear H hE
  refine ⟨_, _, rfl, fun h => ?_, fun _ => ?_⟩
  · simp at h; omega
  refine ⟨fun p i w' => ∃ (m : Nat) (ps : List Pt), i = (m : Int) ∧ m ≤ n ∧ ps.length = m ∧ (∀ x (hx : x < ps.length), ps[x].ix = (x : Int)) ∧ (∀ r ∈ ps, r.bs.length = S) ∧ Hp w4 w' (star (own Ty_api_Part 2 p (ps.flatMap Pt.enc)) (star (all rowP ps) emp)), fun _ i _ => n - i.toNat, ⟨0, [], rfl, Nat.zero_le _, rfl, fun x hx => by simp at hx, fun r hr => by simp at hr, ((Hp.start w4).ent Asn.emp_l).nilRow Ty_api_Part 2⟩, ?_⟩
  rintro p _ w5 ⟨m, ps, rfl, hm, hpl, hpx, hpb, H⟩
  have hpsl := (H.cel (s := p)).len
  rw [enc_len] at hpsl
  refine ⟨fun h => ?_, fun h => ?_⟩
  · have hlt : m < os.length := by simp at h; omega
    refine H.newRow (n := 0) (size := 1) [] rfl rfl (by decide) fun b w6 H => ?_
    refine (hOs.fr0 H.fr).cel.rdS hlt fun a2 ha2 => ?_
    have hrow := (hOs.fr0 H.fr).at_ hlt
    have hrl := hrow.len
    have hor' := hor m hlt
    refine Hp.app slT_sl_uint8 (H.own ⟨some (blk b), 0, 0⟩) hrow (one_u8 _) (by unfold maxLen; simp only; omega) (by simp only; omega) fun s1 w7 H _ => ?_
    rw [List.nil_append] at H
    refine H.newRow (n := 1) (size := 2) [.int .i64 (m : Int), s1.v] rfl rfl (by decide) fun b2 w8 H => ?_
    have hy := H.cel (s := ⟨some (blk b2), 1, 1⟩)
    refine Hp.app slT_sl_api_Part (H.own p) hy (by intro v hv; simp at hv; rcases hv with rfl | rfl <;> rfl) (by unfold maxLen; simp only; omega) (by simp only; omega) fun p2 w9 H _ => ⟨⟨m + 1, ps ++ [⟨(m : Int), s1, os[m].2⟩], ofW m (by omega), by omega, by simp [hpl], fun x hx => ?_, fun r hr => ?_, ?_⟩, by rw [ofW m (by omega)]; dsimp only; omega⟩
    · rw [List.getElem_append]
      split
      · rename_i hx'; exact hpx x hx'
      · rename_i hx'
        have : x = m := by simp at hx; omega
        simp [this]
    · rcases List.mem_append.1 hr with hr | hr
      · exact hpb r hr
      · simp at hr; subst hr; exact hor'
    · rw [List.flatMap_append]
      have H := (H.own ⟨some (blk b2), 1, 1⟩).drop
      have H := (H.take (all rowP ps)).own s1
      have H : Hp w4 w9 (star (rowP ⟨(m : Int), s1, os[m].2⟩) (star (all rowP ps) _)) := H
      have H := H.assoc'.ent (Ent.star (all_snoc rowP _ ps) (Ent.refl _))
      exact H.own p2
  have hme : m = n := by simp at h; omega
  subst hme
  have hR0 : RightP m S ps := by
    refine ⟨fun r hr => ?_, ?_, hpb⟩
    · obtain ⟨x, hx, rfl⟩ := List.getElem_of_mem hr
      rw [hpx x hx]; omega
    · have : ps.map (·.ix) = (List.range ps.length).map (fun i : Nat => (i : Int)) := by
        apply List.ext_getElem (by simp)
        intro x h1 h2
        simp only [List.getElem_map, List.getElem_range]
        exact hpx x (by simpa using h1)
      rw [this]
      exact List.Pairwise.map _ (fun a b (h : a ≠ b) => by omega) List.nodup_range
  clear hpx hpb hm h
  refine ⟨fun i w' => ∃ (x : Nat) (qs : List Pt), i = (x : Int) ∧ x ≤ m ∧ qs.length = m ∧ RightP m S qs ∧ Hp w4 w' (star (own Ty_api_Part 2 p (qs.flatMap Pt.enc)) (star (all rowP qs) emp)), fun i _ => m - i.toNat, ⟨0, ps, rfl, Nat.zero_le _, hpl, hR0, H⟩, ?_⟩
  clear H hR0 hpl
  rintro _ w6 ⟨x, qs, rfl, hx, hql, hR, H⟩
  have hB4 := hB.fr f24 (by simp)
  have hO4 := hO.fr0 f24
  have hOl := hO.len
  rw [List.length_map] at hOl
  refine ⟨decide (x < m ∧ x < zs.length), fun h => ⟨o, (hB4.fr H.fr (by simp)).cell (i := 3) rfl, ?_⟩, fun h => ?_, fun h => ?_, fun h => ?_⟩
  · have h : x < m := by simp at h; omega
    by_cases h2 : x < zs.length
    · rw [decide_eq_true ⟨h, h2⟩, decide_eq_true (by omega)]
    · rw [decide_eq_false (fun h => h2 h.2), decide_eq_false (by omega)]
  · have h : ¬ x < m := by simp at h; omega
    exact decide_eq_false (fun h2 => h h2.1)
  · obtain ⟨h1, h2⟩ : x < m ∧ x < zs.length := by simpa using h
    have hz := hO4.fr0 H.fr
    obtain ⟨ao, hao, hco⟩ := hz.at_ x (.int .i64 zs[x]) (by rw [List.getElem?_map, List.getElem?_eq_getElem h2]; rfl)
    refine ⟨o, (hB4.fr H.fr (by simp)).cell (i := 3) rfl, ao, hao, by omega, by omega, zs[x], by rw [Int.toNat_natCast, Nat.mul_one]; exact hco, ?_⟩
    refine call (mod_c (by omega) (by omega)) ?_
    rintro _ _ ⟨rfl, rfl⟩
    have hmy := modI_at (k := zs[x]) (n := (m : Int)) (by omega)
    obtain ⟨y, hy⟩ : ∃ y : Nat, modI zs[x] (m : Int) = (y : Int) := ⟨(modI zs[x] (m : Int)).toNat, by omega⟩
    rw [hy] at hmy ⊢
    have hxq : x < qs.length := by omega
    have hyq : y < qs.length := by omega
    have hpl2 := (H.cel (s := p)).len
    rw [enc_len] at hpl2
    refine ⟨_, rfl, ?_⟩
    refine (rdPA (s := p) (ps := qs) H.assoc').rd hxq fun ap hap => ?_
    refine H.new fun b w7 H => H.stoAll (b := b) (by rfl) fun w8 H => ?_
    refine (rdPA (s := p) (ps := qs) (((H.take (all rowP qs)).own p).assoc')).rd hyq fun ap2 hap2 => ⟨ap, hap, by omega, by omega, ?_⟩
    refine Hp.stoP (e := Ty_api_Part) (s := p) (ps := qs) (q := qs[y]) (H.own p) hxq hap fun w9 H => ?_
    refine ⟨_, H.cell (b := b) (i := 0) rfl, _, H.cell (b := b) (i := 1) rfl, ap, hap, by omega, by omega, ?_⟩
    refine Hp.stoP (e := Ty_api_Part) (s := p) (ps := qs.set x qs[y]) (q := qs[x]) (H.own p) (by rw [List.length_set]; omega) hap fun w10 H => ⟨⟨x + 1, (qs.set x qs[y]).set y qs[x], ofW x (by omega), by omega, by simp [hql], hR.perm (List.set_set_perm hxq hyq), ?_⟩, by rw [ofW x (by omega)]; dsimp only; omega⟩
    have H := (H.blk b).drop
    exact partsSwap hxq hyq ((H.take (all rowP qs)).own p)
  · have H := H.drew 1
    refine ⟨T, (hB4.fr H.fr (by simp)).cell (i := 4) rfl, ?_⟩
    have e0 : wr .i64 ((m : Int) - (j : Int)) = ((m - j : Nat) : Int) := by rw [wr64 (by omega) (by omega)]; omega
    have e1 : wr .i64 ((wr .i64 ((m : Int) - (j : Int))) + 1) = ((m - j + 1 : Nat) : Int) := by rw [e0, ofW (m - j) (by omega)]
    rw [e1]
    refine call (mod_c (by omega) (by omega)) ?_
    rintro _ _ ⟨rfl, rfl⟩
    have hmt := modI_at (k := T) (n := ((m - j + 1 : Nat) : Int)) (by omega)
    obtain ⟨t, ht⟩ : ∃ t : Nat, modI T ((m - j + 1 : Nat) : Int) = (t : Int) := ⟨(modI T ((m - j + 1 : Nat) : Int)).toNat, by omega⟩
    rw [ht] at hmt ⊢
    have e2 : wr .i64 ((j : Int) + (t : Int)) = ((j + t : Nat) : Int) := by rw [wr64 (by omega) (by omega)]; omega
    have hql2 := (H.cel (s := p)).len
    rw [enc_len] at hql2
    have hcap := (H.cel (s := p)).cap
    refine ⟨_, rfl, ?_⟩
    rw [e2]
    refine ⟨by omega, by omega, by omega, ?_⟩
    rw [Int.toNat_natCast]
    have H := H.ahead (n := j + t) (by omega)
    rw [enc_take] at H
    have hq : qs = qs.take (j + t) ++ qs.drop (j + t) := (List.take_append_drop _ _).symm
    have H := H.take (all rowP qs)
    rw [hq] at H
    have H := (H.ent (Ent.star (all_app rowP _ _) (Ent.refl _))).assoc
    rw [← hq] at H
    have H := H.swap.drop.swap
    exact Rt.ok ⟨q, g, s, rs, m, j, d, _, qs.take (j + t), S, w4, rfl, hC.fr0 f24, by rw [List.length_take]; omega, by rw [List.length_take]; omega, by omega, hR.take _, f02.then_ f24, H.assoc'⟩
set_option maxHeartbeats 1000000 in
theorem mendRefuses_c {N K T way at_ : Int} {v o sp hw : Slc} {vb : List UInt8} {zs : List Int} (hV : Byt w v vb) (hvl : vb.length ≤ 16777216) (hO : Cel w o 1 (zs.map fun x => Value.int .i64 x)) (hzl : zs.length ≤ 1099511627776) :
    Calls PP F_sherdlaw04_MendRefuses #[.agg #[.int .i64 N, .int .i64 K, v.v, o.v, .int .i64 T, sp.v, hw.v], .int .i64 way, .int .i64 at_] w (Rt fun x w' => x = .bool true ∧ Fr [] w w') := by
  refine sim_sherdlaw04_MendRefuses _ _ _ _ _ _ _ _ _ _ _ ?_
  unfold vc_sherdlaw04_MendRefuses
  refine (Hp.start w).new fun b9 w1 H0 => ?_
  refine call (made_c (hV.fr0 H0.fr) hvl (hO.fr0 H0.fr) hzl) ?_
  rintro _ w2 ⟨q, g, s, rs, n, k, d, sl, ps, L, wm, rfl, hC, hk, hn, hL, hR, fm, H⟩
  have fm := H0.fr.then_ fm
  have hk1 := hC.hk
  have hn255 := hC.hn
  have hP := rdPA H
  have hsl := hP.len
  refine ⟨_, _, _, _, rfl, fun h => (by cases h), fun _ => ?_⟩
  refine call (mod_c (by omega) (by omega)) ?_
  rintro _ w2 ⟨rfl, rfl⟩
  have hm := modI_at (k := at_) (n := (sl.l : Int)) (by omega)
  obtain ⟨i, hi⟩ : ∃ i : Nat, modI at_ (sl.l : Int) = (i : Int) := ⟨(modI at_ (sl.l : Int)).toNat, by omega⟩
  rw [hi] at hm ⊢
  have hip : i < ps.length := by omega
  refine ⟨_, rfl, fun p' want w' => ∃ ps', RdP w' p' ps' ∧ ps'.length ≤ 256 ∧ refusedV n k ps' = want ∧ want ≠ 0 ∧ RdCode w' q g s rs n k ∧ Fr [] w w', ?_, ?_⟩
  · have set0 : ∀ (x : Int) {w' : World}, Hp wm w' (star (own Ty_api_Part 2 sl ((ps.flatMap Pt.enc).set (i * 2) (.int .i64 x))) (star (all rowP ps) emp)) → RdP w' sl (ps.set i ⟨x, ps[i].sl, ps[i].bs⟩) := by
      intro x w' H
      have e : (ps.flatMap Pt.enc).set (i * 2) (.int .i64 x) = (ps.set i ⟨x, ps[i].sl, ps[i].bs⟩).flatMap Pt.enc := by
        rw [← enc_set ps i ⟨x, ps[i].sl, ps[i].bs⟩ hip]
        obtain ⟨_, h2⟩ := enc_get ps i hip
        have h3 : ((ps.flatMap Pt.enc).set (i * 2) (.int .i64 x))[i * 2 + 1]? = some ps[i].sl.v := by rw [List.getElem?_set_ne (by omega)]; exact h2
        obtain ⟨h4, h5⟩ := List.getElem?_eq_some_iff.1 h3
        rw [← h5]
        exact (List.set_getElem_self h4).symm
      rw [e] at H
      refine ⟨H.cel (s := sl), fun p hp => ?_⟩
      obtain ⟨_, S, _, S1, S2, _, _, hb, _⟩ := H.swap
      rcases List.mem_or_eq_of_mem_set hp with hp | rfl
      · obtain ⟨S', h⟩ := all_mem hb p hp
        exact h.2.cel
      · obtain ⟨S', h⟩ := all_mem hb ps[i] (List.getElem_mem hip)
        exact h.2.cel
    have sto0 : ∀ (x : Int) {K : World → Prop}, (∀ w', RdP w' sl (ps.set i ⟨x, ps[i].sl, ps[i].bs⟩) → Fr [] w w' → RdCode w' q g s rs n k → K w') → ∃ a : Addr, sl.a = some a ∧ (0 : Int) ≤ (i : Int) ∧ ((i : Nat) : Int) < sl.l ∧ Sto w2 ((a.add (Int.toNat (i : Int) * 2)).add 0) (.int .i64 x) K := by
      intro x K hK
      obtain ⟨a, ha, h1, h2, _⟩ := hP.rd hip (Q := fun _ _ _ => True) fun _ _ => trivial
      refine ⟨a, ha, h1, h2, ?_⟩
      rw [Int.toNat_natCast, add_add]
      have H : Hp wm w2 (star (own Ty_api_Part 2 sl (ps.flatMap Pt.enc)) (star (all rowP ps) emp)) := H.assoc
      refine H.stoS (s := sl) (i := i * 2 + 0) (by rw [enc_len]; omega) ha fun w' H => ?_
      rw [Nat.add_zero] at H
      exact hK w' (set0 x H) (fm.then_ H.fr) (hC.fr0 H.fr)
    have hC2 := hC.fr0 H.fr
    have f2 := fm.then_ H.fr
    refine call (mod_c (by omega) (by omega)) ?_
    rintro _ w2 ⟨rfl, rfl⟩
    have hy := modI_at (k := way) (n := 5) (by omega)
    have hmem : ∀ q : Pt, q ∈ ps.set i q := fun q => List.mem_set hip q
    refine ⟨_, rfl, fun h => ?_, fun h0 => ⟨fun h => ?_, fun h1 => ⟨fun h => ?_, fun h2 => ⟨fun h => ?_, fun h3 => ⟨fun h => ⟨fun _ => Rt.ok ⟨rfl, f2⟩, fun hge => ?_⟩, fun h4 => ?_⟩⟩⟩⟩⟩
    · have e : wr .i64 ((-1) - (i : Int)) = -1 - (i : Int) := wr64 (by omega) (by omega)
      rw [e]
      obtain ⟨a, ha, g1, g2, hs⟩ := sto0 (-1 - (i : Int)) (K := fun w' => ∃ ps', RdP w' sl ps' ∧ ps'.length ≤ 256 ∧ refusedV n k ps' = 22 ∧ (22 : Int) ≠ 0 ∧ RdCode w' q g s rs n k ∧ Fr [] w w') fun w' hP f hC => ⟨_, hP, by rw [List.length_set]; omega, rv22 ⟨_, hmem _, .inl (by dsimp only; omega)⟩, by decide, hC, f⟩
      exact ⟨a, ha, g1, g2, hs⟩
    · refine call (codeN'_c hC2) ?_
      rintro _ w2 ⟨rfl, rfl⟩
      refine ⟨_, rfl, call (mod_c (by omega) (by omega)) ?_⟩
      rintro _ w2 ⟨rfl, rfl⟩
      have hz := modI_at (k := at_) (n := 3) (by omega)
      have e : wr .i64 ((n : Int) + modI at_ 3) = (n : Int) + modI at_ 3 := wr64 (by omega) (by omega)
      refine ⟨_, rfl, ?_⟩
      rw [e]
      obtain ⟨a, ha, g1, g2, hs⟩ := sto0 ((n : Int) + modI at_ 3) (K := fun w' => ∃ ps', RdP w' sl ps' ∧ ps'.length ≤ 256 ∧ refusedV n k ps' = 22 ∧ (22 : Int) ≠ 0 ∧ RdCode w' q g s rs n k ∧ Fr [] w w') fun w' hP f hC => ⟨_, hP, by rw [List.length_set]; omega, rv22 ⟨_, hmem _, .inr (by dsimp only; omega)⟩, by decide, hC, f⟩
      exact ⟨a, ha, g1, g2, hs⟩
    · refine hP.rd hip fun a ha => ?_
      refine H.newRow (n := 1) (size := 2) [.int .i64 ps[i].ix, ps[i].sl.v] rfl rfl (by decide) fun b w3 H => ?_
      have hy := H.cel (s := ⟨some (blk b), 1, 1⟩)
      have H : Hp wm w3 (star (own Ty_api_Part 2 sl (ps.flatMap Pt.enc)) _) := (H.drop).assoc
      refine Hp.app slT_sl_api_Part H hy (by intro v hv; simp at hv; rcases hv with rfl | rfl <;> rfl) (by unfold maxLen; simp only; omega) (by simp only; omega) fun s2 w4 H _ => ⟨ps ++ [ps[i]], ⟨?_, fun p hp => ?_⟩, by simp; omega, rv21 ?_ ?_, by decide, hC.fr0 H.fr, fm.then_ H.fr⟩
      · have := H.cel (s := s2)
        rw [List.flatMap_append]
        exact this
      · have hp : p ∈ ps := by rcases List.mem_append.1 hp with h | h; exact h; simp at h; subst h; exact List.getElem_mem hip
        obtain ⟨_, S, _, S1, S2, _, _, hb, _⟩ := H.swap
        obtain ⟨S', h⟩ := all_mem hb p hp
        exact h.2.cel
      · rintro ⟨p, hp, h5⟩
        have hp : p ∈ ps := by rcases List.mem_append.1 hp with h | h; exact h; simp at h; subst h; exact List.getElem_mem hip
        exact hR.no ⟨p, hp, h5⟩
      · rw [List.map_append]
        intro h5
        have := (List.nodup_append.1 h5).2.2 ps[i].ix (List.mem_map_of_mem (List.getElem_mem hip)) ps[i].ix (by simp)
        exact this rfl
    · refine call (codeK'_c hC2) ?_
      rintro _ w2 ⟨rfl, rfl⟩
      have e : wr .i64 ((k : Int) - 1) = ((k - 1 : Nat) : Int) := by rw [wr64 (by omega) (by omega)]; omega
      have hcap := hP.cel.cap
      refine ⟨_, rfl, ?_⟩
      rw [e]
      refine ⟨by omega, by omega, by omega, ?_⟩
      rw [Int.toNat_natCast, show Int.toNat (0 : Int) = 0 from rfl]
      have hcut := hP.cut (l := 0) (m := k - 1) (by omega) (by omega)
      rw [List.drop_zero, Nat.sub_zero] at hcut
      have hRt := hR.take (k - 1)
      exact ⟨_, hcut, by rw [List.length_take]; omega, rv20 hRt.no hRt.nd hRt.same (by rw [List.length_take]; omega), by decide, hC2, f2⟩
    · have hge : ¬ sl.l < 2 := by simp at hge; omega
      refine hP.rdD hip fun a ha => ?_
      have H := (H.assoc).swap
      have H := (H.ent (Ent.star (all_at rowP ps i hip) (Ent.refl _))).assoc
      have H : Hp wm w2 (star (own Ty_uint8 1 ps[i].sl (ps[i].bs.map u8v)) (star (all rowP (ps.take i ++ ps.drop (i + 1))) (star (own Ty_api_Part 2 sl (ps.flatMap Pt.enc)) emp))) := H
      have hbl := hR.bs _ (List.getElem_mem hip)
      have hsl2 := (hP.at_ hip).len
      refine H.newRow (n := 1) (size := 1) [u8v 1] rfl rfl (by decide) fun b w3 H => ?_
      have hy := H.cel (s := ⟨some (blk b), 1, 1⟩)
      refine Hp.app slT_sl_uint8 (H.own ps[i].sl) hy (by intro v hv; simp at hv; subst hv; rfl) (by unfold maxLen; simp only; omega) (by simp only; omega) fun s2 w4 H _ => ⟨a, ha, by omega, by omega, ?_⟩
      rw [Int.toNat_natCast, add_add]
      have H := H.own sl
      refine H.stoS (s := sl) (i := i * 2 + 1) (by rw [enc_len]; omega) ha fun w5 H => ?_
      have e : (ps.flatMap Pt.enc).set (i * 2 + 1) s2.v = (ps.set i ⟨ps[i].ix, s2, ps[i].bs ++ [1]⟩).flatMap Pt.enc := by
        rw [← enc_set ps i ⟨ps[i].ix, s2, ps[i].bs ++ [1]⟩ hip]
        obtain ⟨h2, _⟩ := enc_get ps i hip
        obtain ⟨h4, h5⟩ := List.getElem?_eq_some_iff.1 h2
        dsimp only
        rw [← h5, List.set_getElem_self]
      rw [e] at H
      have hset : ps.set i ⟨ps[i].ix, s2, ps[i].bs ++ [1]⟩ = ps.take i ++ ⟨ps[i].ix, s2, ps[i].bs ++ [1]⟩ :: ps.drop (i + 1) := List.set_eq_take_append_cons_drop ▸ by rw [if_pos hip]
      have hmap : (ps.set i ⟨ps[i].ix, s2, ps[i].bs ++ [1]⟩).map (·.ix) = ps.map (·.ix) := by
        rw [List.map_set]
        have : (ps.map (·.ix))[i]'(by simpa using hip) = ps[i].ix := by simp
        rw [← this, List.set_getElem_self]
      refine ⟨ps.set i ⟨ps[i].ix, s2, ps[i].bs ++ [1]⟩, ⟨H.cel (s := sl), fun p hp => ?_⟩, by rw [List.length_set]; omega, rv23 ?_ ?_ ?_, by decide, hC.fr0 H.fr, fm.then_ H.fr⟩
      · rw [hset] at hp
        have hold : p ∈ ps.take i ++ ps.drop (i + 1) ∨ p = ⟨ps[i].ix, s2, ps[i].bs ++ [1]⟩ := by
          rcases List.mem_append.1 hp with h | h
          · exact .inl (List.mem_append_left _ h)
          · rcases List.mem_cons.1 h with h | h
            · exact .inr h
            · exact .inl (List.mem_append_right _ h)
        rcases hold with h | rfl
        · obtain ⟨_, S, _, S1, S2, _, _, hb, _⟩ := H.take (all rowP (ps.take i ++ ps.drop (i + 1)))
          obtain ⟨S', h⟩ := all_mem hb p h
          exact h.2.cel
        · have := H.cel (s := s2)
          show Cel w5 s2 1 ((ps[i].bs ++ [1]).map u8v)
          rw [List.map_append]
          exact this
      · rintro ⟨p, hp, h5⟩
        have : p.ix ∈ (ps.set i ⟨ps[i].ix, s2, ps[i].bs ++ [1]⟩).map (·.ix) := List.mem_map_of_mem hp
        rw [hmap] at this
        obtain ⟨p', hp', e'⟩ := List.mem_map.1 this
        have := hR.ix p' hp'
        omega
      · rw [hmap]; exact hR.nd
      · have hps2 : 2 ≤ ps.length := by omega
        by_cases hi0 : i = 0
        · subst hi0
          refine ⟨ps[1], ?_, ?_⟩
          · exact List.mem_of_getElem? (i := 1) (by rw [List.getElem?_set_ne (by omega)]; exact List.getElem?_eq_getElem _)
          · rw [hset]; simp [hR.bs _ (List.getElem_mem hip), hR.bs _ (List.getElem_mem (show 1 < ps.length by omega))]
        · refine ⟨_, hmem _, ?_⟩
          have : (ps.set i ⟨ps[i].ix, s2, ps[i].bs ++ [1]⟩).headD ⟨0, Slc.nil, []⟩ = ps[0] := by
            rw [List.headD_eq_head?_getD, List.head?_eq_getElem?, List.getElem?_set_ne (by omega), List.getElem?_eq_getElem (by omega)]; rfl
          rw [this, hR.bs _ (List.getElem_mem (show 0 < ps.length by omega))]
          simp [hbl]
    · simp at h0 h1 h2 h3 h4
      omega
  · rintro p' want w3 ⟨ps', hP', hl', hr, h0, hC', f⟩
    refine call (mdecode_c hC' hP' (by omega) (by rw [hr]; exact h0)) ?_
    rintro _ w4 ⟨rfl, f4⟩
    rw [hr]
    refine ⟨_, _, _, rfl, call mdecode0_c ?_⟩
    rintro _ w4 ⟨rfl, rfl⟩
    refine ⟨_, _, _, rfl, fun x w' => x = true ∧ w' = w4, ⟨fun _ => call most0_c ?_, fun h => (by simp at h)⟩, ?_⟩
    · rintro _ _ ⟨rfl, rfl⟩
      exact ⟨_, rfl, rfl, rfl⟩
    · rintro _ _ ⟨rfl, rfl⟩
      exact Rt.ok ⟨rfl, f.then_ f4⟩
end
end Go.Proofs.YtabifopphhpciaaGreat
