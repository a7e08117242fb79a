/-
  Contracts of the document's table: what it reads of its rows.
-/
import Derived.Test.YtgnceldnfefnmaaGreatRef15P
import Derived.Test.YtgnceldnfefnmaaGreatSetL
namespace Go.Proofs.YtgnceldnfefnmaaGreat
open Go Go.Vc Go.Vc.Asn Go.Tab Go.Sort
def rowA (r : Rw) : Asn := own Ty_uint8 1 r.e.s (r.e.data.map u8v)
abbrev refB (q : Nat) (R : Rf) : Asn := bk q Ty_sherdref15_Table #[.int .i64 R.delta, R.s.v]
abbrev refC (R : Rf) : Asn := own Ty_sherdref15_Row 6 R.s (R.rows.flatMap Rw.c)
def refA (q : Nat) (R : Rf) : Asn := star (refB q R) (star (refC R) (all rowA R.rows))
theorem row_len (r : Rw) : r.c.length = 6 := rfl
theorem one_row (l : List Rw) : ∀ u ∈ l.flatMap Rw.c, u.oneCell' = true := by
  intro u hu
  obtain ⟨t, _, h⟩ := List.mem_flatMap.1 hu
  simp [Rw.c] at h
  rcases h with rfl | rfl | rfl | rfl | rfl | rfl <;> rfl
section
variable {q : Nat} {R : Rf} {w0 w : World} {F : Asn}
theorem ref_open (H : Hp w0 w (star (refA q R) F)) : Hp w0 w (star (refB q R) (star (refC R) (star (all rowA R.rows) F))) := H.assoc.ent (Ent.star (Ent.refl _) Asn.assoc)
theorem ref_close (H : Hp w0 w (star (refB q R) (star (refC R) (star (all rowA R.rows) F)))) : Hp w0 w (star (refA q R) F) := (H.ent (Ent.star (Ent.refl _) Asn.assoc')).assoc'
theorem str_iff {a b : ByteArray} : (a.toList = b.toList) ↔ a = b := by
  constructor
  · intro e
    rw [ByteArray.toList_eq, ByteArray.toList_eq] at e
    rw [← eta a, ← eta b, e]
  · intro e; rw [e]
theorem below_r (a b : Tg) (w : World) : Calls PP F_sherdref15_below #[a.v, b.v] w (Rt fun v w' => v = .bool (ltT a b) ∧ Fr [] w w') := by
  refine sim_sherdref15_below _ _ _ _ _ _ ?_
  unfold vc_sherdref15_below
  exact (Hp.start w).new fun _ w1 H => H.new fun _ w2 H => Rt.ok ⟨rfl, H.fr⟩
theorem rnew_r (d : Int) : Calls PP F_sherdref15_New #[.int .i64 d] w (Rt fun v w' => (d < 0 ∨ 4611686018427387903 < d) ∧ v = .tuple #[.pointer none, .int .i64 1] ∧ Fr [] w w' ∨ (0 ≤ d ∧ d ≤ 4611686018427387903) ∧ ∃ q, v = .tuple #[.pointer (some (blk q)), .int .i64 0] ∧ Hp w w' (star (refA q ⟨d, Slc.nil, []⟩) emp)) := by
  refine sim_sherdref15_New _ _ _ ?_
  unfold vc_sherdref15_New
  refine ⟨fun h => Rt.ok (.inl ⟨?_, rfl, Fr.refl _ _⟩), fun h => ?_⟩
  · simpa using h
  · have h : 0 ≤ d ∧ d ≤ 4611686018427387903 := by simpa using h
    refine (Hp.start w).new fun b w1 H => Rt.ok (.inr ⟨h, b, rfl, ref_close ?_⟩)
    exact (H.nilRow Ty_sherdref15_Row 6).swap.ent (Ent.star (Ent.refl _) (Ent.star (Ent.refl _) emp_l))
theorem may_r {u : Upt} (hb : u.s.l = u.data.length) : Calls PP F_sherdref15_May #[.agg u.c.toArray] w (Rt fun v w' => v = .bool (mayB u) ∧ Fr [] w w') := by
  refine sim_sherdref15_May _ _ _ _ _ _ _ _ _ ?_
  unfold vc_sherdref15_May
  have hk0 : decide (u.key.toList = (ByteArray.mk #[]).toList) = decide ((u.key.size : Int) < 1) := by
    rw [Bool.eq_iff_iff]
    simp only [decide_eq_true_eq, str_iff]
    constructor
    · intro e; rw [e]; decide
    · intro e
      have h0 : u.key.size = 0 := by omega
      have h1 : u.key.data.size = 0 := h0
      have h2 : u.key.data = #[] := Array.eq_empty_of_size_eq_zero h1
      rw [← eta u.key, h2]
  have hm : mayB u = (!((((((decide ((u.key.size : Int) < 1) || decide (64 < (u.key.size : Int))) || decide (u.tag.1 < 1)) || decide (4611686018427387903 < u.tag.1)) || decide (u.tag.2 < 1)) || decide (65535 < u.tag.2)) || decide (65540 < (u.s.l : Int))) && (if u.kind = 1 then !u.fin && !u.has else if u.kind = 2 then (!u.fin && !u.has) && decide (u.data = []) else if u.kind = 3 then u.has || (u.fin && decide (u.data = [])) else false)) := by
    unfold mayB properT
    rw [hk0, hb]
    congr 2
    rw [Bool.eq_iff_iff]
    simp only [Bool.or_eq_true, Bool.not_eq_true', Bool.and_eq_false_iff, decide_eq_true_eq, decide_eq_false_iff_not]
    omega
  have hd0 : (decide ((u.s.l : Int) = 0)) = decide (u.data = []) := by rw [hb, Bool.eq_iff_iff]; simp
  refine (Hp.start w).new fun b9 w1 H => H.new fun b13 w2 H => H.stoAll (b := b13) (by rfl) fun w3 H => ⟨_, H.cell (b := b9) (i := 1) rfl, ?_⟩
  refine ⟨(decide ((u.key.size : Int) < 1) || decide (64 < (u.key.size : Int))), fun h => ⟨_, H.cell (b := b9) (i := 1) rfl, by rw [h]; rfl⟩, fun h => by rw [h]; rfl, ((decide ((u.key.size : Int) < 1) || decide (64 < (u.key.size : Int))) || decide (u.tag.1 < 1)), fun h => ⟨_, H.cell (b := b13) (i := 0) rfl, by rw [h]; rfl⟩, fun h => by rw [h]; rfl, (((decide ((u.key.size : Int) < 1) || decide (64 < (u.key.size : Int))) || decide (u.tag.1 < 1)) || decide (4611686018427387903 < u.tag.1)), fun h => ⟨_, H.cell (b := b13) (i := 0) rfl, by rw [h]; rfl⟩, fun h => by rw [h]; rfl, ((((decide ((u.key.size : Int) < 1) || decide (64 < (u.key.size : Int))) || decide (u.tag.1 < 1)) || decide (4611686018427387903 < u.tag.1)) || decide (u.tag.2 < 1)), fun h => ⟨_, H.cell (b := b13) (i := 1) rfl, by rw [h]; rfl⟩, fun h => by rw [h]; rfl, (((((decide ((u.key.size : Int) < 1) || decide (64 < (u.key.size : Int))) || decide (u.tag.1 < 1)) || decide (4611686018427387903 < u.tag.1)) || decide (u.tag.2 < 1)) || decide (65535 < u.tag.2)), fun h => ⟨_, H.cell (b := b13) (i := 1) rfl, by rw [h]; rfl⟩, fun h => by rw [h]; rfl, ((((((decide ((u.key.size : Int) < 1) || decide (64 < (u.key.size : Int))) || decide (u.tag.1 < 1)) || decide (4611686018427387903 < u.tag.1)) || decide (u.tag.2 < 1)) || decide (65535 < u.tag.2)) || decide (65540 < (u.s.l : Int))), fun h => ⟨_, H.cell2 (b := b9) (i := 2) (j := 4) rfl, by rw [h]; rfl⟩, fun h => by rw [h]; rfl, ?_⟩
  generalize hX : ((((((decide ((u.key.size : Int) < 1) || decide (64 < (u.key.size : Int))) || decide (u.tag.1 < 1)) || decide (4611686018427387903 < u.tag.1)) || decide (u.tag.2 < 1)) || decide (65535 < u.tag.2)) || decide (65540 < (u.s.l : Int))) = X at hm
  refine ⟨fun h => Rt.ok ⟨by rw [hm, h]; rfl, H.fr⟩, fun h => ⟨_, H.cell (b := b9) (i := 0) rfl, fun h1 => ?_, fun h1 => ⟨fun h2 => ?_, fun h2 => ⟨fun h3 => ?_, fun h3 => ?_⟩⟩⟩⟩
  all_goals simp only [decide_eq_true_eq, decide_eq_false_iff_not] at h1
  · refine ⟨_, H.cell2 (b := b9) (i := 2) (j := 2) rfl, !u.fin && !u.has, fun h2 => ⟨_, H.cell2 (b := b9) (i := 2) (j := 3) rfl, by rw [h2]; rfl⟩, fun h2 => by rw [h2]; rfl, Rt.ok ⟨?_, H.fr⟩⟩
    rw [hm, h, if_pos h1]; rfl
  · simp only [decide_eq_true_eq] at h2
    refine ⟨_, H.cell2 (b := b9) (i := 2) (j := 2) rfl, !u.fin && !u.has, fun h3 => ⟨_, H.cell2 (b := b9) (i := 2) (j := 3) rfl, by rw [h3]; rfl⟩, fun h3 => by rw [h3]; rfl, (!u.fin && !u.has) && decide (u.data = []), fun h4 => ⟨_, H.cell2 (b := b9) (i := 2) (j := 4) rfl, by rw [h4, hd0]; rfl⟩, fun h4 => by rw [h4]; rfl, Rt.ok ⟨?_, H.fr⟩⟩
    rw [hm, h, if_neg h1, if_pos h2]; rfl
  · simp only [decide_eq_false_iff_not] at h2
    simp only [decide_eq_true_eq] at h3
    refine ⟨_, H.cell2 (b := b9) (i := 2) (j := 3) rfl, u.has || (u.fin && decide (u.data = [])), fun h4 => ⟨_, H.cell2 (b := b9) (i := 2) (j := 2) rfl, u.fin && decide (u.data = []), fun h5 => ⟨_, H.cell2 (b := b9) (i := 2) (j := 4) rfl, by rw [h5, hd0]; rfl⟩, fun h5 => by rw [h5]; rfl, by rw [h4]; rfl⟩, fun h4 => by rw [h4]; rfl, Rt.ok ⟨?_, H.fr⟩⟩
    rw [hm, h, if_neg h1, if_neg h2, if_pos h3]; rfl
  · simp only [decide_eq_false_iff_not] at h2 h3
    refine Rt.ok ⟨?_, H.fr⟩
    rw [hm, h, if_neg h1, if_neg h2, if_neg h3]; rfl
theorem copied_r {e : Ec} (hb : Byt w e.s e.data) (hl : e.data.length ≤ 1099511627776) : Calls PP F_sherdref15_copied #[e.v] w (Rt fun v w' => ∃ s' : Slc, v = Ec.v { e with s := s' } ∧ Hp w w' (star (own Ty_uint8 1 s' (e.data.map u8v)) emp)) := by
  refine sim_sherdref15_copied _ _ _ _ _ _ _ ?_
  unfold vc_sherdref15_copied
  have hlen := hb.len
  refine (Hp.start w).new fun b7 w1 H => H.new fun b10 w2 H => ?_
  refine Hp.app (s := Slc.nil) slT_sl_uint8 (H.nilRow Ty_uint8 1) (hb.fr0 H.fr) (one_u8 _) (by unfold maxLen; simp only [Slc.nil]; omega) (by simp only [Slc.nil]; omega) fun s' w3 H _ => ?_
  rw [List.nil_append] at H
  refine H.sto (b := b7) (i := 4) (lt_ rfl) fun w4 H => ⟨_, H.cell (b := b7) (i := 0) rfl, _, H.cell (b := b7) (i := 1) rfl, _, H.cell (b := b7) (i := 2) rfl, _, H.cell (b := b7) (i := 3) rfl, _, H.cell (b := b7) (i := 4) rfl, H.stoAll (b := b10) (by rfl) fun w5 H =>
    ⟨_, H.cell (b := b10) (i := 0) rfl, _, H.cell (b := b10) (i := 1) rfl, _, H.cell (b := b10) (i := 2) rfl, _, H.cell (b := b10) (i := 3) rfl, _, H.cell (b := b10) (i := 4) rfl, Rt.ok ⟨s', rfl, ?_⟩⟩⟩
  have H := ((H.blk b10).drop.blk b7).drop
  exact H
theorem row_at {i : Nat} {r : Rw} {A F' : Asn} (H : Hp w0 w A) [TakeS R.s A Ty_sherdref15_Row 6 (R.rows.flatMap Rw.c) F'] (hx : R.rows[i]? = some r) : ∃ a, R.s.a = some a ∧ ∀ j v, r.c[j]? = some v → w.cell? ((a.add (i * 6)).add j) = some v := Cel.elem row_len (H.cel (s := R.s)) hx (by decide)
theorem rows_l {A F' : Asn} (H : Hp w0 w A) [TakeS R.s A Ty_sherdref15_Row 6 (R.rows.flatMap Rw.c) F'] : R.s.l = R.rows.length := Cel.flen row_len (H.cel (s := R.s)) (by decide)
theorem place_r {k : ByteArray} {t : Tg} (hl : R.rows.length ≤ 1099511627776) (H : Hp w0 w (star (refA q R) F)) :
    Calls PP F_sherdref15_Table_place #[.pointer (some (blk q)), .string k, t.v] w (Rt fun v w' => ((∃ (i : Nat) (r : Rw), v = .int .i64 (i : Int) ∧ R.rows[i]? = some r ∧ r.key = k ∧ r.e.tag = t) ∨ (v = .int .i64 (-1) ∧ ∀ r ∈ R.rows, ¬ (r.key = k ∧ r.e.tag = t))) ∧ Hp w0 w' (star (refA q R) F)) := by
  refine sim_sherdref15_Table_place _ _ _ _ _ _ ?_
  unfold vc_sherdref15_Table_place
  have H := ref_open H
  refine H.new fun b6 w1 H => ⟨_, rfl, _, H.cell (b := q) (i := 1) rfl, ?_⟩
  have hrl := rows_l (R := R) H
  refine ⟨fun i w' => ∃ m : Nat, i = (m : Int) ∧ m ≤ R.rows.length ∧ (∀ r ∈ R.rows.take m, ¬ (r.key = k ∧ r.e.tag = t)) ∧ Hp w0 w' (star (bk b6 Ty_api_Tag #[.int .i64 t.1, .int .i64 t.2]) (star (refB q R) (star (refC R) (star (all rowA R.rows) F)))), fun i _ => R.rows.length - i.toNat, ⟨0, rfl, Nat.zero_le _, (fun r hr => by simp at hr), H⟩, ?_⟩
  rintro _ w2 ⟨m, rfl, hm, hno, H⟩
  refine ⟨fun h => ?_, fun h => ?_⟩
  · have hlt : m < R.rows.length := by rw [hrl] at h; simp only [decide_eq_true_eq] at h; omega
    have hx : R.rows[m]? = some R.rows[m] := List.getElem?_eq_getElem hlt
    have htk : R.rows.take (m + 1) = R.rows.take m ++ [R.rows[m]] := by rw [List.take_succ_eq_append_getElem hlt]
    obtain ⟨a, ha, hc⟩ := row_at (R := R) H hx
    have ewr : wr .i64 ((m : Int) + 1) = ((m + 1 : Nat) : Int) := by rw [wr64 (by omega) (by omega)]; omega
    generalize R.rows[m] = r at *
    refine ⟨a, ha, by omega, by omega, _, hc 0 _ rfl, _, hc 1 _ rfl, _, hc 2 _ rfl, _, hc 3 _ rfl, _, hc 4 _ rfl, _, hc 5 _ rfl, H.new fun b39 w3 H => H.stoAll (b := b39) (by rfl) fun w4 H => ?_⟩
    refine ⟨_, H.cell (b := b39) (i := 0) rfl, decide (r.key = k) && decide (r.e.tag = t), fun h1 => ⟨_, H.cell3 (b := b39) (i := 1) (j := 0) (l := 0) rfl, _, H.cell3 (b := b39) (i := 1) (j := 0) (l := 1) rfl, _, H.cell (b := b6) (i := 0) rfl, _, H.cell (b := b6) (i := 1) rfl, ?_⟩, fun h1 => ?_, fun h1 => ?_, fun h1 => ?_⟩
    · have h1 : r.key = k := by simpa [str_iff] using h1
      rw [Bool.eq_iff_iff]
      simp [h1, Prod.ext_iff]
    · have h1 : ¬ r.key = k := by simpa [str_iff] using h1
      simp [h1]
    · simp only [Bool.and_eq_true, decide_eq_true_eq] at h1
      exact Rt.ok ⟨.inl ⟨m, r, rfl, hx, h1⟩, ref_close (H.drop.drop)⟩
    · simp only [Bool.and_eq_false_iff, decide_eq_false_iff_not] at h1
      refine ⟨⟨m + 1, by rw [ewr], by omega, fun r' hr' => ?_, H.drop⟩, by dsimp only; rw [ewr]; omega⟩
      rw [htk] at hr'
      rcases List.mem_append.1 hr' with h2 | h2
      · exact hno r' h2
      · simp at h2; subst h2; rintro ⟨h3, h4⟩; exact h1.elim (· h3) (· h4)
  · have hme : m = R.rows.length := by rw [hrl] at h; simp only [decide_eq_false_iff_not] at h; omega
    subst hme
    rw [List.take_length] at hno
    exact Rt.ok ⟨.inr ⟨rfl, hno⟩, ref_close H.drop⟩
theorem fins_app (a b : Sc) : fins (a ++ b) = fins a ++ fins b := by unfold fins; rw [List.filter_append, List.map_append]
theorem fins_r {r : Rw} (k : ByteArray) : fins (rsh [r] k) = if r.key = k ∧ r.e.fin = true then [r.e.tag] else [] := by
  rw [rsh_one]
  by_cases h : r.key = k
  · rw [if_pos h]
    unfold fins
    cases hf : r.e.fin <;> simp [hf, h]
  · simp [h, fins]
set_option maxHeartbeats 1000000 in
theorem finalized_r {k : ByteArray} (hl : R.rows.length ≤ 549755813888) (H : Hp w0 w (star (refA q R) F)) :
    Calls PP F_sherdref15_Table_finalized #[.pointer (some (blk q)), .string k] w (Rt fun v w' => ∃ s : Slc, v = s.v ∧ Hp w0 w' (star (tagsA s (sortD (fins (rsh R.rows k)))) (star (refA q R) F))) := by
  refine sim_sherdref15_Table_finalized _ _ _ _ ?_
  unfold vc_sherdref15_Table_finalized
  have H := ref_open H
  have hrl := rows_l (R := R) H
  refine ⟨_, rfl, _, H.cell (b := q) (i := 1) rfl, ?_⟩
  refine ⟨fun l i w' => ∃ (m : Nat) (S : List Tg), i = (m : Int) ∧ m ≤ R.rows.length ∧ S.Perm (fins (rsh (R.rows.take m) k)) ∧ S.Pairwise (fun x y => ltT x y = false) ∧ Hp w0 w' (star (tagsA l S) (star (refB q R) (star (refC R) (star (all rowA R.rows) F)))), fun _ i _ => R.rows.length - i.toNat, ⟨0, [], rfl, Nat.zero_le _, List.Perm.nil, List.Pairwise.nil, H.nilRow Ty_api_Tag 2⟩, ?_⟩
  rintro l _ w2 ⟨m, S, rfl, hm, hp, hs, H⟩
  have hSl : S.length ≤ m := by
    have h1 := hp.length_eq
    have h2 := fins_len (rsh (R.rows.take m) k)
    have h3 := rsh_len (R.rows.take m) k
    have h4 : (R.rows.take m).length ≤ m := by rw [List.length_take]; omega
    omega
  refine ⟨fun h => ?_, fun h => ?_⟩
  · have hlt : m < R.rows.length := by rw [hrl] at h; simp only [decide_eq_true_eq] at h; omega
    have hx : R.rows[m]? = some R.rows[m] := List.getElem?_eq_getElem hlt
    have htk : R.rows.take (m + 1) = R.rows.take m ++ [R.rows[m]] := by rw [List.take_succ_eq_append_getElem hlt]
    obtain ⟨a, ha, hc⟩ := row_at (R := R) H hx
    have ewr : wr .i64 ((m : Int) + 1) = ((m + 1 : Nat) : Int) := by rw [wr64 (by omega) (by omega)]; omega
    generalize R.rows[m] = r at *
    refine ⟨fun l w' => ∃ S : List Tg, S.Perm (fins (rsh (R.rows.take (m + 1)) k)) ∧ S.Pairwise (fun x y => ltT x y = false) ∧ Hp w0 w' (star (tagsA l S) (star (refB q R) (star (refC R) (star (all rowA R.rows) F)))), ?_, fun l w3 ⟨S, h1, h2, H⟩ => ⟨⟨m + 1, S, by rw [ewr], by omega, h1, h2, H⟩, by dsimp only; rw [ewr]; omega⟩⟩
    rw [htk, rsh_append, fins_app, fins_r]
    refine ⟨a, ha, by omega, by omega, _, hc 0 _ rfl, _, hc 1 _ rfl, _, hc 2 _ rfl, _, hc 3 _ rfl, _, hc 4 _ rfl, _, hc 5 _ rfl, H.new fun b40 w3 H => H.stoAll (b := b40) (by rfl) fun w4 H => ?_⟩
    refine ⟨_, H.cell (b := b40) (i := 0) rfl, !(decide (r.key = k) && r.e.fin), fun h1 => ⟨_, H.cell2 (b := b40) (i := 1) (j := 2) rfl, ?_⟩, fun h1 => ?_, fun h1 => ?_, fun h1 => ?_⟩
    · have h1 : r.key = k := by simpa [str_iff] using h1
      simp [h1]
    · have h1 : ¬ r.key = k := by simpa [str_iff] using h1
      simp [h1]
    · have h1 : ¬ (r.key = k ∧ r.e.fin = true) := fun ⟨h2, h3⟩ => by simp [h2, h3] at h1
      rw [if_neg h1, List.append_nil]
      exact ⟨S, hp, hs, H.drop⟩
    · have h1 : r.key = k ∧ r.e.fin = true := by simpa using h1
      rw [if_pos h1]
      generalize ht : r.e.tag = t at *
      refine ⟨_, H.cell3 (b := b40) (i := 1) (j := 0) (l := 0) rfl, _, H.cell3 (b := b40) (i := 1) (j := 0) (l := 1) rfl, H.newRow (e := Ty_api_Tag) (n := 1) (size := 2) t.c rfl rfl (by decide) fun b61 w5 H => ?_⟩
      have hll : l.l = S.length := Cel.flen (enc := Tg.c) tag_len (H.cel (s := l)) (by decide)
      refine H.app (s := l) slT_sl_api_Tag (H.cel (s := ⟨some (blk b61), 1, 1⟩)) (fun u hu => one_tag [t] u (by simpa using hu)) (by unfold maxLen; simp only; omega) (by simp only; omega) fun s64 w6 H hs64 => ?_
      simp only at hs64
      have H := ((H.own ⟨some (blk b61), 1, 1⟩).drop.blk b40).drop.own s64
      have e0 : S.flatMap Tg.c ++ t.c = (insAt S t S.length).flatMap Tg.c := by rw [insAt_end]; simp
      rw [e0] at H
      refine ⟨fun i w' => ∃ n : Nat, i = (n : Int) ∧ n ≤ S.length ∧ (∀ j, n ≤ j → (hj : j < S.length) → ltT S[j] t = true) ∧ Hp w0 w' (star (tagsA s64 (insAt S t n)) (star (refB q R) (star (refC R) (star (all rowA R.rows) F)))), fun i _ => i.toNat, ⟨S.length, by rw [hs64, wr64 (by omega) (by omega)]; omega, Nat.le_refl _, (fun j h1 h2 => by omega), H⟩, ?_⟩
      rintro _ w7 ⟨n, rfl, hn, hge, H⟩
      refine ⟨fun b w' => (b = true → ∃ n', n = n' + 1 ∧ (∃ hj : n' < S.length, ltT S[n'] t = true)) ∧ (b = false → ∀ j, j + 1 = n → (hj : j < S.length) → ltT S[j] t = false) ∧ Hp w0 w' (star (tagsA s64 (insAt S t n)) (star (refB q R) (star (refC R) (star (all rowA R.rows) F)))), ⟨fun h2 => ?_, fun h2 => ?_⟩, ?_⟩
      · simp only [decide_eq_true_eq] at h2
        obtain ⟨n', rfl⟩ : ∃ n', n = n' + 1 := ⟨n - 1, by omega⟩
        have hn' : n' < S.length := by omega
        have H := H.drew 1
        have e1 : wr .i64 (((n' + 1 : Nat) : Int) - 1) = (n' : Int) := by rw [wr64 (by omega) (by omega)]; omega
        rw [e1, Int.toNat_natCast, Int.toNat_natCast]
        obtain ⟨a1, ha1, hc1⟩ := Cel.elem (enc := Tg.c) tag_len (H.cel (s := s64)) (insAt_pre (x := t) hn') (by decide)
        obtain ⟨a2, ha2, hc2⟩ := Cel.elem (enc := Tg.c) tag_len (H.cel (s := s64)) (insAt_at (x := t) hn) (by decide)
        refine ⟨a1, ha1, by omega, by omega, _, hc1 0 _ rfl, _, hc1 1 _ rfl, a2, ha2, by omega, by omega, _, hc2 0 _ rfl, _, hc2 1 _ rfl, call (below_r S[n'] t _) ?_⟩
        rintro _ w8 ⟨rfl, f⟩
        exact ⟨_, rfl, fun hb => ⟨n', rfl, hn', hb⟩, (fun hb j hj hj2 => (show j = n' by omega) ▸ hb), H.fr0 f⟩
      · simp only [decide_eq_false_iff_not] at h2
        exact ⟨(fun h => nomatch h), fun _ j hj _ => by omega, H.drew 1⟩
      · rintro b w8 ⟨hb1, hb2, H⟩
        refine ⟨fun hb => ?_, fun hb => ?_⟩
        · obtain ⟨n', rfl, hn', hlt'⟩ := hb1 hb
          have e1 : wr .i64 (((n' + 1 : Nat) : Int) - 1) = (n' : Int) := by rw [wr64 (by omega) (by omega)]; omega
          rw [e1, Int.toNat_natCast, Int.toNat_natCast]
          obtain ⟨a2, ha2, hc2⟩ := Cel.elem (enc := Tg.c) tag_len (H.cel (s := s64)) (insAt_at (x := t) hn) (by decide)
          refine ⟨a2, ha2, by omega, by omega, _, hc2 0 _ rfl, _, hc2 1 _ rfl, H.new fun b88 w9 H => H.stoAll (b := b88) (by rfl) fun w10 H => ?_⟩
          obtain ⟨a1, ha1, hc1⟩ := Cel.elem (enc := Tg.c) tag_len (H.cel (s := s64)) (insAt_pre (x := t) hn') (by decide)
          refine ⟨a1, ha1, by omega, by omega, _, hc1 0 _ rfl, _, hc1 1 _ rfl, a2, ha2, by omega, by omega, ?_⟩
          refine Hp.stoNOwn ha2 S[n'].c ((n' + 1) * 2) 0 _ _ (by rw [flat_len tag_len, tag_len, insAt_len hn]; omega) (H.own s64) fun w11 H => ?_
          rw [Nat.add_zero ((n' + 1) * 2), flat_set tag_len (by rw [insAt_len hn]; omega)] at H
          refine ⟨_, H.cell (b := b88) (i := 0) rfl, _, H.cell (b := b88) (i := 1) rfl, a1, ha1, by omega, by omega, ?_⟩
          refine Hp.stoNOwn ha1 t.c (n' * 2) 0 _ _ (by rw [flat_len tag_len, tag_len, List.length_set, insAt_len hn]; omega) H fun w12 H => ?_
          rw [Nat.add_zero (n' * 2), flat_set tag_len (by rw [List.length_set, insAt_len hn]; omega), insAt_swap hn'] at H
          refine ⟨⟨n', rfl, by omega, fun j h1 h2 => ?_, ((H.blk b88).drop)⟩, by dsimp only; omega⟩
          by_cases hj : j = n'
          · subst hj; exact hlt'
          · exact hge j (by omega) h2
        · refine ⟨insAt S t n, ?_, ?_, H⟩
          · exact (insAt_perm.trans (List.perm_append_singleton t S).symm).trans (List.Perm.append_right _ hp)
          · exact insAt_pw (lt := fun a b => ltT b a) (fun a b h => ltT_asymm h) (fun a b c h1 h2 => ltT_ntrans h2 h1) hs hn hge (hb2 hb)
  · have hme : m = R.rows.length := by rw [hrl] at h; simp only [decide_eq_false_iff_not] at h; omega
    subst hme
    rw [List.take_length] at hp
    have e : S = sortD (fins (rsh R.rows k)) := sorted_eq (R := fun x y => ltT x y = false) (fun x y h1 h2 => ltT_total h1 h2) (hp.trans (sortD_perm _).symm) hs (sortD_pw _)
    rw [← e]
    exact Rt.ok ⟨l, rfl, H.ent (Ent.star (Ent.refl _) ((Ent.star (Ent.refl _) Asn.assoc').trans Asn.assoc'))⟩
theorem tag_at {s : Slc} {S : List Tg} {A F' : Asn} {i : Nat} {t : Tg} (H : Hp w0 w A) [TakeS s A Ty_api_Tag 2 (S.flatMap Tg.c) F'] (hx : S[i]? = some t) : ∃ a, s.a = some a ∧ ∀ j v, t.c[j]? = some v → w.cell? ((a.add (i * 2)).add j) = some v := Cel.elem tag_len (H.cel (s := s)) hx (by decide)
theorem top_r {k : ByteArray} (hl : R.rows.length ≤ 549755813888) (H : Hp w0 w (star (refA q R) F)) :
    Calls PP F_sherdref15_Table_Top #[.pointer (some (blk q)), .string k] w (Rt fun v w' => v = (top (fins (rsh R.rows k))).v ∧ Hp w0 w' (star (refA q R) F)) := by
  refine sim_sherdref15_Table_Top _ _ _ _ ?_
  unfold vc_sherdref15_Table_Top
  refine H.new fun b4 w1 H => ⟨fun h => by simp at h, fun _ => call (finalized_r hl (H.take (refA q R))) ?_⟩
  rintro _ w2 ⟨s, rfl, H⟩
  have hsl : s.l = (sortD (fins (rsh R.rows k))).length := Cel.flen (enc := Tg.c) tag_len (H.cel (s := s)) (by decide)
  unfold top
  generalize sortD (fins (rsh R.rows k)) = S at *
  refine ⟨_, rfl, fun h => ?_, fun h => ?_⟩
  · have h0 : S = [] := by rw [hsl] at h; simpa using h
    subst h0
    exact H.stoAll (b := b4) (by rfl) fun w3 H => ⟨_, H.cell (b := b4) (i := 0) rfl, _, H.cell (b := b4) (i := 1) rfl, Rt.ok ⟨rfl, ((H.blk b4).drop.own s).drop⟩⟩
  · cases S with
    | nil => rw [hsl] at h; simp at h
    | cons t r =>
      obtain ⟨a, ha, hc⟩ := tag_at (s := s) (i := 0) (t := t) H rfl
      refine ⟨a, ha, by omega, by rw [hsl]; simp, _, hc 0 _ rfl, _, hc 1 _ rfl, H.stoAll (b := b4) (by rfl) fun w3 H => ⟨_, H.cell (b := b4) (i := 0) rfl, _, H.cell (b := b4) (i := 1) rfl, Rt.ok ⟨rfl, ((H.blk b4).drop.own s).drop⟩⟩⟩
theorem top0_r {k : ByteArray} : Calls PP F_sherdref15_Table_Top #[.pointer none, .string k] w (Rt fun v w' => v = Tg.v (0, 0) ∧ Fr [] w w') := by
  refine sim_sherdref15_Table_Top _ _ _ _ ?_
  unfold vc_sherdref15_Table_Top
  refine (Hp.start w).new fun b4 w1 H => ⟨fun _ => H.stoAll (b := b4) (by rfl) fun w3 H => ⟨_, H.cell (b := b4) (i := 0) rfl, _, H.cell (b := b4) (i := 1) rfl, Rt.ok ⟨rfl, H.fr⟩⟩, fun h => by simp at h⟩
theorem floor_r {k : ByteArray} (hd : 0 ≤ R.delta) (hl : R.rows.length ≤ 549755813888) (H : Hp w0 w (star (refA q R) F)) :
    Calls PP F_sherdref15_Table_Floor #[.pointer (some (blk q)), .string k] w (Rt fun v w' => v = (floorI R.delta (rsh R.rows k)).v ∧ Hp w0 w' (star (refA q R) F)) := by
  refine sim_sherdref15_Table_Floor _ _ _ _ ?_
  unfold vc_sherdref15_Table_Floor
  refine H.new fun b4 w1 H => ⟨fun h => by simp at h, fun _ => call (finalized_r hl (H.take (refA q R))) ?_⟩
  rintro _ w2 ⟨s, rfl, H⟩
  have hsl : s.l = (sortD (fins (rsh R.rows k))).length := Cel.flen (enc := Tg.c) tag_len (H.cel (s := s)) (by decide)
  have hSl : (sortD (fins (rsh R.rows k))).length = (fins (rsh R.rows k)).length := (sortD_perm _).length_eq
  unfold floorI
  generalize sortD (fins (rsh R.rows k)) = S at *
  have H := ref_open (H.take (refA q R))
  refine ⟨_, rfl, _, rfl, _, H.cell (b := q) (i := 0) rfl, fun h => ?_, fun h => ?_⟩
  · have h0 : ¬ R.delta < ((fins (rsh R.rows k)).length : Int) := by simp only [decide_eq_true_eq] at h; omega
    rw [if_neg h0]
    exact H.stoAll (b := b4) (by rfl) fun w3 H => ⟨_, H.cell (b := b4) (i := 0) rfl, _, H.cell (b := b4) (i := 1) rfl, Rt.ok ⟨rfl, ref_close (((H.blk b4).drop.own s).drop)⟩⟩
  · have h0 : R.delta < ((fins (rsh R.rows k)).length : Int) := by simp only [decide_eq_false_iff_not] at h; omega
    rw [if_pos h0]
    have hi : R.delta.toNat < S.length := by omega
    have hx : S[R.delta.toNat]? = some S[R.delta.toNat] := List.getElem?_eq_getElem hi
    obtain ⟨a, ha, hc⟩ := tag_at (s := s) H hx
    rw [hx]
    generalize S[R.delta.toNat] = t at *
    exact ⟨_, H.cell (b := q) (i := 0) rfl, a, ha, hd, by omega, _, hc 0 _ rfl, _, hc 1 _ rfl, H.stoAll (b := b4) (by rfl) fun w3 H => ⟨_, H.cell (b := b4) (i := 0) rfl, _, H.cell (b := b4) (i := 1) rfl, Rt.ok ⟨rfl, ref_close (((H.blk b4).drop.own s).drop)⟩⟩⟩
theorem floor0_r {k : ByteArray} : Calls PP F_sherdref15_Table_Floor #[.pointer none, .string k] w (Rt fun v w' => v = Tg.v (0, 0) ∧ Fr [] w w') := by
  refine sim_sherdref15_Table_Floor _ _ _ _ ?_
  unfold vc_sherdref15_Table_Floor
  refine (Hp.start w).new fun b4 w1 H => ⟨fun _ => H.stoAll (b := b4) (by rfl) fun w3 H => ⟨_, H.cell (b := b4) (i := 0) rfl, _, H.cell (b := b4) (i := 1) rfl, Rt.ok ⟨rfl, H.fr⟩⟩, fun h => by simp at h⟩
end
end Go.Proofs.YtgnceldnfefnmaaGreat
