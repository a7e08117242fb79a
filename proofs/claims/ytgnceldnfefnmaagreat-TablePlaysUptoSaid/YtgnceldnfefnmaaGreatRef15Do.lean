/-
  Contracts of the document's table: what is done to it.
-/
import Derived.Test.YtgnceldnfefnmaaGreatRef15
namespace Go.Tab
open Go Go.Vc
section
variable {rows : List Rw} {k : ByteArray} {t : Tg}
theorem look_place (hn : ((rsh rows k).map (·.1)).Nodup) {i : Nat} {r : Rw} (h : rows[i]? = some r) (h1 : r.key = k) (h2 : r.e.tag = t) : lookE (rsh rows k) t = r.e := by
  have hm := rsh_mem (List.mem_of_getElem? h)
  rw [h1, h2] at hm
  exact lookE_of' hn hm
theorem not_place (h : ∀ r ∈ rows, ¬ (r.key = k ∧ r.e.tag = t)) : t ∉ (rsh rows k).map (·.1) := fun hm => by
  obtain ⟨x, hx, rfl⟩ := List.mem_map.1 hm
  have h2 := rsh_tag hx
  exact h _ h2.2 ⟨rfl, h2.1⟩
theorem look_not (h : t ∉ (rsh rows k).map (·.1)) : lookE (rsh rows k) t = zeroE := by
  unfold lookE
  cases hl : llook (rsh rows k) t with
  | none => rfl
  | some e => exact absurd (List.mem_map_of_mem (f := (·.1)) (llook_mem hl)) h
theorem row_split {i : Nat} {r : Rw} (h : rows[i]? = some r) : ∃ A B : List Value, A.length = i * 6 ∧ rows.flatMap Rw.c = A ++ (r.c ++ B) ∧ ∀ r', (rows.set i r').flatMap Rw.c = A ++ (r'.c ++ B) := by
  have hi := (List.getElem?_eq_some_iff.1 h).1
  have hr := (List.getElem?_eq_some_iff.1 h).2
  have hl : rows = rows.take i ++ r :: rows.drop (i + 1) := by rw [← hr, List.getElem_cons_drop, List.take_append_drop]
  refine ⟨(rows.take i).flatMap Rw.c, (rows.drop (i + 1)).flatMap Rw.c, ?_, ?_, fun r' => ?_⟩
  · rw [flat_len (fun r : Rw => (show r.c.length = 6 from rfl)), List.length_take]; congr 1; omega
  · conv => lhs; rw [hl]
    rw [List.flatMap_append, List.flatMap_cons]
  · rw [List.set_eq_take_append_cons_drop, if_pos hi, List.flatMap_append, List.flatMap_cons]
theorem setL_app : ∀ (vs A C : List Value) (j : Nat), setL (A ++ C) (A.length + j) vs = A ++ setL C j vs
  | [], _, _, _ => rfl
  | v :: r, A, C, j => by
    show setL ((A ++ C).set (A.length + j) v) (A.length + j + 1) r = A ++ setL (C.set j v) (j + 1) r
    rw [List.set_append_right _ _ (by omega), show A.length + j - A.length = j by omega, Nat.add_assoc, setL_app]
theorem row_set {i : Nat} {r : Rw} {e : Ec} (h : rows[i]? = some r) (hk : r.key = k) : setL (rows.flatMap Rw.c) (i * 6 + 1) e.c = (rows.set i ⟨k, e⟩).flatMap Rw.c := by
  obtain ⟨A, B, h1, h2, h3⟩ := row_split h
  rw [h2, h3, ← h1]
  subst hk
  rw [setL_app]
  rfl
theorem row_fin {i : Nat} {r : Rw} (h : rows[i]? = some r) : (rows.flatMap Rw.c).set (i * 6 + 3) (.bool true) = (rows.set i ⟨r.key, { r.e with fin := true }⟩).flatMap Rw.c := by
  obtain ⟨A, B, h1, h2, h3⟩ := row_split h
  rw [h2, h3, ← h1]
  simp [Rw.c, List.set_append_right]
theorem rows_perm {i : Nat} {r : Rw} (h : rows[i]? = some r) : ∃ rest, rows.Perm (r :: rest) ∧ ∀ r', (rows.set i r').Perm (r' :: rest) := by
  have hi := (List.getElem?_eq_some_iff.1 h).1
  have hr := (List.getElem?_eq_some_iff.1 h).2
  have hl : rows = rows.take i ++ r :: rows.drop (i + 1) := by rw [← hr, List.getElem_cons_drop, List.take_append_drop]
  refine ⟨rows.take i ++ rows.drop (i + 1), ?_, fun r' => ?_⟩
  · conv => lhs; rw [hl]
    exact List.perm_middle
  · rw [List.set_eq_take_append_cons_drop, if_pos hi]
    exact List.perm_middle
end
end Go.Tab
namespace Go.Proofs.YtgnceldnfefnmaaGreat
open Go Go.Vc Go.Vc.Asn Go.Tab Go.Sort
section
variable {q : Nat} {R : Rf} {T : Tc} {w0 w : World} {F : Asn}
set_option maxHeartbeats 2000000 in
theorem rpre_r {k : ByteArray} {t : Tg} {d : Slc} {bs : List UInt8} (hS : Sim R T) (hd : 0 ≤ R.delta) (hl : R.rows.length ≤ 274877906944) (hn : ((T.sh k).map (·.1)).Nodup) (hr : Rdy w0 F d bs) (hbl : bs.length ≤ 1099511627776) (H : Hp w0 w (star (refA q R) F)) :
    Calls PP F_sherdref15_Table_pre #[.pointer (some (blk q)), .string k, t.v, d.v] w (Rt fun v w' => ∃ b R' T', v = .bool b ∧ preR T k t bs T' b ∧ Sim R' T' ∧ R'.rows.length ≤ R.rows.length + 1 ∧ Hp w0 w' (star (refA q R') F)) := by
  refine sim_sherdref15_Table_pre _ _ _ _ _ _ _ ?_
  unfold vc_sherdref15_Table_pre
  rw [hS.sh] at hn
  have hok : preOk T k t = !((lookE (rsh R.rows k) t).has || ltT t (floorI R.delta (rsh R.rows k))) := by unfold preOk; rw [hS.sh, hS.delta]
  refine H.new fun b7 w1 H => ?_
  have H := H.drew 1
  refine ⟨_, H.cell (b := b7) (i := 0) rfl, _, H.cell (b := b7) (i := 1) rfl, call (floor_r (k := k) hd (by omega) (H.take (refA q R))) ?_⟩
  rintro _ w2 ⟨rfl, H⟩
  refine ⟨_, _, rfl, H.cell (b := b7) (i := 0) rfl, H.cell (b := b7) (i := 1) rfl, call (below_r t (floorI R.delta (rsh R.rows k)) _) ?_⟩
  rintro _ w3 ⟨rfl, f⟩
  have H := H.fr0 f
  refine ⟨_, rfl, fun hb => Rt.ok ⟨false, R, T, rfl, ⟨by rw [hok, hb]; simp, fun _ => rfl, fun h => nomatch h⟩, hS, by omega, (H.blk b7).drop⟩, fun hb => ⟨_, H.cell (b := b7) (i := 0) rfl, _, H.cell (b := b7) (i := 1) rfl, call (copied_r (e := ⟨t, false, true, d, bs⟩) (hr.at H) hbl) ?_⟩⟩
  rintro _ w4 ⟨s', rfl, K⟩
  have H := H.join K
  refine ⟨_, _, _, _, _, rfl, H.new fun b36 w5 H => H.stoAll (b := b36) (by rfl) fun w6 H => ⟨_, H.cell (b := b7) (i := 0) rfl, _, H.cell (b := b7) (i := 1) rfl, call (place_r (k := k) (t := t) (by omega) (H.take (refA q R))) ?_⟩⟩
  rintro _ w7 ⟨hp, H⟩
  have H := ref_open H
  have hrl := rows_l (R := R) H
  rcases hp with ⟨i, r, rfl, hx, hk, ht⟩ | ⟨rfl, hno⟩
  · have hlook := look_place hn hx hk ht
    have hi := (List.getElem?_eq_some_iff.1 hx).1
    refine ⟨_, rfl, fun h => by simp at h; omega, fun _ => ?_⟩
    obtain ⟨a, ha, hc⟩ := row_at (R := R) H hx
    have hz : ∀ (z : Addr) j, ((z.add (i * 6)).add 1).add j = (z.add (i * 6)).add (1 + j) := fun z j => add_add _ _ _
    rw [Int.toNat_natCast]
    refine ⟨_, rfl, _, H.cell (b := q) (i := 1) rfl, a, ha, by omega, by omega, _, by rw [hz]; exact hc 4 _ rfl, fun h => ?_, fun h => ?_⟩
    · refine Rt.ok ⟨false, R, T, rfl, ⟨by rw [hok, hlook, h]; simp, fun _ => rfl, fun h => nomatch h⟩, hS, by omega, ?_⟩
      have H := ((((H.blk b36).drop.own s').drop).blk b7).drop
      exact ref_close H
    · refine ⟨_, H.cell (b := q) (i := 1) rfl, a, ha, by omega, by omega, _, by rw [hz]; exact hc 3 _ rfl, H.sto (b := b36) (i := 2) (by show 2 < 5; decide) fun w8 H => ?_⟩
      have H := H.drew 1
      refine ⟨_, H.cell (b := q) (i := 1) rfl, _, H.cell (b := b36) (i := 0) rfl, _, H.cell (b := b36) (i := 1) rfl, _, H.cell (b := b36) (i := 2) rfl, _, H.cell (b := b36) (i := 3) rfl, _, H.cell (b := b36) (i := 4) rfl, a, ha, by omega, by omega, ?_⟩
      rw [add_add]
      refine Hp.stoNOwn ha (Ec.c ⟨t, r.e.fin, true, s', bs⟩) (i * 6 + 1) 0 _ _ (by rw [flat_len row_len]; show i * 6 + 1 + 0 + 5 ≤ _; omega) (H.own R.s) fun w9 H => ?_
      rw [Nat.add_zero (i * 6 + 1), row_set hx hk] at H
      refine Rt.ok ⟨true, ⟨R.delta, R.s, R.rows.set i ⟨k, ⟨t, r.e.fin, true, s', bs⟩⟩⟩, preT T k t bs 0 s', rfl, ⟨by rw [hok, hlook, h, hb]; rfl, (fun h => nomatch h), fun _ => ⟨0, s', rfl⟩⟩, ⟨hS.delta, fun k' => ?_⟩, by simp, ?_⟩
      · unfold preT
        rw [Tc.sh_put, hS.sh, hS.sh, hlook]
        exact (rsh_set (e := ⟨t, r.e.fin, true, s', bs⟩) hx hk ht hn).symm
      · obtain ⟨rest, p1, p2⟩ := rows_perm hx
        refine ref_close ?_
        have H := (((H.blk b36).drop).blk b7).drop
        have H := ((H.take (all rowA R.rows)).ent (Ent.star (all_perm p1) (Ent.refl _))).assoc.drop
        have H := ((H.own s').ent (Ent.star (Ent.refl _) (Ent.pick (P := all rowA rest) (Ent.refl _)))).assoc'
        have p3 : Ent (star (rowA ⟨k, ⟨t, r.e.fin, true, s', bs⟩⟩) (all rowA rest)) (all rowA (R.rows.set i ⟨k, ⟨t, r.e.fin, true, s', bs⟩⟩)) := all_perm (p2 _).symm
        have H := H.ent (Ent.star p3 (Ent.refl _))
        refine H.ent ?_
        exact Ent.pick (P := refB q R) (Ent.pick (P := own Ty_sherdref15_Row 6 R.s _) (Ent.refl _))
  · have hnp := not_place hno
    have hlook := look_not hnp
    refine ⟨_, rfl, fun _ => ?_, fun h => by simp at h⟩
    have H := H.drew 1
    refine ⟨_, rfl, _, H.cell (b := q) (i := 1) rfl, _, H.cell (b := b36) (i := 0) rfl, _, H.cell (b := b36) (i := 1) rfl, _, H.cell (b := b36) (i := 2) rfl, _, H.cell (b := b36) (i := 3) rfl, _, H.cell (b := b36) (i := 4) rfl, H.newRow (e := Ty_sherdref15_Row) (n := 1) (size := 6) (Rw.c ⟨k, ⟨t, false, true, s', bs⟩⟩) rfl rfl (by decide) fun b65 w8 H => ⟨H.cell (b := q) (i := 1) rfl, ?_⟩⟩
    refine H.app (s := R.s) slT_sl_sherdref15_Row (H.cel (s := ⟨some (blk b65), 1, 1⟩)) (fun u hu => one_row [⟨k, ⟨t, false, true, s', bs⟩⟩] u (by simpa using hu)) (by unfold maxLen; simp only; omega) (by simp only; omega) fun s2 w9 H _ => ?_
    refine H.sto (b := q) (i := 1) (by show 1 < 2; decide) fun w10 H => ?_
    refine Rt.ok ⟨true, ⟨R.delta, s2, R.rows ++ [⟨k, ⟨t, false, true, s', bs⟩⟩]⟩, preT T k t bs 0 s', rfl, ⟨by rw [hok, hlook, hb]; rfl, (fun h => nomatch h), fun _ => ⟨0, s', rfl⟩⟩, ⟨hS.delta, fun k' => ?_⟩, by simp, ?_⟩
    · unfold preT
      rw [Tc.sh_put, hS.sh, hS.sh, hlook]
      exact (rsh_new (e := ⟨t, false, true, s', bs⟩) hnp).symm
    · have H := (((((H.own ⟨some (blk b65), 1, 1⟩).drop).blk b36).drop).blk b7).drop
      have H := ((H.own s').ent (Ent.star (Ent.refl _) (Ent.pick (P := all rowA R.rows) (Ent.refl _)))).assoc'
      have H := H.ent (Ent.star (all_snoc rowA ⟨k, ⟨t, false, true, s', bs⟩⟩ R.rows) (Ent.refl _))
      refine ref_close ?_
      have eF : ∀ r' : Rw, (R.rows ++ [r']).flatMap Rw.c = R.rows.flatMap Rw.c ++ r'.c := fun r' => by simp
      unfold refC
      rw [eF]
      exact (H.own s2).blk q
theorem sh_put0 (T : Tc) (k : ByteArray) (t : Tg) (k' : ByteArray) : (Go.Tab.finT T k t 0).sh k' = if k' = k then cutS T.delta (finS (T.sh k) t) else T.sh k' := by unfold Go.Tab.finT; rw [Tc.sh_put]
def Plc (rows : List Rw) (k : ByteArray) (t : Tg) (i : Int) : Prop := (∃ (n : Nat) (r : Rw), i = (n : Int) ∧ rows[n]? = some r ∧ r.key = k ∧ r.e.tag = t) ∨ (i = -1 ∧ ∀ r ∈ rows, ¬ (r.key = k ∧ r.e.tag = t))
theorem place_p {k : ByteArray} {t : Tg} (hl : R.rows.length ≤ 1099511627776) (H : Hp w0 w (star (refA q R) F)) :
    Calls PP F_sherdref15_Table_place #[.pointer (some (blk q)), .string k, t.v] w (Rt fun v w' => ∃ i, v = .int .i64 i ∧ Plc R.rows k t i ∧ Hp w0 w' (star (refA q R) F)) := by
  refine Rt.mono (place_r hl H) ?_
  rintro v w' ⟨⟨i, r, rfl, h⟩ | ⟨rfl, h⟩, H⟩
  · exact ⟨_, rfl, .inl ⟨i, r, rfl, h⟩, H⟩
  · exact ⟨_, rfl, .inr ⟨rfl, h⟩, H⟩
theorem all_fin {rows : List Rw} {n : Nat} {r : Rw} {k : ByteArray} (hx : rows[n]? = some r) : Ent (all rowA rows) (all rowA (rows.set n ⟨k, { r.e with fin := true }⟩)) := by
  obtain ⟨rest, p1, p2⟩ := rows_perm hx
  have h2 : Ent (star (rowA ⟨k, { r.e with fin := true }⟩) (all rowA rest)) (all rowA (rows.set n ⟨k, { r.e with fin := true }⟩)) := all_perm (p2 _).symm
  exact (all_perm p1).trans h2
set_option maxHeartbeats 2000000 in
theorem rfin_r {k : ByteArray} {t : Tg} (hS : Sim R T) (hd : 0 ≤ R.delta) (hl : R.rows.length ≤ 274877906944) (hn : ((T.sh k).map (·.1)).Nodup) (H : Hp w0 w (star (refA q R) F)) :
    Calls PP F_sherdref15_Table_fin #[.pointer (some (blk q)), .string k, t.v] w (Rt fun v w' => ∃ b R' T', v = .bool b ∧ finR T k t T' b ∧ Sim R' T' ∧ R'.rows.length ≤ R.rows.length + 1 ∧ Hp w0 w' (star (refA q R') F)) := by
  refine sim_sherdref15_Table_fin _ _ _ _ _ _ ?_
  unfold vc_sherdref15_Table_fin
  rw [hS.sh] at hn
  have hok : finOk T k t = !((lookE (rsh R.rows k) t).fin || ltT t (floorI R.delta (rsh R.rows k))) := by unfold finOk; rw [hS.sh, hS.delta]
  refine H.new fun b6 w1 H => call (place_p (k := k) (t := t) (by omega) (H.take (refA q R))) ?_
  rintro _ w2 ⟨pi, rfl, hp, H⟩
  refine ⟨_, rfl, fun b w' => b = !(finOk T k t) ∧ Hp w0 w' (star (bk b6 Ty_api_Tag #[.int .i64 t.1, .int .i64 t.2]) (star (refB q R) (star (refC R) (star (all rowA R.rows) F)))), ?_, ?_⟩
  · have H := H.drew 1
    refine ⟨_, H.cell (b := b6) (i := 0) rfl, _, H.cell (b := b6) (i := 1) rfl, call (floor_r (k := k) hd (by omega) (H.take (refA q R))) ?_⟩
    rintro _ w3 ⟨rfl, H⟩
    refine ⟨_, _, rfl, H.cell (b := b6) (i := 0) rfl, H.cell (b := b6) (i := 1) rfl, call (below_r t (floorI R.delta (rsh R.rows k)) _) ?_⟩
    rintro _ w4 ⟨rfl, f⟩
    have H := ref_open (H.fr0 f)
    have hrl := rows_l (R := R) H
    refine ⟨_, rfl, fun hb => ⟨by rw [hok, hb]; simp, H.blk b6⟩, fun hb => ⟨fun h => ?_, fun h => ?_⟩⟩
    · rcases hp with ⟨n, r, rfl, hx, hk, ht⟩ | ⟨rfl, _⟩
      · have hi := (List.getElem?_eq_some_iff.1 hx).1
        obtain ⟨a, ha, hc⟩ := row_at (R := R) H hx
        have hz : ∀ (z : Addr) j, ((z.add (n * 6)).add 1).add j = (z.add (n * 6)).add (1 + j) := fun z j => add_add _ _ _
        refine ⟨_, rfl, _, H.cell (b := q) (i := 1) rfl, a, ha, by omega, by omega, _, by rw [Int.toNat_natCast, hz]; exact hc 3 _ rfl, ?_, H.blk b6⟩
        rw [hok, hb, look_place hn hx hk ht]
        simp
      · simp at h
    · rcases hp with ⟨n, r, rfl, hx, hk, ht⟩ | ⟨rfl, hno⟩
      · simp at h <;> omega
      · refine ⟨?_, H.blk b6⟩
        rw [hok, hb, look_not (not_place hno)]
        rfl
  rintro b w3 ⟨rfl, H⟩
  refine ⟨fun hb => Rt.ok ⟨false, R, T, rfl, ⟨by simpa using hb.symm, fun _ => rfl, fun h => nomatch h⟩, hS, by omega, ref_close H.drop⟩, fun hb => ?_⟩
  have hok2 : finOk T k t = true := by simpa using hb
  have hrl := rows_l (R := R) H
  refine ⟨fun i w' => ∃ (n : Nat) (R1 : Rf) (r : Rw), i = (n : Int) ∧ R1.delta = R.delta ∧ R1.rows[n]? = some r ∧ r.key = k ∧ (∀ k', rsh (R1.rows.set n ⟨k, { r.e with fin := true }⟩) k' = if k' = k then finS (rsh R.rows k) t else rsh R.rows k') ∧ R1.rows.length ≤ R.rows.length + 1 ∧ Hp w0 w' (star (bk b6 Ty_api_Tag #[.int .i64 t.1, .int .i64 t.2]) (star (refB q R1) (star (refC R1) (star (all rowA R1.rows) F)))), ⟨fun h => ?_, fun h => ?_⟩, ?_⟩
  · rcases hp with ⟨n, r, rfl, hx, hk, ht⟩ | ⟨rfl, hno⟩
    · simp at h; omega
    have hnp := not_place hno
    have hlook := look_not hnp
    have H := H.drew 1
    refine ⟨_, rfl, _, H.cell (b := q) (i := 1) rfl, _, H.cell (b := b6) (i := 0) rfl, _, H.cell (b := b6) (i := 1) rfl, H.newRow (e := Ty_sherdref15_Row) (n := 1) (size := 6) (Rw.c ⟨k, ⟨t, false, false, Slc.nil, []⟩⟩) rfl rfl (by decide) fun b65 w8 H => ⟨H.cell (b := q) (i := 1) rfl, ?_⟩⟩
    refine H.app (s := R.s) slT_sl_sherdref15_Row (H.cel (s := ⟨some (blk b65), 1, 1⟩)) (fun u hu => one_row [⟨k, ⟨t, false, false, Slc.nil, []⟩⟩] u (by simpa using hu)) (by unfold maxLen; simp only; omega) (by simp only; omega) fun s2 w9 H hs2 => ?_
    simp only at hs2
    refine H.sto (b := q) (i := 1) (by show 1 < 2; decide) fun w10 H => ⟨s2, H.cell (b := q) (i := 1) rfl, R.rows.length, ⟨R.delta, s2, R.rows ++ [⟨k, ⟨t, false, false, Slc.nil, []⟩⟩]⟩, ⟨k, ⟨t, false, false, Slc.nil, []⟩⟩, ?_, rfl, by simp, rfl, fun k' => ?_, by simp, ?_⟩
    · rw [hs2, hrl, wr64 (by omega) (by omega)]; omega
    · rw [List.set_append_right _ _ (Nat.le_refl _), Nat.sub_self]
      show rsh (R.rows ++ [⟨k, ⟨t, true, false, Slc.nil, []⟩⟩]) k' = _
      rw [rsh_new (e := ⟨t, true, false, Slc.nil, []⟩) hnp]
      unfold finS
      rw [hlook]
      rfl
    · have H := (H.own ⟨some (blk b65), 1, 1⟩).drop
      have H := (H.nilRow Ty_uint8 1)
      have H := (H.ent (Ent.star (Ent.refl _) (Ent.pick (P := all rowA R.rows) (Ent.refl _)))).assoc'
      have H := H.ent (Ent.star (all_snoc rowA ⟨k, ⟨t, false, false, Slc.nil, []⟩⟩ R.rows) (Ent.refl _))
      have eF : ∀ r' : Rw, (R.rows ++ [r']).flatMap Rw.c = R.rows.flatMap Rw.c ++ r'.c := fun r' => by simp
      unfold refC
      rw [eF]
      exact ((H.own s2).blk q).blk b6
  · rcases hp with ⟨n, r, rfl, hx, hk, ht⟩ | ⟨rfl, hno⟩
    · refine ⟨n, R, r, rfl, rfl, hx, hk, fun k' => ?_, by omega, H⟩
      rw [rsh_set (e := { r.e with fin := true }) hx hk rfl hn]
      have hl2 := look_place hn hx hk ht
      unfold finS
      rw [hl2]
      subst ht
      rfl
    · simp at h
  rintro _ w4 ⟨n, R1, r, rfl, hd1, hx, hk, hsh, hl1, H⟩
  have hi := (List.getElem?_eq_some_iff.1 hx).1
  obtain ⟨a, ha, hc⟩ := row_at (R := R1) H hx
  have hrl1 := rows_l (R := R1) H
  refine ⟨_, rfl, _, H.cell (b := q) (i := 1) rfl, a, ha, by omega, by omega, ?_⟩
  rw [Int.toNat_natCast, add_add, add_add]
  show Sto w4 (a.add (n * 6 + 3)) _ _
  refine (H.own R1.s).stoS (s := R1.s) (i := n * 6 + 3) (by rw [flat_len row_len]; omega) ha fun w5 H => ?_
  rw [row_fin hx, hk] at H
  have hl2 : (R1.rows.set n ⟨k, { r.e with fin := true }⟩).length = R1.rows.length := by simp
  have hall := all_fin (k := k) hx
  have H := (H.take (all rowA R1.rows)).ent (Ent.star hall (Ent.refl _))
  generalize R1.rows.set n ⟨k, { r.e with fin := true }⟩ = rows2 at *
  have H : Hp w0 w5 (star (refA q ⟨R1.delta, R1.s, rows2⟩) (star (bk b6 Ty_api_Tag #[.int .i64 t.1, .int .i64 t.2]) F)) := ref_close (R := ⟨R1.delta, R1.s, rows2⟩) (H.ent (Ent.pick (P := refB q R1) (Ent.pick (P := own Ty_sherdref15_Row 6 R1.s (rows2.flatMap Rw.c)) (Ent.pick (P := all rowA rows2) (Ent.refl _)))))
  refine call (floor_r (R := ⟨R1.delta, R1.s, rows2⟩) (k := k) (by rw [hd1]; exact hd) (by show rows2.length ≤ _; omega) H) ?_
  rintro _ w6 ⟨rfl, H⟩
  have hsk := hsh k
  rw [if_pos rfl] at hsk
  simp only [hsk, hd1]
  obtain ⟨fr, hfr⟩ : ∃ fr, fr = floorI R.delta (finS (rsh R.rows k) t) := ⟨_, rfl⟩
  rw [← hfr]
  refine ⟨_, _, rfl, H.new fun b38 w7 H => H.stoAll (b := b38) (by rfl) fun w8 H => ?_⟩
  have H := ref_open (H.take (refA q ⟨R1.delta, R1.s, rows2⟩))
  refine ⟨_, H.cell (b := q) (i := 1) rfl, ?_⟩
  have hrl2 : R1.s.l = rows2.length := rows_l (R := ⟨R1.delta, R1.s, rows2⟩) H
  refine ⟨fun l i w' => ∃ m : Nat, i = (m : Int) ∧ m ≤ rows2.length ∧ Hp w0 w' (star (own Ty_sherdref15_Row 6 l (((rows2.take m).filter fun r => !decide (r.key = k) || !ltT r.e.tag fr).flatMap Rw.c)) (star (all rowA ((rows2.take m).filter fun r => !decide (r.key = k) || !ltT r.e.tag fr)) (star (refB q R1) (star (own Ty_sherdref15_Row 6 R1.s (rows2.flatMap Rw.c)) (star (all rowA (rows2.drop m)) (star (bk b38 Ty_api_Tag #[.int .i64 fr.1, .int .i64 fr.2]) F)))))), fun _ i _ => rows2.length - i.toNat, ⟨0, rfl, Nat.zero_le _, ?_⟩, ?_⟩
  · have H := (H.blk b6).drop
    have H := (H.ent emp_l).nilRow Ty_sherdref15_Row 6
    refine H.ent (Ent.star (Ent.refl _) (Ent.star (Ent.refl _) ?_))
    exact Ent.pick (P := refB q R1) (Ent.pick (P := own Ty_sherdref15_Row 6 R1.s _) (Ent.pick (P := all rowA rows2) (Ent.refl _)))
  rintro l _ w9 ⟨m, rfl, hm, H⟩
  obtain ⟨P, hP⟩ : ∃ P : Rw → Bool, P = fun r => !decide (r.key = k) || !ltT r.e.tag fr := ⟨_, rfl⟩
  rw [← hP] at H ⊢
  have hfl : ((rows2.take m).filter P).length ≤ m := by
    have := List.length_filter_le P (rows2.take m)
    rw [List.length_take] at this
    omega
  have hll : l.l = ((rows2.take m).filter P).length := Cel.flen (enc := Rw.c) row_len (H.cel (s := l)) (by decide)
  refine ⟨fun h => ?_, fun h => ?_⟩
  · have hlt : m < rows2.length := by rw [hrl2] at h; simp only [decide_eq_true_eq] at h; omega
    have hxm : rows2[m]? = some rows2[m] := List.getElem?_eq_getElem hlt
    have htk : rows2.take (m + 1) = rows2.take m ++ [rows2[m]] := by rw [List.take_succ_eq_append_getElem hlt]
    have hdr : rows2.drop m = rows2[m] :: rows2.drop (m + 1) := List.drop_eq_getElem_cons hlt
    obtain ⟨a, ha, hc⟩ := Cel.elem (enc := Rw.c) row_len (H.cel (s := R1.s)) hxm (by decide)
    have ewr : wr .i64 ((m : Int) + 1) = ((m + 1 : Nat) : Int) := by rw [wr64 (by omega) (by omega)]; omega
    rw [hdr] at H
    generalize rows2[m] = r2 at *
    refine ⟨fun l w' => Hp w0 w' (star (own Ty_sherdref15_Row 6 l (((rows2.take (m + 1)).filter P).flatMap Rw.c)) (star (all rowA ((rows2.take (m + 1)).filter P)) (star (refB q R1) (star (own Ty_sherdref15_Row 6 R1.s (rows2.flatMap Rw.c)) (star (all rowA (rows2.drop (m + 1))) (star (bk b38 Ty_api_Tag #[.int .i64 fr.1, .int .i64 fr.2]) F)))))), ?_, fun l w10 H => ⟨⟨m + 1, by rw [ewr], by omega, H⟩, by dsimp only; rw [ewr]; omega⟩⟩
    rw [htk, List.filter_append]
    refine ⟨a, ha, by omega, by show (m : Int) < (R1.s.l : Int); omega, _, hc 0 _ rfl, _, hc 1 _ rfl, _, hc 2 _ rfl, _, hc 3 _ rfl, _, hc 4 _ rfl, _, hc 5 _ rfl, H.new fun b77 w10 H => H.stoAll (b := b77) (by rfl) fun w11 H => ?_⟩
    refine ⟨_, H.cell (b := b77) (i := 0) rfl, fun x w' => x = P r2 ∧ Hp w0 w' (star (bk b77 Ty_sherdref15_Row r2.c.toArray) (star (own Ty_sherdref15_Row 6 l (((rows2.take m).filter P).flatMap Rw.c)) (star (all rowA ((rows2.take m).filter P)) (star (refB q R1) (star (own Ty_sherdref15_Row 6 R1.s (rows2.flatMap Rw.c)) (star (all rowA (r2 :: rows2.drop (m + 1))) (star (bk b38 Ty_api_Tag #[.int .i64 fr.1, .int .i64 fr.2]) F))))))), ⟨fun h1 => ?_, fun h1 => ?_⟩, ?_⟩
    · have h1 : r2.key = k := by simpa [str_iff] using h1
      refine ⟨_, H.cell3 (b := b77) (i := 1) (j := 0) (l := 0) rfl, _, H.cell3 (b := b77) (i := 1) (j := 0) (l := 1) rfl, _, H.cell (b := b38) (i := 0) rfl, _, H.cell (b := b38) (i := 1) rfl, call (below_r r2.e.tag fr _) ?_⟩
      rintro _ w12 ⟨rfl, f⟩
      exact ⟨_, rfl, by rw [hP]; simp [h1], H.fr0 f⟩
    · have h1 : ¬ r2.key = k := by simpa [str_iff] using h1
      exact ⟨by rw [hP]; simp [h1], H⟩
    rintro _ w12 ⟨rfl, H⟩
    refine ⟨fun h1 => ?_, fun h1 => ?_⟩
    · refine ⟨_, H.cell (b := b77) (i := 0) rfl, _, H.cell (b := b77) (i := 1) rfl, _, H.cell (b := b77) (i := 2) rfl, _, H.cell (b := b77) (i := 3) rfl, _, H.cell (b := b77) (i := 4) rfl, _, H.cell (b := b77) (i := 5) rfl, H.newRow (e := Ty_sherdref15_Row) (n := 1) (size := 6) r2.c rfl rfl (by decide) fun b116 w13 H => ?_⟩
      refine H.app (s := l) slT_sl_sherdref15_Row (H.cel (s := ⟨some (blk b116), 1, 1⟩)) (fun u hu => one_row [r2] u (by simpa using hu)) (by unfold maxLen; simp only; omega) (by simp only; omega) fun l2 w14 H _ => ?_
      have H := ((H.own ⟨some (blk b116), 1, 1⟩).drop.blk b77).drop
      have H := (H.take (all rowA (r2 :: rows2.drop (m + 1))))
      have H : Hp w0 w14 (star (star (rowA r2) (all rowA (rows2.drop (m + 1)))) _) := H
      have H := H.assoc
      have H := (H.ent (Ent.star (Ent.refl _) (Ent.pick (P := all rowA ((rows2.take m).filter P)) (Ent.refl _)))).assoc'
      have H := H.ent (Ent.star (all_snoc rowA r2 ((rows2.take m).filter P)) (Ent.refl _))
      have e2 : [r2].filter P = [r2] := by simp [h1]
      have eF : ∀ (A : List Rw) (r' : Rw), (A ++ [r']).flatMap Rw.c = A.flatMap Rw.c ++ r'.c := fun A r' => by simp
      rw [e2, eF]
      refine H.ent ?_
      exact Ent.pick (P := own Ty_sherdref15_Row 6 l2 _) (Ent.pick (P := all rowA _) (Ent.pick (P := refB q R1) (Ent.pick (P := own Ty_sherdref15_Row 6 R1.s _) (Ent.pick (P := all rowA (rows2.drop (m + 1))) (Ent.refl _)))))
    · have e2 : [r2].filter P = [] := by simp [h1]
      rw [e2, List.append_nil]
      have H := H.drop
      have H := (H.take (all rowA (r2 :: rows2.drop (m + 1))))
      have H : Hp w0 w12 (star (star (rowA r2) (all rowA (rows2.drop (m + 1)))) _) := H
      have H := H.assoc.drop
      refine H.ent ?_
      exact Ent.pick (P := own Ty_sherdref15_Row 6 l _) (Ent.pick (P := all rowA _) (Ent.pick (P := refB q R1) (Ent.pick (P := own Ty_sherdref15_Row 6 R1.s _) (Ent.pick (P := all rowA (rows2.drop (m + 1))) (Ent.refl _)))))
  · have hme : m = rows2.length := by rw [hrl2] at h; simp only [decide_eq_false_iff_not] at h; omega
    subst hme
    rw [List.take_length] at H hfl
    refine H.sto (b := q) (i := 1) (by show 1 < 2; decide) fun w10 H => ?_
    refine Rt.ok ⟨true, ⟨R1.delta, l, rows2.filter P⟩, Go.Tab.finT T k t 0, rfl, ⟨hok2.symm, (fun h => nomatch h), fun _ => ⟨0, rfl⟩⟩, ⟨by rw [show (Go.Tab.finT T k t 0).delta = T.delta from rfl, hS.delta, ← hd1], fun k' => ?_⟩, ?_, ?_⟩
    · rw [sh_put0, hS.sh, hS.sh, hS.delta]
      show _ = rsh (rows2.filter P) k'
      rw [hP, rsh_filter (p := fun t => !ltT t fr), hsk, hsh k']
      unfold cutS
      rw [← hfr]
      by_cases hk' : k' = k <;> simp [hk']
    · show (rows2.filter P).length ≤ _
      omega
    · refine ref_close ?_
      have H := ((((H.take (all rowA (rows2.drop rows2.length))).drop).own R1.s).drop.blk b38).drop
      exact ((H.take (all rowA (rows2.filter P))).own l).blk q
end
end Go.Proofs.YtgnceldnfefnmaaGreat
