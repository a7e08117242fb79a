/-
  Contracts of the document's table: updates, copies.
-/
import Derived.Test.YtgnceldnfefnmaaGreatRef15Do
namespace Go.Tab
open Go Go.Vc
theorem preR.nd {T T' : Tc} {k : ByteArray} {t : Tg} {bs : List UInt8} {b : Bool} (h : preR T k t bs T' b) (hn : ∀ k, ((T.sh k).map (·.1)).Nodup) : ∀ k, ((T'.sh k).map (·.1)).Nodup := fun k' => by
  obtain ⟨_, h1, h2⟩ := h
  cases b with
  | false => rw [h1 rfl]; exact hn k'
  | true =>
    obtain ⟨g, s, rfl⟩ := h2 rfl
    unfold preT
    rw [Tc.sh_put]
    split
    · exact lput_keys _ (hn k) _ _
    · exact hn k'
def absR (rows : List Rw) : List (ByteArray × En) := rows.map fun r => (r.key, r.e.abs)
theorem rsh_absR : ∀ {a b : List Rw}, absR a = absR b → ∀ k, (rsh a k).map (fun x => (x.1, x.2.abs)) = (rsh b k).map (fun x => (x.1, x.2.abs))
  | [], [], _, _ => rfl
  | [], y :: s, h, _ => by simp [absR] at h
  | x :: r, [], h, _ => by simp [absR] at h
  | x :: r, y :: s, h, k => by
    have h : (x.key, x.e.abs) :: absR r = (y.key, y.e.abs) :: absR s := h
    injection h with h0 h3
    injection h0 with h1 h2
    have h4 : x.e.tag = y.e.tag := congrArg En.tag h2
    rw [rsh_cons, rsh_cons, h1]
    split
    · rw [List.map_cons, List.map_cons, rsh_absR h3 k, h4, h2]
    · exact rsh_absR h3 k
theorem same_of {l l' : Sc} (h : l'.map (fun x => (x.1, x.2.abs)) = l.map (fun x => (x.1, x.2.abs))) : Same l l' := by
  have h1 : l'.map (·.1) = l.map (·.1) := by
    have := congrArg (List.map Prod.fst) h
    rw [List.map_map, List.map_map] at this
    exact this
  refine ⟨by rw [h1], fun z hz => ?_⟩
  have h2 : (z.1, z.2.abs) ∈ l.map (fun x => (x.1, x.2.abs)) := h ▸ List.mem_map_of_mem (f := fun x : Tg × Ec => (x.1, x.2.abs)) hz
  obtain ⟨y, hy, e⟩ := List.mem_map.1 h2
  injection e with e1 e2
  exact ⟨y, hy, e1, e2⟩
def simC (T : Tc) (rows : List Rw) : Tc := { T with keys := T.keys.map fun y => (y.1, y.2.1, rsh rows y.1) }
theorem simC_sh {T : Tc} {R : Rf} {rows : List Rw} (hS : Sim R T) (h : absR rows = absR R.rows) (k : ByteArray) : (simC T rows).sh k = rsh rows k := by
  have h1 : ∀ l : List (ByteArray × Nat × Sc), llook (l.map fun y => (y.1, y.2.1, rsh rows y.1)) k = (llook l k).map fun y => (y.1, rsh rows k) := fun l => by
    induction l with
    | nil => rfl
    | cons y r ih =>
      rw [List.map_cons, llook_cons, llook_cons, ih]
      by_cases hy : y.1 = k
      · rw [if_pos hy, if_pos hy, ← hy]; rfl
      · rw [if_neg hy, if_neg hy]
  unfold simC Tc.sh
  simp only [h1]
  cases hl : llook T.keys k with
  | some y => rfl
  | none =>
    have h2 := hS.sh k
    unfold Tc.sh at h2
    rw [hl] at h2
    have h3 := congrArg List.length (rsh_absR h k)
    rw [List.length_map, List.length_map, ← h2] at h3
    exact (List.length_eq_zero_iff.1 h3).symm
theorem simC_same {T : Tc} {R : Rf} {rows : List Rw} (hS : Sim R T) (hk : (T.keys.map (·.1)).Nodup) (h : absR rows = absR R.rows) : SameT T (simC T rows) := by
  refine ⟨rfl, ?_, fun z hz => ?_⟩
  · unfold simC
    rw [List.map_map]
    exact List.Perm.refl _
  · obtain ⟨y, hy, rfl⟩ := List.mem_map.1 hz
    refine ⟨y, hy, rfl, ?_⟩
    rw [← sh_of hk hy, hS.sh]
    exact same_of (rsh_absR h y.1)
end Go.Tab
namespace Go.Proofs.YtgnceldnfefnmaaGreat
open Go Go.Vc Go.Vc.Asn Go.Tab Go.Sort
section
variable {q : Nat} {R : Rf} {T : Tc} {w0 w : World} {F : Asn}
theorem rapply0_r {u : Upt} : Calls PP F_sherdref15_Table_Apply #[.pointer none, .agg u.c.toArray] w (Rt fun v w' => v = .tuple #[.bool false, .int .i64 0] ∧ Fr [] w w') := by
  refine sim_sherdref15_Table_Apply _ _ _ _ _ _ _ _ _ _ ?_
  unfold vc_sherdref15_Table_Apply
  exact (Hp.start w).new fun b10 w1 H => ⟨fun _ => Rt.ok ⟨rfl, H.fr⟩, fun h => by simp at h⟩
set_option maxHeartbeats 1000000 in
theorem rapply_r {u : Upt} (hS : Sim R T) (hd : 0 ≤ R.delta) (hl : R.rows.length ≤ 137438953472) (hn : ∀ k, ((T.sh k).map (·.1)).Nodup) (hr : Rdy w0 F u.s u.data) (hbl : u.data.length ≤ 1099511627776) (H : Hp w0 w (star (refA q R) F)) :
    Calls PP F_sherdref15_Table_Apply #[.pointer (some (blk q)), .agg u.c.toArray] w (Rt fun v w' => ∃ R' T' b e, v = .tuple #[.bool b, .int .i64 e] ∧ apR T u T' b e ∧ Sim R' T' ∧ R'.rows.length ≤ R.rows.length + 2 ∧ Hp w0 w' (star (refA q R') F)) := by
  refine sim_sherdref15_Table_Apply _ _ _ _ _ _ _ _ _ _ ?_
  unfold vc_sherdref15_Table_Apply
  refine H.new fun b10 w1 H => ⟨fun h => by simp at h, fun _ => call (may_r (hr.at H).len) ?_⟩
  rintro _ w2 ⟨rfl, f⟩
  have H := H.fr0 f
  refine ⟨_, rfl, fun hm => Rt.ok ⟨R, T, _, _, rfl, .inl ⟨by simpa using hm, rfl, rfl, rfl⟩, hS, by omega, H.drop⟩, fun hm => ?_⟩
  have hm : mayB u = true := by simpa using hm
  refine ⟨fun b w' => ∃ R1 T1, (if comesB u then preR T u.key u.tag u.data T1 b else T1 = T ∧ b = false) ∧ Sim R1 T1 ∧ R1.rows.length ≤ R.rows.length + 1 ∧ Hp w0 w' (star (bk b10 Ty_api_Update u.c.toArray) (star (refA q R1) F)), ⟨_, H.cell (b := b10) (i := 0) rfl, comesB u, fun h => ⟨_, H.cell (b := b10) (i := 0) rfl, decide (u.kind = 3) && u.has, fun h2 => ⟨_, H.cell2 (b := b10) (i := 2) (j := 3) rfl, by rw [h2]; rfl⟩, fun h2 => by rw [h2]; rfl, by unfold comesB; rw [h]; rfl⟩, fun h => by unfold comesB; rw [h]; rfl, fun hc => ?_, fun hc => ⟨R, T, by rw [hc]; exact ⟨rfl, rfl⟩, hS, by omega, H⟩⟩, ?_⟩
  · refine ⟨_, H.cell (b := b10) (i := 1) rfl, _, H.cell3 (b := b10) (i := 2) (j := 0) (l := 0) rfl, _, H.cell3 (b := b10) (i := 2) (j := 0) (l := 1) rfl, _, H.cell2 (b := b10) (i := 2) (j := 4) rfl, call (rpre_r (d := u.s) hS hd (by omega) (hn _) (Rdy.under hr) hbl (H.take (refA q R))) ?_⟩
    rintro _ w3 ⟨b, R1, T1, rfl, hp, hS1, hl1, H⟩
    exact ⟨_, rfl, R1, T1, by rw [hc]; exact hp, hS1, hl1, H.blk b10⟩
  rintro b1 w3 ⟨R1, T1, h1, hS1, hl1, H⟩
  have hd1 : T1.delta = T.delta := by
    split at h1
    · exact h1.delta
    · rw [h1.1]
  have hd2 : R1.delta = R.delta := by rw [← hS1.delta, hd1, hS.delta]
  have hn1 : ∀ k, ((T1.sh k).map (·.1)).Nodup := by
    split at h1
    · exact h1.nd hn
    · rw [h1.1]; exact hn
  refine ⟨fun b w' => ∃ R' T' b2, (if endsB u then finR T1 u.key u.tag T' b2 else T' = T1 ∧ b2 = false) ∧ b = (b1 || b2) ∧ Sim R' T' ∧ R'.rows.length ≤ R.rows.length + 2 ∧ Hp w0 w' (star (bk b10 Ty_api_Update u.c.toArray) (star (refA q R') F)), ⟨_, H.cell (b := b10) (i := 0) rfl, endsB u, fun h => ⟨_, H.cell (b := b10) (i := 0) rfl, decide (u.kind = 3) && u.fin, fun h2 => ⟨_, H.cell2 (b := b10) (i := 2) (j := 2) rfl, by rw [h2]; rfl⟩, fun h2 => by rw [h2]; rfl, by unfold endsB; rw [h]; rfl⟩, fun h => by unfold endsB; rw [h]; rfl, fun hc => ?_, fun hc => ⟨R1, T1, false, by rw [hc]; exact ⟨rfl, rfl⟩, by simp, hS1, by omega, H⟩⟩, ?_⟩
  · refine ⟨_, H.cell (b := b10) (i := 1) rfl, _, H.cell3 (b := b10) (i := 2) (j := 0) (l := 0) rfl, _, H.cell3 (b := b10) (i := 2) (j := 0) (l := 1) rfl, call (rfin_r hS1 (by rw [hd2]; exact hd) (by omega) (hn1 _) (H.take (refA q R1))) ?_⟩
    rintro _ w4 ⟨b, R', T', rfl, hp, hS2, hl2, H⟩
    exact ⟨_, rfl, R', T', b, by rw [hc]; exact hp, rfl, hS2, by omega, H.blk b10⟩
  · rintro b w4 ⟨R', T', b2, h2, rfl, hS2, hl2, H⟩
    exact Rt.ok ⟨R', T', _, _, rfl, .inr ⟨hm, rfl, T1, b1, b2, h1, h2, rfl⟩, hS2, hl2, H.drop⟩
theorem row_data {rows : List Rw} {r : Rw} (hr : r ∈ rows) (H : Hp w0 w (star (all rowA rows) F)) : Byt w r.e.s r.e.data := by
  induction rows generalizing F with
  | nil => cases hr
  | cons x l ih =>
    have H : Hp w0 w (star (star (rowA x) (all rowA l)) F) := H
    rcases List.mem_cons.1 hr with rfl | h
    · have H : Hp w0 w (star (own Ty_uint8 1 r.e.s (r.e.data.map u8v)) (star (all rowA l) F)) := H.assoc
      exact H.cel (s := r.e.s) (size := 1)
    · exact ih h H.assoc.swap
theorem rcopy0_r : Calls PP F_sherdref15_Table_Copy #[.pointer none] w (Rt fun v w' => v = .pointer none ∧ w' = w) := by
  refine sim_sherdref15_Table_Copy _ _ _ ?_
  unfold vc_sherdref15_Table_Copy
  exact ⟨fun _ => Rt.ok ⟨rfl, rfl⟩, fun h => by simp at h⟩
set_option maxHeartbeats 1000000 in
theorem rcopy_r (hl : R.rows.length ≤ 274877906944) (hdl : ∀ r ∈ R.rows, r.e.data.length ≤ 1099511627776) (H : Hp w0 w (star (refA q R) F)) :
    Calls PP F_sherdref15_Table_Copy #[.pointer (some (blk q))] w (Rt fun v w' => ∃ q' R', v = .pointer (some (blk q')) ∧ R'.delta = R.delta ∧ absR R'.rows = absR R.rows ∧ Hp w0 w' (star (refA q' R') (star (refA q R) F))) := by
  refine sim_sherdref15_Table_Copy _ _ _ ?_
  unfold vc_sherdref15_Table_Copy
  have H := ref_open H
  refine ⟨fun h => by simp at h, fun _ => ⟨_, rfl, _, H.cell (b := q) (i := 0) rfl, H.new fun b11 w1 H => ⟨_, H.cell (b := q) (i := 1) rfl, ?_⟩⟩⟩
  have hrl := rows_l (R := R) H
  refine ⟨fun i w' => ∃ (m : Nat) (R' : Rf), i = (m : Int) ∧ m ≤ R.rows.length ∧ R'.delta = R.delta ∧ absR R'.rows = absR (R.rows.take m) ∧ Hp w0 w' (star (refB b11 R') (star (refC R') (star (all rowA R'.rows) (star (refB q R) (star (refC R) (star (all rowA R.rows) F)))))), fun i _ => R.rows.length - i.toNat, ⟨0, ⟨R.delta, Slc.nil, []⟩, rfl, Nat.zero_le _, rfl, rfl, ?_⟩, ?_⟩
  · exact (H.nilRow Ty_sherdref15_Row 6).swap.ent (Ent.star (Ent.refl _) (Ent.star (Ent.refl _) emp_l))
  rintro _ w2 ⟨m, R', rfl, hm, hd', hab, H⟩
  have hlen' : R'.rows.length = m := by
    have := congrArg List.length hab
    unfold absR at this
    rw [List.length_map, List.length_map, List.length_take] at this
    omega
  refine ⟨fun h => ?_, fun h => ?_⟩
  · have hlt : m < R.rows.length := by rw [hrl] at h; simp only [decide_eq_true_eq] at h; omega
    have hx : R.rows[m]? = some R.rows[m] := List.getElem?_eq_getElem hlt
    have hmem : R.rows[m] ∈ R.rows := List.getElem_mem _
    have htk : R.rows.take (m + 1) = R.rows.take m ++ [R.rows[m]] := by rw [List.take_succ_eq_append_getElem hlt]
    obtain ⟨a, ha, hc⟩ := row_at (R := R) H hx
    have ewr : wr .i64 ((m : Int) + 1) = ((m + 1 : Nat) : Int) := by rw [wr64 (by omega) (by omega)]; omega
    generalize R.rows[m] = r at *
    refine ⟨a, ha, by omega, by omega, _, hc 0 _ rfl, _, hc 1 _ rfl, _, hc 2 _ rfl, _, hc 3 _ rfl, _, hc 4 _ rfl, _, hc 5 _ rfl, H.new fun b43 w3 H => H.stoAll (b := b43) (by rfl) fun w4 H => ?_⟩
    have H := H.drew 1
    refine ⟨_, H.cell (b := b11) (i := 1) rfl, _, H.cell (b := b43) (i := 0) rfl, _, H.cell2 (b := b43) (i := 1) (j := 0) rfl, _, H.cell2 (b := b43) (i := 1) (j := 1) rfl, _, H.cell2 (b := b43) (i := 1) (j := 2) rfl, _, H.cell2 (b := b43) (i := 1) (j := 3) rfl, _, H.cell2 (b := b43) (i := 1) (j := 4) rfl, call (copied_r (e := r.e) (row_data hmem (H.take (all rowA R.rows))) (hdl r hmem)) ?_⟩
    rintro _ w5 ⟨s', rfl, K⟩
    have H := H.join K
    refine ⟨_, _, _, _, _, rfl, H.cell (b := b11) (i := 1) rfl, H.cell (b := b43) (i := 0) rfl, H.newRow (e := Ty_sherdref15_Row) (n := 1) (size := 6) (Rw.c ⟨r.key, { r.e with s := s' }⟩) rfl rfl (by decide) fun b69 w6 H => ⟨H.cell (b := b11) (i := 1) rfl, ?_⟩⟩
    have hl' := rows_l (R := R') H
    refine H.app (s := R'.s) slT_sl_sherdref15_Row (H.cel (s := ⟨some (blk b69), 1, 1⟩)) (fun u hu => one_row [⟨r.key, { r.e with s := s' }⟩] u (by simpa using hu)) (by unfold maxLen; simp only; omega) (by simp only; omega) fun s2 w7 H _ => ?_
    refine H.sto (b := b11) (i := 1) (by show 1 < 2; decide) fun w8 H => ⟨⟨m + 1, ⟨R'.delta, s2, R'.rows ++ [⟨r.key, { r.e with s := s' }⟩]⟩, by rw [ewr], by omega, hd', ?_, ?_⟩, by dsimp only; rw [ewr]; omega⟩
    · rw [htk]
      unfold absR at *
      rw [List.map_append, List.map_append, hab]
      rfl
    · have H := ((H.own ⟨some (blk b69), 1, 1⟩).drop.blk b43).drop
      have H := ((H.own s').ent (Ent.star (Ent.refl _) (Ent.pick (P := all rowA R'.rows) (Ent.refl _)))).assoc'
      have H := H.ent (Ent.star (all_snoc rowA ⟨r.key, { r.e with s := s' }⟩ R'.rows) (Ent.refl _))
      have eF : ∀ r' : Rw, (R'.rows ++ [r']).flatMap Rw.c = R'.rows.flatMap Rw.c ++ r'.c := fun r' => by simp
      unfold refC
      rw [eF]
      exact (H.own s2).blk b11
  · have hme : m = R.rows.length := by rw [hrl] at h; simp only [decide_eq_false_iff_not] at h; omega
    subst hme
    rw [List.take_length] at hab
    refine Rt.ok ⟨b11, R', rfl, hd', hab, ?_⟩
    refine ref_close (H.ent (Ent.star (Ent.refl _) (Ent.star (Ent.refl _) (Ent.star (Ent.refl _) ?_))))
    exact (Ent.star (Ent.refl _) Asn.assoc').trans Asn.assoc'
theorem rwould0_r {u : Upt} : Calls PP F_sherdref15_Table_Would #[.pointer none, .agg u.c.toArray] w (Rt fun v w' => v = .tuple #[.bool false, .int .i64 0] ∧ Fr [] w w') := by
  refine sim_sherdref15_Table_Would _ _ _ _ _ _ _ _ _ _ ?_
  unfold vc_sherdref15_Table_Would
  refine (Hp.start w).new fun b10 w1 H => ?_
  have H := H.drew 1
  refine ⟨_, H.cell (b := b10) (i := 0) rfl, _, H.cell (b := b10) (i := 1) rfl, _, H.cell (b := b10) (i := 2) rfl, _, H.cell (b := b10) (i := 3) rfl, _, H.cell (b := b10) (i := 4) rfl, _, H.cell (b := b10) (i := 5) rfl, _, H.cell (b := b10) (i := 6) rfl, call rcopy0_r ?_⟩
  rintro _ w2 ⟨rfl, rfl⟩
  refine ⟨_, rfl, H.cell (b := b10) (i := 0) rfl, H.cell (b := b10) (i := 1) rfl, H.cell (b := b10) (i := 2) rfl, H.cell (b := b10) (i := 3) rfl, H.cell (b := b10) (i := 4) rfl, H.cell (b := b10) (i := 5) rfl, H.cell (b := b10) (i := 6) rfl, call (rapply0_r (u := u)) ?_⟩
  rintro _ w3 ⟨rfl, f⟩
  exact ⟨_, _, rfl, Rt.ok ⟨rfl, H.fr.then_ f⟩⟩
theorem Rdy.under2 {w0 : World} {F X : Asn} {d : Slc} {bs : List UInt8} (h : Rdy w0 F d bs) : Rdy w0 (star X F) d bs := fun w' A H => h w' (star A X) H.assoc'
theorem rwould_r {u : Upt} (hS : Sim R T) (hk : (T.keys.map (·.1)).Nodup) (hd : 0 ≤ R.delta) (hl : R.rows.length ≤ 137438953472) (hn : ∀ k, ((T.sh k).map (·.1)).Nodup) (hdl : ∀ r ∈ R.rows, r.e.data.length ≤ 1099511627776) (hr : Rdy w0 F u.s u.data) (hbl : u.data.length ≤ 1099511627776) (H : Hp w0 w (star (refA q R) F)) :
    Calls PP F_sherdref15_Table_Would #[.pointer (some (blk q)), .agg u.c.toArray] w (Rt fun v w' => ∃ T1 T' b e, v = .tuple #[.bool b, .int .i64 e] ∧ SameT T T1 ∧ apR T1 u T' b e ∧ Hp w0 w' (star (refA q R) F)) := by
  refine sim_sherdref15_Table_Would _ _ _ _ _ _ _ _ _ _ ?_
  unfold vc_sherdref15_Table_Would
  refine H.new fun b10 w1 H => ?_
  have H := H.drew 1
  refine ⟨_, H.cell (b := b10) (i := 0) rfl, _, H.cell (b := b10) (i := 1) rfl, _, H.cell (b := b10) (i := 2) rfl, _, H.cell (b := b10) (i := 3) rfl, _, H.cell (b := b10) (i := 4) rfl, _, H.cell (b := b10) (i := 5) rfl, _, H.cell (b := b10) (i := 6) rfl, call (rcopy_r (by omega) hdl (H.take (refA q R))) ?_⟩
  rintro _ w2 ⟨q', R', rfl, hd', hab, H⟩
  have hsame := simC_same hS hk hab
  have hS' : Sim R' (simC T R'.rows) := ⟨by rw [hd']; exact hS.delta, simC_sh hS hab⟩
  have hlen' : R'.rows.length = R.rows.length := by
    have := congrArg List.length hab
    unfold absR at this
    simpa using this
  have hn' : ∀ k, (((simC T R'.rows).sh k).map (·.1)).Nodup := fun k => by
    rw [hS'.sh]
    have h1 := (same_of (rsh_absR hab k)).1
    have h2 := hn k
    rw [hS.sh] at h2
    exact h1.nodup_iff.2 h2
  refine ⟨_, rfl, H.cell (b := b10) (i := 0) rfl, H.cell (b := b10) (i := 1) rfl, H.cell (b := b10) (i := 2) rfl, H.cell (b := b10) (i := 3) rfl, H.cell (b := b10) (i := 4) rfl, H.cell (b := b10) (i := 5) rfl, H.cell (b := b10) (i := 6) rfl, call (rapply_r (u := u) hS' (by rw [hd']; exact hd) (by omega) hn' (Rdy.under2 (Rdy.under2 hr)) hbl H) ?_⟩
  rintro _ w3 ⟨R2, T2, b, e, rfl, ha, _, _, H⟩
  exact ⟨_, _, rfl, Rt.ok ⟨_, T2, b, e, rfl, hsame, ha, (H.drop.blk b10).drop⟩⟩
end
end Go.Proofs.YtgnceldnfefnmaaGreat
