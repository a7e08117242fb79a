/-
  Contracts of the package table: which updates may be, what they do.
-/
import Derived.Test.YtgnceldnfefnmaaGreatTableUp
namespace Go.Tab
open Go Go.Vc Go.Vc.Asn
structure Upt where
  kind : Int
  key : ByteArray
  tag : Tg
  fin : Bool
  has : Bool
  s : Slc
  data : List UInt8
def Upt.c (u : Upt) : List Value := [.int .i64 u.kind, .string u.key, .int .i64 u.tag.1, .int .i64 u.tag.2, .bool u.fin, .bool u.has, u.s.v]
def mayB (u : Upt) : Bool :=
  !(((decide (u.key.toList = (ByteArray.mk #[]).toList) || decide (64 < u.key.size)) || !properT u.tag) || decide (65540 < u.data.length)) &&
  (if u.kind = 1 then !u.fin && !u.has else if u.kind = 2 then (!u.fin && !u.has) && decide (u.data = []) else if u.kind = 3 then u.has || (u.fin && decide (u.data = [])) else false)
def comesB (u : Upt) : Bool := decide (u.kind = 1) || (decide (u.kind = 3) && u.has)
def endsB (u : Upt) : Bool := decide (u.kind = 2) || (decide (u.kind = 3) && u.fin)
def preR (T : Tc) (k : ByteArray) (t : Tg) (bs : List UInt8) (T' : Tc) (b : Bool) : Prop := b = preOk T k t ∧ (b = false → T' = T) ∧ (b = true → ∃ g s, T' = preT T k t bs g s)
def finR (T : Tc) (k : ByteArray) (t : Tg) (T' : Tc) (b : Bool) : Prop := b = finOk T k t ∧ (b = false → T' = T) ∧ (b = true → ∃ g, T' = finT T k t g)
def apR (T : Tc) (u : Upt) (T' : Tc) (b : Bool) (e : Int) : Prop :=
  (mayB u = false ∧ T' = T ∧ b = false ∧ e = 1) ∨
  (mayB u = true ∧ e = 0 ∧ ∃ T1 b1 b2, (if comesB u then preR T u.key u.tag u.data T1 b1 else T1 = T ∧ b1 = false) ∧ (if endsB u then finR T1 u.key u.tag T' b2 else T' = T1 ∧ b2 = false) ∧ b = (b1 || b2))
theorem Tc.sh_put (T : Tc) (k k' : ByteArray) (g : Nat) (l : Sc) : ({ T with keys := lput T.keys k (g, l) } : Tc).sh k' = if k' = k then l else T.sh k' := by
  unfold Tc.sh
  simp only [llook_put]
  by_cases h : k' = k <;> simp [h]
theorem preR.delta {T T' : Tc} {k : ByteArray} {t : Tg} {bs : List UInt8} {b : Bool} (h : preR T k t bs T' b) : T'.delta = T.delta := by
  obtain ⟨_, h1, h2⟩ := h
  cases b with
  | false => rw [h1 rfl]
  | true => obtain ⟨g, s, rfl⟩ := h2 rfl; rfl
theorem preR.len {T T' : Tc} {k : ByteArray} {t : Tg} {bs : List UInt8} {b : Bool} (h : preR T k t bs T' b) : (T'.sh k).length ≤ (T.sh k).length + 1 := by
  obtain ⟨_, h1, h2⟩ := h
  cases b with
  | false => rw [h1 rfl]; omega
  | true =>
    obtain ⟨g, s, rfl⟩ := h2 rfl
    unfold preT
    rw [Tc.sh_put, if_pos rfl]
    exact lput_len _ _ _
end Go.Tab
namespace Go.Proofs.YtgnceldnfefnmaaGreat
open Go Go.Vc Go.Vc.Asn Go.Tab Go.Sort
theorem may_c {w : World} {u : Upt} (hb : Byt w u.s u.data) : Calls PP F_table_may #[.agg u.c.toArray] w (Rt fun v w' => v = .bool (mayB u) ∧ Fr [] w w') := by
  refine sim_table_may _ _ _ _ _ _ _ _ _ ?_
  unfold vc_table_may
  have hlen := hb.len
  refine (Hp.start w).new fun b9 w1 H => H.new fun b13 w2 H => H.stoAll (b := b13) (by rfl) fun w3 H => ⟨_, H.cell (b := b9) (i := 1) rfl, ?_⟩
  refine ⟨decide (u.key.toList = (ByteArray.mk #[]).toList) || decide (64 < (u.key.size : Int)), fun h => ⟨_, H.cell (b := b9) (i := 1) rfl, ?_⟩, fun h => ?_, ?_⟩
  · have h : decide (u.key.toList = (ByteArray.mk #[]).toList) = false := h
    rw [h]; rfl
  · have h : decide (u.key.toList = (ByteArray.mk #[]).toList) = true := h
    rw [h]; rfl
  refine ⟨fun b w' => b = ((decide (u.key.toList = (ByteArray.mk #[]).toList) || decide (64 < (u.key.size : Int))) || !(zeroT u.tag || properT u.tag)) ∧ Hp w w' (star (bk b13 Ty_api_Entry #[.int .i64 u.tag.1, .int .i64 u.tag.2, .bool u.fin, .bool u.has, u.s.v]) (star (bk b9 Ty_api_Update u.c.toArray) emp)), ⟨fun h => ⟨_, H.cell2 (b := b13) (i := 0) (j := 0) rfl, _, H.cell2 (b := b13) (i := 0) (j := 1) rfl, call (valid_c u.tag _) ?_⟩, fun h => ⟨by rw [h]; rfl, H⟩⟩, ?_⟩
  · rintro _ w4 ⟨rfl, f⟩
    exact ⟨_, rfl, by rw [h]; rfl, H.fr0 f⟩
  rintro b w4 ⟨rfl, H⟩
  refine ⟨fun b w' => b = (((decide (u.key.toList = (ByteArray.mk #[]).toList) || decide (64 < (u.key.size : Int))) || !(zeroT u.tag || properT u.tag)) || zeroT u.tag) ∧ Hp w w' (star (bk b13 Ty_api_Entry #[.int .i64 u.tag.1, .int .i64 u.tag.2, .bool u.fin, .bool u.has, u.s.v]) (star (bk b9 Ty_api_Update u.c.toArray) emp)), ⟨fun h => ⟨_, H.cell2 (b := b13) (i := 0) (j := 0) rfl, _, H.cell2 (b := b13) (i := 0) (j := 1) rfl, call (zero_c u.tag _) ?_⟩, fun h => ⟨by rw [h]; rfl, H⟩⟩, ?_⟩
  · rintro _ w5 ⟨rfl, f⟩
    exact ⟨_, rfl, by rw [h]; rfl, H.fr0 f⟩
  rintro b w5 ⟨rfl, H⟩
  have hz : (((decide (u.key.toList = (ByteArray.mk #[]).toList) || decide (64 < (u.key.size : Int))) || !(zeroT u.tag || properT u.tag)) || zeroT u.tag) = ((decide (u.key.toList = (ByteArray.mk #[]).toList) || decide (64 < u.key.size)) || !properT u.tag) := by
    have e1 : decide (64 < (u.key.size : Int)) = decide (64 < u.key.size) := by rw [Bool.eq_iff_iff]; simp only [decide_eq_true_eq]; omega
    rw [e1]
    have e2 : zeroT u.tag = true → properT u.tag = false := by
      unfold zeroT properT
      simp only [Bool.and_eq_true, decide_eq_true_eq]
      intro h
      simp [h.1]
    cases hzz : zeroT u.tag with
    | true => rw [e2 hzz]; simp
    | false => simp
  rw [hz]
  have hdl : (decide (65540 < (u.s.l : Int))) = decide (65540 < u.data.length) := by rw [hlen, Bool.eq_iff_iff]; simp only [decide_eq_true_eq]; omega
  have hd0 : (decide ((u.s.l : Int) = 0)) = decide (u.data = []) := by rw [hlen, Bool.eq_iff_iff]; simp
  refine ⟨((decide (u.key.toList = (ByteArray.mk #[]).toList) || decide (64 < u.key.size)) || !properT u.tag) || decide (65540 < u.data.length), fun h => ⟨_, H.cell (b := b13) (i := 4) rfl, ?_⟩, fun h => ?_, ?_⟩
  · rw [h, hdl]; rfl
  · rw [h]; rfl
  refine ⟨fun h => Rt.ok ⟨by unfold mayB; rw [h]; rfl, H.fr⟩, fun h => ⟨_, H.cell (b := b9) (i := 0) rfl, fun h1 => ?_, fun h1 => ⟨fun h2 => ?_, fun h2 => ⟨fun h3 => ?_, fun h3 => ?_⟩⟩⟩⟩
  all_goals simp only [decide_eq_true_eq, decide_eq_false_iff_not] at h1
  · refine ⟨_, H.cell (b := b13) (i := 2) rfl, !u.fin && !u.has, fun h2 => ⟨_, H.cell (b := b13) (i := 3) rfl, by rw [h2]; rfl⟩, fun h2 => by rw [h2]; rfl, Rt.ok ⟨?_, H.fr⟩⟩
    unfold mayB; rw [h, if_pos h1]; rfl
  · simp only [decide_eq_true_eq] at h2
    refine ⟨_, H.cell (b := b13) (i := 2) rfl, !u.fin && !u.has, fun h3 => ⟨_, H.cell (b := b13) (i := 3) rfl, by rw [h3]; rfl⟩, fun h3 => by rw [h3]; rfl, (!u.fin && !u.has) && decide (u.data = []), fun h4 => ⟨_, H.cell (b := b13) (i := 4) rfl, by rw [h4, hd0]; rfl⟩, fun h4 => by rw [h4]; rfl, Rt.ok ⟨?_, H.fr⟩⟩
    unfold mayB; rw [h, if_neg h1, if_pos h2]; rfl
  · simp only [decide_eq_false_iff_not] at h2
    simp only [decide_eq_true_eq] at h3
    refine ⟨_, H.cell (b := b13) (i := 3) rfl, u.has || (u.fin && decide (u.data = [])), fun h4 => ⟨_, H.cell (b := b13) (i := 2) rfl, u.fin && decide (u.data = []), fun h5 => ⟨_, H.cell (b := b13) (i := 4) rfl, by rw [h5, hd0]; rfl⟩, fun h5 => by rw [h5]; rfl, by rw [h4]; rfl⟩, fun h4 => by rw [h4]; rfl, Rt.ok ⟨?_, H.fr⟩⟩
    unfold mayB; rw [h, if_neg h1, if_neg h2, if_pos h3]; rfl
  · simp only [decide_eq_false_iff_not] at h2 h3
    exact Rt.ok ⟨by unfold mayB; rw [h, if_neg h1, if_neg h2, if_neg h3]; rfl, H.fr⟩
theorem Rdy.under {w0 : World} {F X : Asn} {d : Slc} {bs : List UInt8} (h : Rdy w0 F d bs) : Rdy w0 (star X F) d bs := fun w' A H => h w' (star A X) H.assoc'
section
variable {p : Nat} {T : Tc} {w0 w : World} {F : Asn}
theorem pre_r {k : ByteArray} {t : Tg} {d : Slc} {bs : List UInt8} (hd : 0 ≤ T.delta) (hl : (T.sh k).length ≤ 1099511627776) (hr : Rdy w0 F d bs) (hbl : bs.length ≤ 1099511627776) (H : Hp w0 w (star (tabA p T) F)) :
    Calls PP F_table_Table_pre #[.pointer (some (blk p)), .string k, t.v, d.v] w (Rt fun v w' => ∃ b T', v = .bool b ∧ preR T k t bs T' b ∧ Hp w0 w' (star (tabA p T') F)) := by
  refine Rt.mono (pre_c hd hl hr hbl H) ?_
  rintro v w' ⟨rfl, h1, h2⟩
  cases hb : preOk T k t with
  | false => exact ⟨_, T, rfl, ⟨hb.symm, fun _ => rfl, fun h => nomatch h⟩, h1 hb⟩
  | true => obtain ⟨g, s, H⟩ := h2 hb; exact ⟨_, _, rfl, ⟨hb.symm, (fun h => nomatch h), fun _ => ⟨g, s, rfl⟩⟩, H⟩
theorem fin_r {k : ByteArray} {t : Tg} (hd : 0 ≤ T.delta) (hl : (T.sh k).length < 1099511627776) (H : Hp w0 w (star (tabA p T) F)) :
    Calls PP F_table_Table_fin #[.pointer (some (blk p)), .string k, t.v] w (Rt fun v w' => ∃ b T', v = .bool b ∧ finR T k t T' b ∧ Hp w0 w' (star (tabA p T') F)) := by
  refine Rt.mono (fin_c hd hl H) ?_
  rintro v w' ⟨rfl, h1, h2⟩
  cases hb : finOk T k t with
  | false => exact ⟨_, T, rfl, ⟨hb.symm, fun _ => rfl, fun h => nomatch h⟩, h1 hb⟩
  | true => obtain ⟨g, H⟩ := h2 hb; exact ⟨_, _, rfl, ⟨hb.symm, (fun h => nomatch h), fun _ => ⟨g, rfl⟩⟩, H⟩
theorem apply0_c {u : Upt} : Calls PP F_table_Table_Apply #[.pointer none, .agg u.c.toArray] w (Rt fun v w' => v = .tuple #[.bool false, .int .i64 0] ∧ Fr [] w w') := by
  refine sim_table_Table_Apply _ _ _ _ _ _ _ _ _ _ ?_
  unfold vc_table_Table_Apply
  exact (Hp.start w).new fun b10 w1 H => ⟨fun _ => Rt.ok ⟨rfl, H.fr⟩, fun h => by simp at h⟩
theorem apply_c {u : Upt} (hd : 0 ≤ T.delta) (hl : (T.sh u.key).length + 1 < 1099511627776) (hr : Rdy w0 F u.s u.data) (hbl : u.data.length ≤ 1099511627776) (H : Hp w0 w (star (tabA p T) F)) :
    Calls PP F_table_Table_Apply #[.pointer (some (blk p)), .agg u.c.toArray] w (Rt fun v w' => ∃ T' b e, v = .tuple #[.bool b, .int .i64 e] ∧ apR T u T' b e ∧ Hp w0 w' (star (tabA p T') F)) := by
  refine sim_table_Table_Apply _ _ _ _ _ _ _ _ _ _ ?_
  unfold vc_table_Table_Apply
  refine H.new fun b10 w1 H => ⟨fun h => by simp at h, fun _ => call (may_c (hr.at H)) ?_⟩
  rintro _ w2 ⟨rfl, f⟩
  have H := H.fr0 f
  refine ⟨_, rfl, fun hm => Rt.ok ⟨T, _, _, rfl, .inl ⟨by simpa using hm, rfl, rfl, rfl⟩, H.drop⟩, fun hm => ?_⟩
  have hm : mayB u = true := by simpa using hm
  refine ⟨fun b w' => ∃ T1, (if comesB u then preR T u.key u.tag u.data T1 b else T1 = T ∧ b = false) ∧ Hp w0 w' (star (bk b10 Ty_api_Update u.c.toArray) (star (tabA p T1) F)), ⟨_, H.cell (b := b10) (i := 0) rfl, comesB u, fun h => ⟨_, H.cell (b := b10) (i := 0) rfl, decide (u.kind = 3) && u.has, fun h2 => ⟨_, H.cell2 (b := b10) (i := 2) (j := 3) rfl, by rw [h2]; rfl⟩, fun h2 => by rw [h2]; rfl, by unfold comesB; rw [h]; rfl⟩, fun h => by unfold comesB; rw [h]; rfl, fun hc => ?_, fun hc => ⟨T, by rw [hc]; exact ⟨rfl, rfl⟩, H⟩⟩, ?_⟩
  · refine ⟨_, H.cell (b := b10) (i := 1) rfl, _, H.cell3 (b := b10) (i := 2) (j := 0) (l := 0) rfl, _, H.cell3 (b := b10) (i := 2) (j := 0) (l := 1) rfl, _, H.cell2 (b := b10) (i := 2) (j := 4) rfl, call (pre_r (d := u.s) hd (by omega) (Rdy.under hr) hbl (H.take (tabA p T))) ?_⟩
    rintro _ w3 ⟨b, T1, rfl, hp, H⟩
    exact ⟨_, rfl, T1, by rw [hc]; exact hp, H.blk b10⟩
  rintro b1 w3 ⟨T1, h1, H⟩
  have hd1 : T1.delta = T.delta := by
    split at h1
    · exact h1.delta
    · rw [h1.1]
  have hl1 : (T1.sh u.key).length ≤ (T.sh u.key).length + 1 := by
    split at h1
    · exact h1.len
    · rw [h1.1]; omega
  refine ⟨fun b w' => ∃ T' b2, (if endsB u then finR T1 u.key u.tag T' b2 else T' = T1 ∧ b2 = false) ∧ b = (b1 || b2) ∧ Hp w0 w' (star (bk b10 Ty_api_Update u.c.toArray) (star (tabA p T') F)), ⟨_, H.cell (b := b10) (i := 0) rfl, endsB u, fun h => ⟨_, H.cell (b := b10) (i := 0) rfl, decide (u.kind = 3) && u.fin, fun h2 => ⟨_, H.cell2 (b := b10) (i := 2) (j := 2) rfl, by rw [h2]; rfl⟩, fun h2 => by rw [h2]; rfl, by unfold endsB; rw [h]; rfl⟩, fun h => by unfold endsB; rw [h]; rfl, fun b2 w' => ∃ T', (if endsB u then finR T1 u.key u.tag T' b2 else T' = T1 ∧ b2 = false) ∧ Hp w0 w' (star (bk b10 Ty_api_Update u.c.toArray) (star (tabA p T') F)), ⟨fun hc => ?_, fun hc => ⟨T1, by rw [hc]; exact ⟨rfl, rfl⟩, H⟩⟩, ?_⟩, ?_⟩
  · refine ⟨_, H.cell (b := b10) (i := 1) rfl, _, H.cell3 (b := b10) (i := 2) (j := 0) (l := 0) rfl, _, H.cell3 (b := b10) (i := 2) (j := 0) (l := 1) rfl, call (fin_r (by rw [hd1]; exact hd) (by omega) (H.take (tabA p T1))) ?_⟩
    rintro _ w4 ⟨b, T', rfl, hp, H⟩
    exact ⟨_, rfl, T', by rw [hc]; exact hp, H.blk b10⟩
  · rintro b2 w4 ⟨T', h2, H⟩
    exact ⟨fun hb => ⟨T', b2, h2, by rw [hb]; simp, H⟩, fun hb => ⟨T', b2, h2, by rw [hb]; simp, H⟩⟩
  · rintro b w4 ⟨T', b2, h2, rfl, H⟩
    exact Rt.ok ⟨T', _, _, rfl, .inr ⟨hm, rfl, T1, b1, b2, h1, h2, rfl⟩, H.drop⟩
def wouldB (T : Tc) (u : Upt) : Bool := !ltT u.tag (floorI T.delta (T.sh u.key)) && ((comesB u && !(lookE (T.sh u.key) u.tag).has) || (endsB u && !(lookE (T.sh u.key) u.tag).fin))
theorem would0_c {u : Upt} : Calls PP F_table_Table_Would #[.pointer none, .agg u.c.toArray] w (Rt fun v w' => v = .tuple #[.bool false, .int .i64 0] ∧ Fr [] w w') := by
  refine sim_table_Table_Would _ _ _ _ _ _ _ _ _ _ ?_
  unfold vc_table_Table_Would
  exact (Hp.start w).new fun b10 w1 H => ⟨fun _ => Rt.ok ⟨rfl, H.fr⟩, fun h => by simp at h⟩
theorem would_c {u : Upt} (hd : 0 ≤ T.delta) (hl : (T.sh u.key).length ≤ 1099511627776) (hr : Rdy w0 F u.s u.data) (H : Hp w0 w (star (tabA p T) F)) :
    Calls PP F_table_Table_Would #[.pointer (some (blk p)), .agg u.c.toArray] w (Rt fun v w' => v = .tuple #[.bool (mayB u && wouldB T u), .int .i64 (if mayB u then 0 else 1)] ∧ Hp w0 w' (star (tabA p T) F)) := by
  have hn := tab_keys H
  refine sim_table_Table_Would _ _ _ _ _ _ _ _ _ _ ?_
  unfold vc_table_Table_Would
  refine H.new fun b10 w1 H => ⟨fun h => by simp at h, fun _ => call (may_c (hr.at H)) ?_⟩
  rintro _ w2 ⟨rfl, f⟩
  have H := H.fr0 f
  refine ⟨_, rfl, fun hm => Rt.ok ⟨by rw [show mayB u = false by simpa using hm]; rfl, H.drop⟩, fun hm => ?_⟩
  have hm : mayB u = true := by simpa using hm
  rw [hm]
  simp only [Bool.true_and, if_true]
  have H := (openT u.key (H.take (tabA p T))).drew 1
  refine ⟨_, rfl, _, H.cell (b := p) (i := 1) rfl, _, H.cell (b := b10) (i := 1) rfl, lkpK H ⟨_, rfl, _, H.cell3 (b := b10) (i := 2) (j := 0) (l := 0) rfl, _, H.cell3 (b := b10) (i := 2) (j := 0) (l := 1) rfl, lkpS (t := u.tag) (H.take (mpO (T.mo u.key) (T.sh u.key))) ⟨_, _, _, _, _, rfl, H.new fun b45 w3 H => H.stoAll (b := b45) (by rfl) fun w4 H => ?_⟩⟩⟩
  have H := H.drew 1
  refine ⟨_, H.cell3 (b := b10) (i := 2) (j := 0) (l := 0) rfl, _, H.cell3 (b := b10) (i := 2) (j := 0) (l := 1) rfl, _, H.cell (b := p) (i := 0) rfl, call (floor_c _ hd (H.take (mpO (T.mo u.key) (T.sh u.key))) hl) ?_⟩
  rintro _ w5 ⟨rfl, H⟩
  refine ⟨_, _, rfl, H.cell3 (b := b10) (i := 2) (j := 0) (l := 0) rfl, H.cell3 (b := b10) (i := 2) (j := 0) (l := 1) rfl, call (compare_c u.tag (floorI T.delta (T.sh u.key)) _) ?_⟩
  rintro _ w6 ⟨rfl, f⟩
  have H := H.fr0 f
  have Hc := closeT u.key hn (((((H.take (mpO (T.mo u.key) (T.sh u.key))).blk b45).drop.blk b10).drop))
  refine ⟨_, rfl, fun hc => Rt.ok ⟨?_, Hc⟩, fun hc => ?_⟩
  · unfold wouldB; rw [cmpT_lt] at hc; rw [hc]; rfl
  rw [cmpT_lt] at hc
  refine ⟨_, H.cell (b := b10) (i := 0) rfl, comesB u, fun h => ⟨_, H.cell (b := b10) (i := 0) rfl, decide (u.kind = 3) && u.has, fun h2 => ⟨_, H.cell2 (b := b10) (i := 2) (j := 3) rfl, by rw [h2]; rfl⟩, fun h2 => by rw [h2]; rfl, by unfold comesB; rw [h]; rfl⟩, fun h => by unfold comesB; rw [h]; rfl, ?_⟩
  refine ⟨_, H.cell (b := b10) (i := 0) rfl, endsB u, fun h => ⟨_, H.cell (b := b10) (i := 0) rfl, decide (u.kind = 3) && u.fin, fun h2 => ⟨_, H.cell2 (b := b10) (i := 2) (j := 2) rfl, by rw [h2]; rfl⟩, fun h2 => by rw [h2]; rfl, by unfold endsB; rw [h]; rfl⟩, fun h => by unfold endsB; rw [h]; rfl, ?_⟩
  refine ⟨comesB u && !(lookE (T.sh u.key) u.tag).has, fun h => ⟨_, H.cell (b := b45) (i := 3) rfl, by rw [h]; rfl⟩, fun h => by rw [h]; rfl, ?_⟩
  refine ⟨(comesB u && !(lookE (T.sh u.key) u.tag).has) || (endsB u && !(lookE (T.sh u.key) u.tag).fin), fun h => ⟨endsB u && !(lookE (T.sh u.key) u.tag).fin, fun h2 => ⟨_, H.cell (b := b45) (i := 2) rfl, by rw [h2]; rfl⟩, fun h2 => by rw [h2]; rfl, by rw [h]; rfl⟩, fun h => by rw [h]; rfl, Rt.ok ⟨?_, Hc⟩⟩
  unfold wouldB; rw [hc]; rfl
theorem tnew_c (d : Int) : Calls PP F_table_New #[.int .i64 d] w (Rt fun v w' => (d < 0 ∨ 4611686018427387903 < d) ∧ v = .tuple #[.pointer none, .int .i64 1] ∧ Fr [] w w' ∨ (0 ≤ d ∧ d ≤ 4611686018427387903) ∧ ∃ p g, v = .tuple #[.pointer (some (blk p)), .int .i64 0] ∧ Hp w w' (star (tabA p ⟨d, g, []⟩) emp)) := by
  refine sim_table_New _ _ _ ?_
  unfold vc_table_New
  refine ⟨fun h => Rt.ok (.inl ⟨?_, rfl, Fr.refl _ _⟩), fun h => ?_⟩
  · simpa using h
  · have h : 0 ≤ d ∧ d ≤ 4611686018427387903 := by simpa using h
    refine (Hp.start w).newM (fun s : ByteArray => Value.string s) (fun y : Nat × Sc => Value.map (some y.1)) fun g w1 H => H.new fun b w2 H => Rt.ok (.inr ⟨h, b, g, rfl, ?_⟩)
    exact H.ent (Asn.assoc'.trans (Ent.star (Ent.star (Ent.refl _) emp_r) (Ent.refl _)))
end
end Go.Proofs.YtgnceldnfefnmaaGreat
