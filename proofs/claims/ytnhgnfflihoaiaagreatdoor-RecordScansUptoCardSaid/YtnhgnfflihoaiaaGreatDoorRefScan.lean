/-
  Contracts of the reference's Scan: a head, an update, the next record, all of it.
-/
import Derived.Test.YtnhgnfflihoaiaaGreatDoorRefRead
namespace Go.Vc
open Go
theorem fs_take : ∀ (k m : Nat) (l : List UInt8), k ≤ m → fs k (l.take m) = fs k l
  | 0, _, _, _ => by simp [fs]
  | k + 1, m, [], _ => by simp
  | k + 1, m, c :: r, h => by
    obtain ⟨m, rfl⟩ : ∃ j, m = j + 1 := ⟨m - 1, by omega⟩
    simp only [List.take_succ_cons, fs, fs_take k m r (by omega)]
theorem val9 {l : List UInt8} (h : l.length ≤ 9) : val7 l < 9223372036854775808 := by
  have h1 := val7_lt l
  have h2 : 128 ^ l.length ≤ 128 ^ 9 := Nat.pow_le_pow_right (by omega) h
  have h3 : (128 : Nat) ^ 9 = 9223372036854775808 := rfl
  omega
theorem num_rel (l : List UInt8) : (rnum 9223372036854775807 0 0 l).2.2 = 0 ∧ (66000 < (rnum 9223372036854775807 0 0 l).1 ∧ (rnum 66000 0 0 (l.take 10)).2.2 = 33 ∨ (rnum 9223372036854775807 0 0 l).1 ≤ 66000 ∧ rnum 66000 0 0 (l.take 10) = rnum 9223372036854775807 0 0 l)
    ∨ ((rnum 9223372036854775807 0 0 l).2.2 = 30 ∨ (rnum 9223372036854775807 0 0 l).2.2 = 31) ∧ rnum 66000 0 0 (l.take 10) = rnum 9223372036854775807 0 0 l := by
  rw [rnum_fs _ 9 l 0 0 rfl, rnum_fs _ 9 (l.take 10) 0 0 rfl, fs_take 9 10 l (by omega)]
  have hle := fs_le 9 l
  have e1 : (9 ≤ (l.take 10).length) = (9 ≤ l.length) := by simp; omega
  have e2 : fs 9 l ≠ 0 → (l.take 10)[fs 9 l - 1]? = l[fs 9 l - 1]? := fun h => by rw [List.getElem?_take, if_pos (by omega)]
  have e3 : (l.take 10).take (fs 9 l) = l.take (fs 9 l) := by rw [List.take_take, Nat.min_eq_left (by omega)]
  have hv := val9 (l := l.take (fs 9 l)) (by simp; omega)
  rw [e3]
  simp only [e1]
  by_cases h0 : fs 9 l = 0
  · simp only [if_pos h0]
    refine .inr ⟨?_, trivial⟩
    split <;> simp
  · simp only [if_neg h0, e2 h0]
    by_cases h1 : l[fs 9 l - 1]? = some 0 ∧ 0 < 0 + (fs 9 l - 1)
    · simp only [if_pos h1]
      exact .inr ⟨.inr trivial, trivial⟩
    · simp only [if_neg h1]
      simp only [Nat.zero_add, Nat.pow_zero, Nat.mul_one]
      have hbig : ¬ (9223372036854775807 : Int) < ((val7 (l.take (fs 9 l)) : Nat) : Int) := by omega
      simp only [if_neg hbig]
      by_cases h2 : (66000 : Int) < ((val7 (l.take (fs 9 l)) : Nat) : Int)
      · rw [if_pos h2]
        exact .inl ⟨trivial, .inl ⟨h2, rfl⟩⟩
      · rw [if_neg h2]
        exact .inl ⟨trivial, .inr ⟨by omega, rfl⟩⟩
theorem uintR_up {bs : List UInt8} {a b : Int} {st : RS} (hab : a ≤ b) (h0 : st.err = 0) (h : (uintR bs a st).2.err = 0) : uintR bs b st = uintR bs a st := by
  unfold uintR at h ⊢
  rw [if_neg (by simpa using h0)] at h ⊢
  rw [if_neg (by simpa using h0)]
  simp only at h
  rw [rnum_fs a 9 _ 0 0 rfl] at h ⊢
  rw [rnum_fs b 9 _ 0 0 rfl]
  by_cases h1 : fs 9 (bs.drop st.at_) = 0
  · rw [if_pos h1] at h
    split at h <;> simp at h
  · rw [if_neg h1] at h ⊢
    rw [if_neg h1]
    by_cases h2 : (bs.drop st.at_)[fs 9 (bs.drop st.at_) - 1]? = some 0 ∧ 0 < 0 + (fs 9 (bs.drop st.at_) - 1)
    · rw [if_pos h2] at h; simp at h
    · rw [if_neg h2] at h ⊢
      rw [if_neg h2]
      by_cases h3 : a < ((0 + val7 ((bs.drop st.at_).take (fs 9 (bs.drop st.at_))) * 128 ^ 0 : Nat) : Int)
      · rw [if_pos h3] at h; simp at h
      · rw [if_neg h3, if_neg (by omega)]
theorem uintR_down {bs : List UInt8} {a b : Int} {st : RS} (h0 : st.err = 0) (h : (uintR bs b st).2.err = 0) (h1 : (uintR bs b st).1 ≤ a) (hab : a ≤ b) : uintR bs a st = uintR bs b st := by
  by_cases hx : (uintR bs a st).2.err = 0
  · exact (uintR_up hab h0 hx).symm
  · exfalso
    unfold uintR at h h1 hx
    rw [if_neg (by simpa using h0)] at h h1 hx
    simp only at h h1 hx
    rw [rnum_fs b 9 _ 0 0 rfl] at h h1
    rw [rnum_fs a 9 _ 0 0 rfl] at hx
    by_cases g1 : fs 9 (bs.drop st.at_) = 0
    · rw [if_pos g1] at h
      split at h <;> simp at h
    · rw [if_neg g1] at h h1 hx
      by_cases g2 : (bs.drop st.at_)[fs 9 (bs.drop st.at_) - 1]? = some 0 ∧ 0 < 0 + (fs 9 (bs.drop st.at_) - 1)
      · rw [if_pos g2] at h; simp at h
      · rw [if_neg g2] at h h1 hx
        by_cases g3 : b < ((0 + val7 ((bs.drop st.at_).take (fs 9 (bs.drop st.at_))) * 128 ^ 0 : Nat) : Int)
        · rw [if_pos g3] at h; simp at h
        · rw [if_neg g3] at h1
          rw [if_neg (by simp only at h1; omega)] at hx
          exact hx rfl
end Go.Vc
namespace Go.Proofs.YtnhgnfflihoaiaaGreatDoor
open Go Go.Vc Go.Vc.Asn
section
variable {w0 w : World} {A F : Asn} {p : Nat} {bs : List UInt8} {st : RS} {max : Int}
theorem qr_text (H : Hp w0 w (star (obj QRd p (bs, st)) F)) :
    Calls PP F_sherdref07_Reader_Text #[.pointer (some (blk p)), .int .i64 max] w (Rt fun v w' => v = .string ⟨(bytesR bs max st).1.toArray⟩ ∧ Hp w0 w' (star (obj QRd p (bs, (bytesR bs max st).2)) F)) := by
  refine sim_sherdref07_Reader_Text _ _ _ _ ?_
  unfold vc_sherdref07_Reader_Text
  refine call (qr_bytes H) ?_
  rintro _ w1 ⟨y, rfl, H⟩
  exact ⟨y, rfl, ToStr.rule slT_sl_uint8.ut und_string und_uint8 (Hp.byt (s := y) H) (Rt.ok ⟨rfl, H.drop⟩)⟩
theorem qr_err (H : Hp w0 w (star (obj QRd p (bs, st)) F)) :
    Calls PP F_sherdref07_Reader_Err #[.pointer (some (blk p))] w (Rt fun v w' => v = .int .i64 st.err ∧ Hp w0 w' (star (obj QRd p (bs, st)) F)) := by
  have H0 := H
  obtain ⟨s, h1, h2, H⟩ := qrd_open H
  refine sim_sherdref07_Reader_Err _ _ _ ?_
  unfold vc_sherdref07_Reader_Err
  exact ⟨_, rfl, _, H.cell (i := 2) rfl, Rt.ok ⟨rfl, H0⟩⟩
theorem qr_at (H : Hp w0 w (star (obj QRd p (bs, st)) F)) :
    Calls PP F_sherdref07_Reader_At #[.pointer (some (blk p))] w (Rt fun v w' => v = .int .i64 (st.at_ : Int) ∧ Hp w0 w' (star (obj QRd p (bs, st)) F)) := by
  have H0 := H
  obtain ⟨s, h1, h2, H⟩ := qrd_open H
  refine sim_sherdref07_Reader_At _ _ _ ?_
  unfold vc_sherdref07_Reader_At
  exact ⟨_, rfl, _, H.cell (i := 1) rfl, Rt.ok ⟨rfl, H0⟩⟩
theorem qr_end (H : Hp w0 w (star (obj QRd p (bs, st)) F)) :
    Calls PP F_sherdref07_Reader_End #[.pointer (some (blk p))] w (Rt fun v w' => v = .tuple #[] ∧ Hp w0 w' (star (obj QRd p (bs, endR bs st)) F)) := by
  have H0 := H
  obtain ⟨s, h1, h2, H⟩ := qrd_open H
  have hsl := (Hp.byt (s := s) (bs := bs) H).len
  refine sim_sherdref07_Reader_End _ _ _ ?_
  unfold vc_sherdref07_Reader_End endR
  refine ⟨_, rfl, _, H.cell (i := 2) rfl, decide (st.err = 0) && decide ((st.at_ : Int) < (s.l : Int)), fun h => ⟨_, H.cell (i := 1) rfl, s, H.cell (i := 0) rfl, by rw [h]; rfl⟩, fun h => by rw [h]; rfl, fun k => ⟨fun h => ?_, fun h => ?_⟩⟩
  · simp only [Bool.and_eq_true, decide_eq_true_eq, hsl] at h
    rw [if_pos ⟨h.1, by omega⟩]
    exact (H.drew k).sto (i := 2) (lt_ rfl) fun w1 H => Rt.ok ⟨rfl, qrd_close (st := ⟨st.at_, 35⟩) h1 h2 H⟩
  · rw [if_neg (fun hh => by simp [hh.1, hsl] at h; omega)]
    exact Rt.ok ⟨rfl, H0.drew k⟩
end
theorem requal_c {w : World} {a b : Slc} {xs ys : List UInt8} (ha : Byt w a xs) (hb : Byt w b ys) (hm : xs.length ≤ 9223372036854775000) : Calls PP F_sherdref11_equal #[a.v, b.v] w (Rt fun v w' => v = .bool (decide (xs = ys)) ∧ Fr [] w w') := by
  have hal := ha.len
  have hbl := hb.len
  refine sim_sherdref11_equal _ _ _ _ ?_
  unfold vc_sherdref11_equal
  refine ⟨fun h => ?_, fun h => ?_⟩
  · simp only [ne_eq, decide_not, Bool.not_eq_true', decide_eq_false_iff_not] at h
    refine Rt.ok ⟨?_, Fr.refl _ _⟩
    rw [decide_eq_false]
    intro e; subst e; omega
  · simp only [ne_eq, decide_not, Bool.not_eq_false', decide_eq_true_eq] at h
    have hl : xs.length = ys.length := by omega
    refine ⟨fun i w' => Fr [] w w' ∧ ∃ k : Nat, i = (k : Int) ∧ k ≤ xs.length ∧ xs.take k = ys.take k, fun i _ => xs.length - i.toNat, ⟨Fr.refl _ _, 0, rfl, by omega, by simp⟩, ?_⟩
    rintro _ w1 ⟨f1, k, rfl, hk, hp⟩
    refine ⟨fun hlt => ?_, fun hge => ?_⟩
    · simp only [decide_eq_true_eq, hal] at hlt
      have hk1 : k < xs.length := by omega
      have hk2 : k < ys.length := by omega
      obtain ⟨p, hp1, hc1⟩ := (ha.fr0 f1).get hk1
      obtain ⟨q, hq1, hc2⟩ := (hb.fr0 f1).get hk2
      refine ⟨p, hp1, by omega, by omega, _, by simpa using hc1, q, hq1, by omega, by omega, _, by simpa using hc2, fun k20 => ⟨fun hne => ?_, fun he => ?_⟩⟩
      · simp only [ne_eq, decide_not, Bool.not_eq_true', decide_eq_false_iff_not] at hne
        refine Rt.ok ⟨?_, f1.drewN _⟩
        rw [decide_eq_false]
        intro e; subst e; exact hne rfl
      · simp only [ne_eq, decide_not, Bool.not_eq_false', decide_eq_true_eq] at he
        have he : xs[k] = ys[k] := UInt8.toNat_inj.1 (by omega)
        rw [wr64 (by omega) (by omega)]
        refine ⟨⟨f1.drewN _, k + 1, rfl, by omega, ?_⟩, by dsimp only; omega⟩
        rw [List.take_succ_eq_append_getElem hk1, List.take_succ_eq_append_getElem hk2, hp, he]
    · simp only [decide_eq_false_iff_not, hal] at hge
      have hkk : k = xs.length := by omega
      subst hkk
      rw [List.take_length, hl, List.take_length] at hp
      exact Rt.ok ⟨by simp [hp], f1⟩
/-! ## Words for an update and a head in a block -/
section
variable {w0 w : World} {A F : Asn} {b : Nat}
theorem ldU {kind cnt cli : Int} {key : ByteArray} {fin has : Bool} {d : Slc} [h : TakeB b A Ty_api_Update #[.int .i64 kind, .string key, .int .i64 cnt, .int .i64 cli, .bool fin, .bool has, d.v] F] (H : Hp w0 w A) {K : Int → ByteArray → Int → Int → Bool → Bool → Slc → Prop} (k : K kind key cnt cli fin has d) :
    ∃ x0 : Int, w.cell? ((blk b).add 0) = some (.int .i64 x0) ∧ ∃ x1 : ByteArray, w.cell? ((blk b).add 1) = some (.string x1) ∧ ∃ x2 : Int, w.cell? ((blk b).add 2) = some (.int .i64 x2) ∧ ∃ x3 : Int, w.cell? ((blk b).add 3) = some (.int .i64 x3) ∧ ∃ x4 : Bool, w.cell? ((blk b).add 4) = some (.bool x4) ∧ ∃ x5 : Bool, w.cell? ((blk b).add 5) = some (.bool x5) ∧ ∃ x6 : Slc, w.cell? ((blk b).add 6) = some (Slc.v x6) ∧ K x0 x1 x2 x3 x4 x5 x6 :=
  ⟨_, H.cell (i := 0) rfl, _, H.cell (i := 1) rfl, _, H.cell (i := 2) rfl, _, H.cell (i := 3) rfl, _, H.cell (i := 4) rfl, _, H.cell (i := 5) rfl, _, H.cell (i := 6) rfl, k⟩
theorem ldH {n k d s : Int} [h : TakeB b A Ty_api_Head #[.int .i64 n, .int .i64 k, .int .i64 d, .int .i64 s] F] (H : Hp w0 w A) {K : Int → Int → Int → Int → Prop} (kk : K n k d s) :
    ∃ x0 : Int, w.cell? ((blk b).add 0) = some (.int .i64 x0) ∧ ∃ x1 : Int, w.cell? ((blk b).add 1) = some (.int .i64 x1) ∧ ∃ x2 : Int, w.cell? ((blk b).add 2) = some (.int .i64 x2) ∧ ∃ x3 : Int, w.cell? ((blk b).add 3) = some (.int .i64 x3) ∧ K x0 x1 x2 x3 :=
  ⟨_, H.cell (i := 0) rfl, _, H.cell (i := 1) rfl, _, H.cell (i := 2) rfl, _, H.cell (i := 3) rfl, kk⟩
theorem retU {kind cnt cli : Int} {key : ByteArray} {fin has : Bool} {d : Slc} {cs : Array Value} [h : TakeB b A Ty_api_Update cs F] (H : Hp w0 w A) (hs : 7 = cs.size) {K : World → Int → ByteArray → Int → Int → Bool → Bool → Slc → Prop} (k : ∀ w', Hp w0 w' F → K w' kind key cnt cli fin has d) :
    StoN (blk b) 0 [.int .i64 kind, .string key, .int .i64 cnt, .int .i64 cli, .bool fin, .bool has, d.v] w fun w => ∃ x0 : Int, w.cell? ((blk b).add 0) = some (.int .i64 x0) ∧ ∃ x1 : ByteArray, w.cell? ((blk b).add 1) = some (.string x1) ∧ ∃ x2 : Int, w.cell? ((blk b).add 2) = some (.int .i64 x2) ∧ ∃ x3 : Int, w.cell? ((blk b).add 3) = some (.int .i64 x3) ∧ ∃ x4 : Bool, w.cell? ((blk b).add 4) = some (.bool x4) ∧ ∃ x5 : Bool, w.cell? ((blk b).add 5) = some (.bool x5) ∧ ∃ x6 : Slc, w.cell? ((blk b).add 6) = some (Slc.v x6) ∧ K w x0 x1 x2 x3 x4 x5 x6 :=
  (H.blk b).stoAll (vs := [.int .i64 kind, .string key, .int .i64 cnt, .int .i64 cli, .bool fin, .bool has, d.v]) hs fun w' H' => ldU H' (k w' H'.drop)
theorem retH {n k d s : Int} {cs : Array Value} [h : TakeB b A Ty_api_Head cs F] (H : Hp w0 w A) (hs : 4 = cs.size) {K : World → Int → Int → Int → Int → Prop} (kk : ∀ w', Hp w0 w' F → K w' n k d s) :
    StoN (blk b) 0 [.int .i64 n, .int .i64 k, .int .i64 d, .int .i64 s] w fun w => ∃ x0 : Int, w.cell? ((blk b).add 0) = some (.int .i64 x0) ∧ ∃ x1 : Int, w.cell? ((blk b).add 1) = some (.int .i64 x1) ∧ ∃ x2 : Int, w.cell? ((blk b).add 2) = some (.int .i64 x2) ∧ ∃ x3 : Int, w.cell? ((blk b).add 3) = some (.int .i64 x3) ∧ K w x0 x1 x2 x3 :=
  (H.blk b).stoAll (vs := [.int .i64 n, .int .i64 k, .int .i64 d, .int .i64 s]) hs fun w' H' => ldH H' (kk w' H'.drop)
end
end Go.Proofs.YtnhgnfflihoaiaaGreatDoor
