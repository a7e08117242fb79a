/-
  Contracts of pack's reader.
-/
import Derived.Test.YtflcdgkckfcofaaGreatDoorRecord
import Derived.Test.YtflcdgkckfcofaaGreatDoorCaught
import Derived.Test.YtflcdgkckfcofaaGreatDoorRowFr
namespace Go.Vc
open Go
def rnum (max : Int) : Nat → Nat → List UInt8 → Int × Nat × Int
  | i, _, [] => if i < 9 then (0, 0, 30) else (0, 0, 31)
  | i, n, c :: r =>
    if i < 9 then
      if c.toNat < 128 then
        if c.toNat = 0 ∧ 0 < i then (0, 0, 31)
        else if max < ((n + c.toNat % 128 * 128 ^ i : Nat) : Int) then (0, 0, 33)
        else (((n + c.toNat % 128 * 128 ^ i : Nat) : Int), i + 1, 0)
      else rnum max (i + 1) (n + c.toNat % 128 * 128 ^ i) r
    else (0, 0, 31)
theorem and127 (c : UInt8) : andI .u8 (c.toNat : Int) 127 = ((c.toNat % 128 : Nat) : Int) := by
  have : ∀ m : Fin 256, andI .u8 (m.val : Int) 127 = ((m.val % 128 : Nat) : Int) := by decide +kernel
  exact this ⟨c.toNat, c.toNat_lt⟩
theorem or_shl {n x i : Nat} (hi : i < 9) (hn : n < 128 ^ i) (hx : x < 128) : orI .i64 (n : Int) (shlI .i64 (x : Int) ((7 * i : Nat) : Int)) = ((n + x * 128 ^ i : Nat) : Int) := by
  have h128 : (128 : Nat) ^ i = 2 ^ (7 * i) := by rw [Nat.pow_mul]
  have hp : 128 ^ i ≤ 128 ^ 8 := Nat.pow_le_pow_right (by omega) (by omega)
  have hxb : x * 128 ^ i ≤ 127 * 128 ^ i := Nat.mul_le_mul_right _ (by omega)
  have hb : x * 128 ^ i < 9223372036854775808 := by
    have : 127 * 128 ^ i ≤ 127 * 128 ^ 8 := Nat.mul_le_mul_left _ hp
    omega
  have hb2 : n + x * 128 ^ i < 9223372036854775808 := by
    have h1 : n + x * 128 ^ i < 128 ^ i + 127 * 128 ^ i := by omega
    have h2 : 128 ^ i + 127 * 128 ^ i = 128 * 128 ^ i := by omega
    have h3 : 128 * 128 ^ i ≤ 128 * 128 ^ 8 := Nat.mul_le_mul_left _ hp
    omega
  have e1 : shlI .i64 (x : Int) ((7 * i : Nat) : Int) = ((x * 128 ^ i : Nat) : Int) := by
    unfold shlI
    have e : min (Int.toNat ((7 * i : Nat) : Int)) IntKind.i64.bits = 7 * i := by
      have : IntKind.i64.bits = 64 := rfl
      rw [this, Int.toNat_natCast]; omega
    rw [e]
    have e2 : (x : Int) * 2 ^ (7 * i) = ((x * 128 ^ i : Nat) : Int) := by rw [h128]; simp
    rw [e2]
    have := wr64 (n := ((x * 128 ^ i : Nat) : Int)) (by omega) (by omega)
    exact this
  rw [e1]
  unfold orI
  have hz : n ||| (x * 128 ^ i) = n + x * 128 ^ i := by
    rw [h128, Nat.mul_comm x, Nat.add_comm, Nat.or_comm]
    exact (Nat.two_pow_add_eq_or_of_lt (by rw [← h128]; exact hn) x).symm
  have eb : IntKind.i64.bits = 64 := rfl
  have e3 : (BitVec.ofInt IntKind.i64.bits (n : Int) ||| BitVec.ofInt IntKind.i64.bits ((x * 128 ^ i : Nat) : Int)).toNat = n + x * 128 ^ i := by
    rw [BitVec.toNat_or]
    have h1 : (BitVec.ofInt IntKind.i64.bits (n : Int)).toNat = n := by
      show (BitVec.ofInt 64 (n : Int)).toNat = n
      rw [BitVec.ofInt_natCast, BitVec.toNat_ofNat]
      exact Nat.mod_eq_of_lt (by omega)
    have h2 : (BitVec.ofInt IntKind.i64.bits ((x * 128 ^ i : Nat) : Int)).toNat = x * 128 ^ i := by
      show (BitVec.ofInt 64 ((x * 128 ^ i : Nat) : Int)).toNat = _
      rw [BitVec.ofInt_natCast, BitVec.toNat_ofNat]
      exact Nat.mod_eq_of_lt (by omega)
    rw [h1, h2, hz]
  rw [e3]
  exact wr64 (by omega) (by omega)
end Go.Vc
namespace Go.Proofs.YtflcdgkckfcofaaGreatDoor
open Go Go.Vc

structure RDo (w : World) (p : Nat) (s : Slc) (bs : List UInt8) (at_ : Nat) (err : Int) : Prop where
  own : Blk w p Ty_pack_Reader #[.int .i64 err, s.v, .int .i64 (at_ : Int)] ∧ Byt w s bs ∧ ∀ k ∈ s.blks, k ≠ p
  le : at_ ≤ bs.length
  lt : bs.length ≤ 140737488355328
theorem RDo.fr0 {w w' : World} {p : Nat} {s : Slc} {bs : List UInt8} {at_ : Nat} {err : Int} (h : RDo w p s bs at_ err) (f : Fr [] w w') : RDo w' p s bs at_ err := by
  obtain ⟨⟨hB, hO, hp⟩, h1, h2⟩ := h
  exact ⟨⟨hB.fr f (by simp), hO.fr0 f, hp⟩, h1, h2⟩
theorem nr_c {w : World} {s : Slc} {bs : List UInt8} (h : Byt w s bs) (hm : bs.length ≤ 140737488355328) : Calls PP F_pack_NewReader #[s.v] w (Rt fun v w' => ∃ p z, v = .pointer (some (blk p)) ∧ RDo w' p z bs 0 0 ∧ Fr [] w w' ∧ w.heap.size ≤ p ∧ (∀ k ∈ z.blks, k < p)) := by
  refine sim_pack_NewReader _ _ _ ?_
  unfold vc_pack_NewReader
  refine call (clone_c h hm) ?_
  rintro _ w1 ⟨z, rfl, hM⟩
  refine ⟨z, rfl, New.intro fun b w2 nb => Rt.ok ⟨b, z, rfl, ⟨⟨nb.blk, (hM.more nb.fr).byt, fun k hk => ?_⟩, by omega, hm⟩, hM.fr.then_ nb.fr, by rw [nb.at_]; exact hM.fr.size, fun k hk => (by have := hM.own.lt k hk; rw [nb.at_]; omega)⟩⟩
  have := hM.own.lt k hk
  rw [nb.at_]; omega
theorem fail_c {w : World} {p : Nat} {s : Slc} {e : Int} {bs : List UInt8} {at_ : Nat} {err : Int} (h : RDo w p s bs at_ err) : Calls PP F_pack_first_fail #[.pointer (some ((blk p).add 0)), .int .i64 e] w (Rt fun v w' => v = .tuple #[] ∧ RDo w' p s bs at_ (if err = 0 then e else err) ∧ Fr [p] w w') := by
  obtain ⟨⟨hB, hO, hp⟩, h1, h2⟩ := h
  refine sim_pack_first_fail _ _ _ _ ?_
  unfold vc_pack_first_fail
  refine ⟨_, rfl, err, hB.cell2 rfl, fun h => ?_, fun h => ?_⟩
  · refine hB.sto2 (lt_ rfl) fun w1 hB1 f1 => Rt.ok ⟨rfl, ⟨⟨?_, hO.fr f1 (fun k hk hx => hp k hk (by simpa using hx)), hp⟩, h1, h2⟩, f1⟩
    rw [if_pos (by simpa using h)]
    simpa using hB1
  · rw [if_neg (by simpa using h)]
    exact Rt.ok ⟨rfl, ⟨⟨hB, hO, hp⟩, h1, h2⟩, Fr.refl _ _⟩
theorem ferr_c {w : World} {p : Nat} {s : Slc} {bs : List UInt8} {at_ : Nat} {err : Int} (h : RDo w p s bs at_ err) : Calls PP F_pack_first_Err #[.pointer (some ((blk p).add 0))] w (Rt fun v w' => v = .int .i64 err ∧ w = w') := by
  obtain ⟨⟨hB, hO, hp⟩, h1, h2⟩ := h
  refine sim_pack_first_Err _ _ _ ?_
  unfold vc_pack_first_Err
  exact ⟨_, rfl, err, hB.cell2 rfl, Rt.ok ⟨rfl, rfl⟩⟩
theorem rerr_c {w : World} {p : Nat} {s : Slc} {bs : List UInt8} {at_ : Nat} {err : Int} (h : RDo w p s bs at_ err) : Calls PP F_pack_Reader_Err #[.pointer (some (blk p))] w (Rt fun v w' => v = .int .i64 err ∧ w = w') := by
  refine sim_pack_Reader_Err _ _ _ ?_
  unfold vc_pack_Reader_Err
  refine ⟨by simp, fun _ => ⟨_, rfl, call (ferr_c h) ?_⟩⟩
  rintro _ _ ⟨rfl, rfl⟩
  exact ⟨_, rfl, Rt.ok ⟨rfl, rfl⟩⟩
theorem rat_c {w : World} {p : Nat} {s : Slc} {bs : List UInt8} {at_ : Nat} {err : Int} (h : RDo w p s bs at_ err) : Calls PP F_pack_Reader_At #[.pointer (some (blk p))] w (Rt fun v w' => v = .int .i64 (at_ : Int) ∧ w = w') := by
  obtain ⟨⟨hB, hO, hp⟩, h1, h2⟩ := h
  refine sim_pack_Reader_At _ _ _ ?_
  unfold vc_pack_Reader_At
  exact ⟨by simp, fun _ => ⟨_, rfl, _, hB.cell rfl, Rt.ok ⟨rfl, rfl⟩⟩⟩
theorem stopped_c {w : World} {p : Nat} {s : Slc} {bs : List UInt8} {at_ : Nat} {err : Int} (h : RDo w p s bs at_ err) : Calls PP F_pack_Reader_stopped #[.pointer (some (blk p))] w (Rt fun v w' => v = .bool (decide (err ≠ 0)) ∧ w = w') := by
  obtain ⟨⟨hB, hO, hp⟩, h1, h2⟩ := h
  refine sim_pack_Reader_stopped _ _ _ ?_
  unfold vc_pack_Reader_stopped
  exact ⟨_, fun _ => ⟨_, rfl, err, hB.cell2 rfl, rfl⟩, by simp, Rt.ok ⟨rfl, rfl⟩⟩

theorem drewFr (w : World) (k : Nat) : Fr [] w (w.drewN k) := (Fr.refl [] w).drewN k
theorem rnum_step (max : Int) {i n : Nat} {c : UInt8} {r : List UInt8} (hi : i < 9) (hc : ¬ c.toNat < 128) : rnum max i n (c :: r) = rnum max (i + 1) (n + c.toNat % 128 * 128 ^ i) r := by
  rw [rnum, if_pos hi, if_neg hc]
theorem number_c {w : World} {p : Nat} {s : Slc} {max : Int} {bs : List UInt8} {at_ : Nat} {err : Int} (h : RDo w p s bs at_ err) :
    Calls PP F_pack_Reader_number #[.pointer (some (blk p)), .int .i64 max] w (Rt fun v w' => v = .tuple #[.int .i64 (rnum max 0 0 (bs.drop at_)).1, .int .i64 ((rnum max 0 0 (bs.drop at_)).2.1 : Int), .int .i64 (rnum max 0 0 (bs.drop at_)).2.2] ∧ Fr [] w w') := by
  obtain ⟨⟨hB, hO, hp⟩, h1, h2⟩ := h
  have hsl := hO.len
  have hcap := hO.cap
  refine sim_pack_Reader_number _ _ _ _ ?_
  unfold vc_pack_Reader_number
  refine ⟨_, rfl, s, hB.cell rfl, _, hB.cell rfl, by omega, by omega, by omega, fun k => ?_⟩
  have e1 : ((at_ : Nat) : Int).toNat = at_ := by simp
  have e2 : ((s.l : Nat) : Int).toNat = bs.length := by simp [hsl]
  rw [e1, e2]
  have hcut : ∀ w', Fr [] w w' → Byt w' (s.cut 1 at_ bs.length) (bs.drop at_) := fun w' f => by
    refine cut_all (hO.fr0 f) h1 (Nat.le_refl _) ?_
    rw [List.take_of_length_le (by simp)]
  have hcl : (s.cut 1 at_ bs.length).l = bs.length - at_ := rfl
  refine ⟨fun n i w' => Fr [] w w' ∧ ∃ (j m : Nat), i = (j : Int) ∧ n = (m : Int) ∧ m < 128 ^ j ∧ j ≤ 9 ∧ at_ + j ≤ bs.length ∧ rnum max j m (bs.drop (at_ + j)) = rnum max 0 0 (bs.drop at_), fun _ i _ => 9 - i.toNat, ⟨drewFr _ _, 0, 0, rfl, rfl, by simp, by omega, by omega, rfl⟩, ?_⟩
  rintro _ _ w1 ⟨f1, j, m, rfl, rfl, hm, hj9, hjl, hr⟩
  refine ⟨fun hlt => ?_, fun hge => ?_⟩
  · simp only [decide_eq_true_eq] at hlt
    have hj : j < 9 := by omega
    refine ⟨fun hs => ?_, fun hs => ?_⟩
    · simp only [decide_eq_true_eq, hcl] at hs
      have hd : bs.drop (at_ + j) = [] := List.drop_eq_nil_of_le (by omega)
      rw [hd, rnum, if_pos hj] at hr
      rw [← hr]
      exact Rt.ok ⟨rfl, f1⟩
    · simp only [decide_eq_false_iff_not, hcl] at hs
      have hjl2 : at_ + j < bs.length := by omega
      have hdl : j < (bs.drop at_).length := by simp; omega
      obtain ⟨q, hq, hc⟩ := (hcut w1 f1).get hdl
      have hcc : (bs.drop at_)[j] = bs[at_ + j] := by simp
      rw [hcc] at hc
      have hdrop : bs.drop (at_ + j) = bs[at_ + j] :: bs.drop (at_ + (j + 1)) := List.drop_eq_getElem_cons hjl2
      rw [hdrop] at hr
      have e7 : wr .i64 (7 * (j : Int)) = ((7 * j : Nat) : Int) := by rw [wr64 (by omega) (by omega)]; omega
      have h255 := (bs[at_ + j]).toNat_lt
      rw [e7]
      refine ⟨q, hq, by omega, by rw [hcl]; omega, _, by simpa using hc, by omega, ?_⟩
      rw [and127, wr64 (n := (((bs[at_ + j]).toNat % 128 : Nat) : Int)) (by omega) (by omega), or_shl hj hm (Nat.mod_lt _ (by omega)), wr64 (n := (j : Int) + 1) (by omega) (by omega)]
      refine ⟨fun hc1 => ?_, fun hc1 => ?_⟩
      · simp only [decide_eq_true_eq] at hc1
        have hc2 : (bs[at_ + j]).toNat < 128 := by omega
        rw [rnum, if_pos hj, if_pos hc2] at hr
        refine ⟨fun h0 => ?_, fun h0 => ?_⟩
        · simp only [Bool.and_eq_true, decide_eq_true_eq] at h0
          rw [if_pos ⟨by omega, by omega⟩] at hr
          rw [← hr]; exact Rt.ok ⟨rfl, f1⟩
        · simp only [Bool.and_eq_false_iff, decide_eq_false_iff_not] at h0
          rw [if_neg (by omega)] at hr
          refine ⟨fun hmx => ?_, fun hmx => ?_⟩
          · simp only [decide_eq_true_eq] at hmx
            rw [if_pos hmx] at hr
            rw [← hr]; exact Rt.ok ⟨rfl, f1⟩
          · simp only [decide_eq_false_iff_not] at hmx
            rw [if_neg hmx] at hr
            rw [← hr]; exact Rt.ok ⟨by simp, f1⟩
      · simp only [decide_eq_false_iff_not] at hc1
        rw [rnum_step max hj (by omega)] at hr
        refine ⟨⟨f1, j + 1, _, by simp, rfl, ?_, by omega, by omega, hr⟩, by dsimp only; omega⟩
        rw [Nat.pow_succ]
        have : (bs[at_ + j]).toNat % 128 * 128 ^ j ≤ 127 * 128 ^ j := Nat.mul_le_mul_right _ (by omega)
        omega
  · simp only [decide_eq_false_iff_not] at hge
    have hj : j = 9 := by omega
    subst hj
    have e9 : rnum max 9 m (bs.drop (at_ + 9)) = (0, 0, 31) := by
      cases bs.drop (at_ + 9) with
      | nil => rw [rnum, if_neg (by omega)]
      | cons c r => rw [rnum, if_neg (by omega)]
    rw [e9] at hr
    rw [← hr]
    exact Rt.ok ⟨rfl, f1⟩
end Go.Proofs.YtflcdgkckfcofaaGreatDoor

/-
  Contracts of pack's reader, continued: each thing that it takes.
-/
namespace Go.Vc
open Go
structure RS where
  at_ : Nat
  err : Int
theorem rnum_bad (max : Int) : ∀ (l : List UInt8) (i n : Nat), (rnum max i n l).2.2 ≠ 0 → (rnum max i n l).1 = 0 ∧ (rnum max i n l).2.1 = 0
  | [], i, n => by
    rw [rnum]
    split <;> simp
  | c :: r, i, n => by
    rw [rnum]
    split
    · split
      · split
        · simp
        · split <;> simp
      · exact rnum_bad max r (i + 1) _
    · simp
theorem rnum_ok (max : Int) : ∀ (l : List UInt8) (i n : Nat), n < 128 ^ i → i ≤ 9 → (rnum max i n l).2.2 = 0 → ∃ m : Nat, (rnum max i n l).1 = (m : Int) ∧ (m : Int) ≤ max ∧ m < 128 ^ 9 ∧ i < (rnum max i n l).2.1 ∧ (rnum max i n l).2.1 ≤ 9 ∧ (rnum max i n l).2.1 - i ≤ l.length
  | [], i, n => by
    intro _ _ h
    rw [rnum] at h
    split at h <;> simp at h
  | c :: r, i, n => by
    intro hn hi h
    rw [rnum] at h ⊢
    have hx : c.toNat % 128 * 128 ^ i ≤ 127 * 128 ^ i := Nat.mul_le_mul_right _ (by omega)
    have hn' : n + c.toNat % 128 * 128 ^ i < 128 ^ (i + 1) := by rw [Nat.pow_succ]; omega
    split at h
    · rename_i h9
      rw [if_pos h9]
      split at h
      · rename_i h1
        rw [if_pos h1]
        split at h
        · simp at h
        · rename_i h2
          rw [if_neg h2]
          split at h
          · simp at h
          · rename_i h3
            rw [if_neg h3]
            refine ⟨_, rfl, by omega, ?_, by simp, by simp; omega, by simp⟩
            exact Nat.lt_of_lt_of_le hn' (Nat.pow_le_pow_right (by omega) (by omega))
      · rename_i h1
        rw [if_neg h1]
        obtain ⟨m, e1, e2, e3, e4, e5, e6⟩ := rnum_ok max r (i + 1) _ hn' (by omega) h
        exact ⟨m, e1, e2, e3, by omega, e5, by simp; omega⟩
    · simp at h
section
variable (bs : List UInt8)
def uintR (max : Int) (s : RS) : Int × RS := if s.err ≠ 0 then (0, s) else ((rnum max 0 0 (bs.drop s.at_)).1, ⟨s.at_ + (rnum max 0 0 (bs.drop s.at_)).2.1, (rnum max 0 0 (bs.drop s.at_)).2.2⟩)
def byteR (s : RS) : UInt8 × RS := if s.err ≠ 0 then (0, s) else match bs[s.at_]? with | none => (0, ⟨s.at_, 30⟩) | some b => (b, ⟨s.at_ + 1, 0⟩)
def boolR (s : RS) : Bool × RS := if s.err ≠ 0 then (false, s) else match bs[s.at_]? with | none => (false, ⟨s.at_, 30⟩) | some b => if 1 < b.toNat then (false, ⟨s.at_, 31⟩) else (decide (b = 1), ⟨s.at_ + 1, 0⟩)
def bytesE (max : Int) (s : RS) : Int :=
  if (rnum max 0 0 (bs.drop s.at_)).2.2 = 0 ∧ ((bs.length - s.at_ - (rnum max 0 0 (bs.drop s.at_)).2.1 : Nat) : Int) < (rnum max 0 0 (bs.drop s.at_)).1 then 30 else (rnum max 0 0 (bs.drop s.at_)).2.2
def bytesR (max : Int) (s : RS) : List UInt8 × RS :=
  if s.err ≠ 0 then ([], s) else if bytesE bs max s ≠ 0 then ([], ⟨s.at_, bytesE bs max s⟩)
  else ((bs.drop (s.at_ + (rnum max 0 0 (bs.drop s.at_)).2.1)).take (rnum max 0 0 (bs.drop s.at_)).1.toNat, ⟨s.at_ + (rnum max 0 0 (bs.drop s.at_)).2.1 + (rnum max 0 0 (bs.drop s.at_)).1.toNat, 0⟩)
def endR (s : RS) : RS := if s.err = 0 ∧ s.at_ < bs.length then ⟨s.at_, 35⟩ else s
end
end Go.Vc
namespace Go.Proofs.YtflcdgkckfcofaaGreatDoor
open Go Go.Vc
section
variable {w : World} {p : Nat} {z : Slc} {bs : List UInt8} {s : RS}
theorem uint_c {max : Int} (h : RDo w p z bs s.at_ s.err) :
    Calls PP F_pack_Reader_Uint #[.pointer (some (blk p)), .int .i64 max] w (Rt fun v w' => v = .int .i64 (uintR bs max s).1 ∧ RDo w' p z bs (uintR bs max s).2.at_ (uintR bs max s).2.err ∧ Fr [p] w w') := by
  refine sim_pack_Reader_Uint _ _ _ _ ?_
  unfold vc_pack_Reader_Uint
  refine call (stopped_c h) ?_
  rintro _ _ ⟨rfl, rfl⟩
  refine ⟨_, rfl, fun hs => ?_, fun hs => ?_⟩
  · simp only [decide_eq_true_eq] at hs
    rw [uintR, if_pos hs]
    exact Rt.ok ⟨rfl, h, Fr.refl _ _⟩
  · simp only [decide_eq_false_iff_not, ne_eq, Decidable.not_not] at hs
    rw [uintR, if_neg (by simpa using hs)]
    refine call (number_c h) ?_
    rintro _ w1 ⟨rfl, f1⟩
    generalize hr : rnum max 0 0 (bs.drop s.at_) = x
    refine ⟨_, _, _, rfl, _, rfl, call (fail_c (h.fr0 f1)) ?_⟩
    rintro _ w2 ⟨rfl, h2, f2⟩
    rw [if_pos hs] at h2
    obtain ⟨⟨hB, hO, hp⟩, h3, h4⟩ := h2
    have hk : s.at_ + x.2.1 ≤ bs.length := by
      by_cases he : x.2.2 = 0
      · obtain ⟨m, e1, e2, e3, e4, e5, e6⟩ := rnum_ok max (bs.drop s.at_) 0 0 (by simp) (by omega) (by rw [hr]; exact he)
        rw [hr] at e6
        simp at e6
        omega
      · have := (rnum_bad max (bs.drop s.at_) 0 0 (by rw [hr]; exact he)).2
        rw [hr] at this
        omega
    refine ⟨rfl, _, hB.cell rfl, ?_⟩
    rw [wr64 (by omega) (by omega)]
    refine hB.sto (lt_ rfl) fun w3 hB3 f3 => Rt.ok ⟨rfl, ⟨⟨?_, hO.fr f3 (fun k hk hx => hp k hk (by simpa using hx)), hp⟩, hk, h4⟩, (f1.sub (T := [p]) fun k hk => absurd hk (by simp)).local_ (f2.local_ f3 fun _ hx => .inl hx) fun _ hx => .inl hx⟩
    simpa using hB3
theorem byte_c (h : RDo w p z bs s.at_ s.err) :
    Calls PP F_pack_Reader_Byte #[.pointer (some (blk p))] w (Rt fun v w' => v = u8v (byteR bs s).1 ∧ RDo w' p z bs (byteR bs s).2.at_ (byteR bs s).2.err ∧ Fr [p] w w') := by
  refine sim_pack_Reader_Byte _ _ _ ?_
  unfold vc_pack_Reader_Byte
  refine call (stopped_c h) ?_
  rintro _ _ ⟨rfl, rfl⟩
  refine ⟨_, rfl, fun hs => ?_, fun hs => ?_⟩
  · simp only [decide_eq_true_eq] at hs
    rw [byteR, if_pos hs]
    exact Rt.ok ⟨rfl, h, Fr.refl _ _⟩
  · simp only [decide_eq_false_iff_not, ne_eq, Decidable.not_not] at hs
    have h0 := h
    obtain ⟨⟨hB, hO, hp⟩, h3, h4⟩ := h
    have hzl := hO.len
    refine ⟨_, rfl, _, hB.cell rfl, z, hB.cell rfl, fun k => ⟨fun hl => ?_, fun hl => ?_⟩⟩
    · simp only [decide_eq_true_eq] at hl
      have hn : bs[s.at_]? = none := List.getElem?_eq_none (by omega)
      rw [byteR, if_neg (by simpa using hs), hn]
      refine call (fail_c (h0.fr0 (drewFr w k))) ?_
      rintro _ w2 ⟨rfl, h2, f2⟩
      rw [if_pos hs] at h2
      exact ⟨rfl, Rt.ok ⟨rfl, h2, ((drewFr w k).sub (T := [p]) fun k hk => absurd hk (by simp)).local_ f2 fun _ hx => .inl hx⟩⟩
    · simp only [decide_eq_false_iff_not] at hl
      have hlt : s.at_ < bs.length := by omega
      have hn : bs[s.at_]? = some bs[s.at_] := List.getElem?_eq_getElem hlt
      rw [byteR, if_neg (by simpa using hs), hn]
      have hBk : Blk (w.drewN k) p Ty_pack_Reader #[.int .i64 s.err, z.v, .int .i64 (s.at_ : Int)] := hB.fr (drewFr w k) (by simp)
      have hOk := hO.fr0 (drewFr w k)
      refine ⟨_, hBk.cell rfl, hBk.sto (lt_ rfl) fun w1 hB1 f1 => ?_⟩
      have e1 : wr .i64 ((s.at_ : Int) + 1) = ((s.at_ + 1 : Nat) : Int) := by rw [wr64 (by omega) (by omega)]; omega
      rw [e1] at hB1
      have hO1 := hOk.fr f1 (fun k hk hx => hp k hk (by simpa using hx))
      obtain ⟨q, hq, hc⟩ := (show Byt w1 z bs from hO1).get hlt
      refine ⟨z, hB1.cell rfl, _, hB1.cell rfl, q, hq, ?_⟩
      rw [wr64 (by omega) (by omega)]
      have e2 : (((s.at_ + 1 : Nat) : Int) - 1).toNat * 1 = s.at_ := by omega
      refine ⟨by omega, by omega, _, by rw [e2]; exact hc, fun k2 => Rt.ok ⟨rfl, ?_, ?_⟩⟩
      · refine RDo.fr0 (w := w1) ⟨⟨?_, hO1, hp⟩, by simp only; omega, h4⟩ (drewFr w1 k2)
        rw [hs] at hB1
        simpa using hB1
      · exact (((drewFr w k).sub (T := [p]) fun k hk => absurd hk (by simp)).local_ f1 fun _ hx => .inl hx).drewN k2
theorem bool_c (h : RDo w p z bs s.at_ s.err) :
    Calls PP F_pack_Reader_Bool #[.pointer (some (blk p))] w (Rt fun v w' => v = .bool (boolR bs s).1 ∧ RDo w' p z bs (boolR bs s).2.at_ (boolR bs s).2.err ∧ Fr [p] w w') := by
  refine sim_pack_Reader_Bool _ _ _ ?_
  unfold vc_pack_Reader_Bool
  refine call (stopped_c h) ?_
  rintro _ _ ⟨rfl, rfl⟩
  refine ⟨_, rfl, fun hs => ?_, fun hs => ?_⟩
  · simp only [decide_eq_true_eq] at hs
    rw [boolR, if_pos hs]
    exact Rt.ok ⟨rfl, h, Fr.refl _ _⟩
  · simp only [decide_eq_false_iff_not, ne_eq, Decidable.not_not] at hs
    have h0 := h
    obtain ⟨⟨hB, hO, hp⟩, h3, h4⟩ := h
    have hzl := hO.len
    rw [boolR, if_neg (by simpa using hs)]
    refine ⟨_, rfl, _, hB.cell rfl, z, hB.cell rfl, (match bs[s.at_]? with | none => false | some b => decide (1 < b.toNat)), fun hl => ?_, fun hl => ?_, fun k => ⟨fun hx => ?_, fun hx => ?_⟩⟩
    · simp only [decide_eq_true_eq] at hl
      have hlt : s.at_ < bs.length := by omega
      obtain ⟨q, hq, hc⟩ := hO.get hlt
      refine ⟨z, hB.cell rfl, _, hB.cell rfl, q, hq, by omega, by omega, _, by simpa using hc, ?_⟩
      rw [List.getElem?_eq_getElem hlt]
      simp only
      congr 1
      exact propext (by omega)
    · simp only [decide_eq_false_iff_not] at hl
      rw [List.getElem?_eq_none (by omega)]
    · refine call (fail_c (h0.fr0 (drewFr w k))) ?_
      rintro _ w2 ⟨rfl, h2, f2⟩
      rw [if_pos hs] at h2
      cases hb : bs[s.at_]? with
      | none => rw [hb] at hx; simp at hx
      | some b =>
        rw [hb] at hx
        simp only [decide_eq_true_eq] at hx
        simp only [if_pos hx]
        exact ⟨trivial, Rt.ok ⟨rfl, h2, ((drewFr w k).sub (T := [p]) fun k hk => absurd hk (by simp)).local_ f2 fun _ hx => .inl hx⟩⟩
    · refine call (byte_c (s := s) (h0.fr0 (drewFr w k))) ?_
      rintro _ w2 ⟨rfl, h2, f2⟩
      refine ⟨_, rfl, Rt.ok ⟨?_, ?_, ((drewFr w k).sub (T := [p]) fun k hk => absurd hk (by simp)).local_ f2 fun _ hx => .inl hx⟩⟩
      · congr 1
        rw [byteR, if_neg (by simpa using hs)]
        cases hb : bs[s.at_]? with
        | none => simp
        | some b =>
          rw [hb] at hx
          simp only [decide_eq_false_iff_not] at hx
          simp only [if_neg hx]
          congr 1
          refine propext ⟨fun h => ?_, fun h => by subst h; rfl⟩
          exact UInt8.toNat_inj.1 (by simpa using (by omega : b.toNat = 1))
      · rw [byteR, if_neg (by simpa using hs)] at h2
        cases hb : bs[s.at_]? with
        | none => rw [hb] at h2; exact h2
        | some b =>
          rw [hb] at hx h2
          simp only [decide_eq_false_iff_not] at hx
          simp only [if_neg hx]
          exact h2
theorem end_c (h : RDo w p z bs s.at_ s.err) : Calls PP F_pack_Reader_End #[.pointer (some (blk p))] w (Rt fun v w' => v = .tuple #[] ∧ RDo w' p z bs (endR bs s).at_ (endR bs s).err ∧ Fr [p] w w') := by
  refine sim_pack_Reader_End _ _ _ ?_
  unfold vc_pack_Reader_End
  refine call (stopped_c (h.fr0 (drewFr w 1))) ?_
  rintro _ _ ⟨rfl, rfl⟩
  have h0 := h
  obtain ⟨⟨hB, hO, hp⟩, h3, h4⟩ := h
  have hzl := hO.len
  have hB1 := hB.fr (drewFr w 1) (by simp)
  refine ⟨_, rfl, decide (s.err = 0 ∧ s.at_ < bs.length), fun hx => ?_, fun hx => ?_, fun k => ⟨fun hx => ⟨_, rfl, call (fail_c ((h0.fr0 (drewFr w 1)).fr0 (drewFr _ k))) ?_⟩, fun hx => ?_⟩⟩
  · simp at hx
    refine ⟨_, rfl, _, hB1.cell rfl, z, hB1.cell rfl, ?_⟩
    congr 1
    exact propext ⟨fun h => by omega, fun h => ⟨hx, by omega⟩⟩
  · simp at hx
    simp [hx]
  · rintro _ w2 ⟨rfl, h2, f2⟩
    simp only [decide_eq_true_eq] at hx
    rw [endR, if_pos hx]
    rw [if_pos hx.1] at h2
    exact ⟨rfl, Rt.ok ⟨rfl, h2, (((drewFr w 1).drewN k).sub (T := [p]) fun k hk => absurd hk (by simp)).local_ f2 fun _ hx => .inl hx⟩⟩
  · simp only [decide_eq_false_iff_not] at hx
    rw [endR, if_neg hx]
    exact Rt.ok ⟨rfl, (h0.fr0 (drewFr w 1)).fr0 (drewFr _ k), ((drewFr w 1).drewN k).sub fun k hk => absurd hk (by simp)⟩
theorem bytes_c {max : Nat} (h : RDo w p z bs s.at_ s.err) :
    Calls PP F_pack_Reader_Bytes #[.pointer (some (blk p)), .int .i64 (max : Int)] w (Rt fun v w' => ∃ y : Slc, v = y.v ∧ Row w w' y (bytesR bs max s).1 ∧ RDo w' p z bs (bytesR bs max s).2.at_ (bytesR bs max s).2.err ∧ Fr [p] w w') := by
  refine sim_pack_Reader_Bytes _ _ _ _ ?_
  unfold vc_pack_Reader_Bytes
  refine call (stopped_c h) ?_
  rintro _ _ ⟨rfl, rfl⟩
  refine ⟨_, rfl, fun hs => ?_, fun hs => ?_⟩
  · simp only [decide_eq_true_eq] at hs
    rw [bytesR, if_pos hs]
    exact Rt.ok ⟨Slc.nil, rfl, ⟨Own.nil _ _ _, fun k hk => by simp [Slc.blks] at hk⟩, h, Fr.refl _ _⟩
  · simp only [decide_eq_false_iff_not, ne_eq, Decidable.not_not] at hs
    have h0 := h
    obtain ⟨⟨hB, hO, hp⟩, h3, h4⟩ := h
    have hzl := hO.len
    rw [bytesR, if_neg (by simpa using hs)]
    have hbad := rnum_bad (max : Int) (bs.drop s.at_) 0 0
    have hok := rnum_ok (max : Int) (bs.drop s.at_) 0 0 (by simp) (by omega)
    have hE : bytesE bs (max : Int) s = bytesE bs (max : Int) s := rfl
    conv at hE => rhs; unfold bytesE
    refine call (number_c h0) ?_
    rintro _ w1 ⟨rfl, f1⟩
    generalize hr : rnum (max : Int) 0 0 (bs.drop s.at_) = x at hbad hok hE ⊢
    generalize hEe : bytesE bs (max : Int) s = E at hE ⊢
    have hB1 := hB.fr f1 (by simp)
    have hk : x.2.1 ≤ bs.length - s.at_ := by
      by_cases he : x.2.2 = 0
      · obtain ⟨m, e1, e2, e3, e4, e5, e6⟩ := hok he
        simp at e6
        omega
      · have := (hbad he).2
        omega
    refine ⟨_, _, _, rfl, fun e w' => e = E ∧ Fr [] w w', ⟨decide (x.2.2 = 0 ∧ ((bs.length - s.at_ - x.2.1 : Nat) : Int) < x.1), fun he => ?_, fun he => ?_, fun k => ⟨fun hx => ?_, fun hx => ?_⟩⟩, ?_⟩
    · simp only [decide_eq_true_eq] at he
      refine ⟨_, rfl, z, hB1.cell rfl, _, hB1.cell rfl, ?_⟩
      rw [wr64 (n := ((z.l : Int) - (s.at_ : Int))) (by omega) (by omega), wr64 (by omega) (by omega)]
      congr 1
      exact propext ⟨fun h => by omega, fun h => ⟨he, by omega⟩⟩
    · simp only [decide_eq_false_iff_not] at he
      simp [he]
    · simp only [decide_eq_true_eq] at hx
      rw [if_pos hx] at hE
      exact ⟨hE.symm, f1.drewN k⟩
    · simp only [decide_eq_false_iff_not] at hx
      rw [if_neg hx] at hE
      exact ⟨hE.symm, f1.drewN k⟩
    · rintro _ w2 ⟨rfl, f2⟩
      refine ⟨fun he => ⟨_, rfl, call (fail_c (h0.fr0 f2)) ?_⟩, fun he => ?_⟩
      · rintro _ w3 ⟨rfl, h5, f3⟩
        rw [if_pos hs] at h5
        simp only [decide_eq_true_eq] at he
        rw [if_pos he]
        exact ⟨rfl, Rt.ok ⟨Slc.nil, rfl, ⟨Own.nil _ _ _, fun k hk => by simp [Slc.blks] at hk⟩, h5, (f2.sub (T := [p]) fun k hk => absurd hk (by simp)).local_ f3 fun _ hx => .inl hx⟩⟩
      · simp only [decide_eq_false_iff_not, ne_eq, Decidable.not_not] at he
        subst he
        have hx0 : x.2.2 = 0 ∧ ¬ ((bs.length - s.at_ - x.2.1 : Nat) : Int) < x.1 := by
          split at hE
          · cases hE
          · rename_i hn
            exact ⟨hE.symm, fun h => hn ⟨hE.symm, h⟩⟩
        obtain ⟨m, e1, e2, e3, e4, e5, e6⟩ := hok hx0.1
        have hm := hx0.2
        rw [e1] at hm
        have hB2 := hB.fr f2 (by simp)
        refine ⟨_, rfl, _, hB2.cell rfl, ?_⟩
        have ea : wr .i64 ((s.at_ : Int) + (x.2.1 : Int)) = ((s.at_ + x.2.1 : Nat) : Int) := by rw [wr64 (by omega) (by omega)]; omega
        have eb : wr .i64 (((s.at_ + x.2.1 : Nat) : Int) + x.1) = ((s.at_ + x.2.1 + m : Nat) : Int) := by rw [e1, wr64 (by omega) (by omega)]; omega
        rw [ea, eb]
        refine hB2.sto (lt_ rfl) fun w3 hB3 f3 => ?_
        have hB4 := hB3.fr (drewFr w3 1) (by simp)
        have hO3 : Byt (w3.drewN 1) z bs := ((hO.fr0 f2).fr f3 (fun k hk hx => hp k hk (by simpa using hx))).fr0 (drewFr w3 1)
        refine ⟨z, hB4.cell rfl, _, hB4.cell rfl, by omega, by omega, by have := hO.cap; omega, ?_⟩
        rw [Int.toNat_natCast, Int.toNat_natCast]
        refine call (clone_c (bs := (bs.drop (s.at_ + x.2.1)).take m) (cut_all hO3 (by omega) (by omega) (by rw [Nat.add_sub_cancel_left])) (by simp; omega)) ?_
        rintro _ w5 ⟨y, rfl, hM⟩
        have f03 : Fr [p] w w3 := (f2.sub (T := [p]) fun k hk => absurd hk (by simp)).local_ f3 fun _ hx => .inl hx
        have f05 : Fr [p] w w5 := (f03.drewN 1).then_ hM.fr
        refine ⟨y, rfl, Rt.ok ⟨y, rfl, ?_, ?_, f05⟩⟩
        · rw [if_neg (by simp), e1, Int.toNat_natCast]
          exact ⟨hM.own, fun k hk => Nat.le_trans f03.size (hM.new k hk)⟩
        · rw [if_neg (by simp), e1, Int.toNat_natCast]
          refine RDo.fr0 (w := w3.drewN 1) ⟨⟨?_, hO3, hp⟩, by simp only; omega, h4⟩ hM.fr
          rw [hs] at hB4
          simpa using hB4
theorem text_c {max : Nat} (h : RDo w p z bs s.at_ s.err) :
    Calls PP F_pack_Reader_Text #[.pointer (some (blk p)), .int .i64 (max : Int)] w (Rt fun v w' => v = .string ⟨(bytesR bs max s).1.toArray⟩ ∧ RDo w' p z bs (bytesR bs max s).2.at_ (bytesR bs max s).2.err ∧ Fr [p] w w') := by
  refine sim_pack_Reader_Text _ _ _ _ ?_
  unfold vc_pack_Reader_Text
  refine call (bytes_c h) ?_
  rintro _ w1 ⟨y, rfl, hR, h1, f1⟩
  exact ⟨y, rfl, ToStr.rule slT_sl_uint8.ut und_string und_uint8 hR.byt (Rt.ok ⟨rfl, h1, f1⟩)⟩
end
end Go.Proofs.YtflcdgkckfcofaaGreatDoor

/-
  Contracts of record's reader: must, equal bytes, a body, a head.
-/
namespace Go.Proofs.YtflcdgkckfcofaaGreatDoor
open Go Go.Vc
def Ge (Post : Value → World → Prop) (Pan : Int → World → Prop) : Ending → World → Prop
  | .returned v, w => Post v w
  | .panicked c, w => ∃ n, c = [ent n] ∧ Pan n w
  | .outgrown, _ => False
theorem Ge.ok {Post : Value → World → Prop} {Pan : Int → World → Prop} {v : Value} {w : World} (h : Post v w) : Ge Post Pan (.returned v) w := h
theorem Ge.no {Post : Value → World → Prop} {Pan : Int → World → Prop} {n : Int} {w : World} (h : Pan n w) : Ge Post Pan (.panicked [ent n]) w := ⟨n, rfl, h⟩
theorem callG {f : FuncId} {args : Array Value} {w : World} {Post : Value → World → Prop} {Pan : Int → World → Prop} {K : Value → World → Prop} {Kp : List PanicEntry → World → Prop}
    (h : Calls PP f args w (Ge Post Pan)) (k : ∀ v w', Post v w' → K v w') (kp : ∀ n w', Pan n w' → Kp [ent n] w') : Calls PP f args w (CallK K Kp) := by
  refine h.mono ?_
  rintro (v | c | _) w' hp
  · exact k v w' hp
  · obtain ⟨n, rfl, hp⟩ := hp
    exact kp n w' hp
  · exact hp.elim
theorem must_c (ok : Bool) (n : Int) (w : World) : Calls PP F_record_must #[.bool ok, .int .i64 n] w (Ge (fun v w' => v = .tuple #[] ∧ ok = true ∧ w = w') fun m w' => m = n ∧ ok = false ∧ w = w') := by
  refine sim_record_must _ _ _ _ ?_
  unfold vc_record_must
  exact ⟨fun h => Ge.no (n := n) ⟨rfl, by simpa using h, rfl⟩, fun h => Ge.ok ⟨rfl, by simpa using h, rfl⟩⟩
theorem equal_c {w : World} {a b : Slc} {xs ys : List UInt8} (ha : Byt w a xs) (hb : Byt w b ys) (hm : xs.length ≤ 9223372036854775000) : Calls PP F_slices_Equal #[a.v, b.v] w (Rt fun v w' => v = .bool (decide (xs = ys)) ∧ Fr [] w w') := by
  have hal := ha.len
  have hbl := hb.len
  refine sim_slices_Equal _ _ _ _ ?_
  unfold vc_slices_Equal
  refine ⟨fun h => ?_, fun h => ?_⟩
  · simp only [decide_eq_true_eq] at h
    refine Rt.ok ⟨?_, Fr.refl _ _⟩
    rw [decide_eq_false]
    intro e; subst e; omega
  · simp only [decide_eq_false_iff_not, ne_eq, Decidable.not_not] at h
    have hl : xs.length = ys.length := by omega
    refine ⟨fun i w' => Fr [] w w' ∧ ∃ k : Nat, i = (k : Int) ∧ k ≤ xs.length ∧ xs.take k = ys.take k, fun i _ => xs.length - i.toNat, ⟨Fr.refl _ _, 0, rfl, by omega, by simp⟩, ?_⟩
    rintro _ w1 ⟨f1, k, rfl, hk, hp⟩
    refine ⟨fun hlt => ?_, fun hge => ?_⟩
    · simp only [decide_eq_true_eq, hal] at hlt
      have hk1 : k < xs.length := by omega
      have hk2 : k < ys.length := by omega
      obtain ⟨p, hp1, hc1⟩ := (ha.fr0 f1).get hk1
      obtain ⟨q, hq1, hc2⟩ := (hb.fr0 f1).get hk2
      refine ⟨p, hp1, by omega, by omega, _, by simpa using hc1, q, hq1, by omega, by omega, _, by simpa using hc2, fun k20 => ⟨fun hne => ?_, fun he => ?_⟩⟩
      · simp only [decide_eq_true_eq] at hne
        refine Rt.ok ⟨?_, f1.drewN _⟩
        rw [decide_eq_false]
        intro e; subst e; exact hne rfl
      · simp only [decide_eq_false_iff_not, ne_eq, Decidable.not_not] at he
        have he2 : xs[k] = ys[k] := UInt8.toNat_inj.1 (by omega)
        rw [wr64 (by omega) (by omega)]
        refine ⟨⟨f1.drewN _, k + 1, rfl, by omega, ?_⟩, by dsimp only; omega⟩
        rw [List.take_succ_eq_append_getElem hk1, List.take_succ_eq_append_getElem hk2, hp, he2]
    · simp only [decide_eq_false_iff_not, hal] at hge
      have hkk : k = xs.length := by omega
      subst hkk
      rw [List.take_length, hl, List.take_length] at hp
      exact Rt.ok ⟨by simp [hp], f1⟩
theorem RDo.fr {S : List Nat} {w w' : World} {p : Nat} {z : Slc} {bs : List UInt8} {at_ : Nat} {err : Int} (h : RDo w p z bs at_ err) (f : Fr S w w') (h1 : p ∉ S) (h2 : ∀ k ∈ z.blks, k ∉ S) : RDo w' p z bs at_ err := by
  obtain ⟨⟨hB, hO, hp⟩, h3, h4⟩ := h
  exact ⟨⟨hB.fr f h1, Cel.fr hO f h2, hp⟩, h3, h4⟩

structure Up where
  kind : Int
  key : ByteArray
  cnt : Int
  cli : Int
  fin : Bool
  has : Bool
  ds : List UInt8
def Up.may (u : Up) : Int := mayV u.kind u.key.size u.cnt u.cli u.fin u.has u.ds.length
def readB (bs : List UInt8) : Up × RS :=
  let a := byteR bs ⟨0, 0⟩
  let b := bytesR bs (64 : Nat) a.2
  let c := uintR bs 4611686018427387903 b.2
  let d := uintR bs 65535 c.2
  let e := if (a.1.toNat : Int) = 3 then boolR bs d.2 else (false, d.2)
  let f := if (a.1.toNat : Int) = 3 then boolR bs e.2 else (false, e.2)
  let g := if (if (a.1.toNat : Int) = 3 then f.1 else decide ((a.1.toNat : Int) = 1)) = true then bytesR bs (65540 : Nat) f.2 else ([], f.2)
  (⟨a.1.toNat, ⟨b.1.toArray⟩, c.1, d.1, e.1, f.1, g.1⟩, endR bs g.2)
def okB (bs : List UInt8) : Bool := decide ((readB bs).2.err = 0) && decide ((readB bs).1.may = 0)
def Up.v (u : Up) (y : Slc) : Value := .agg #[.int .i64 u.kind, .string u.key, .int .i64 u.cnt, .int .i64 u.cli, .bool u.fin, .bool u.has, y.v]
theorem readBody_c {w : World} {s : Slc} {bs : List UInt8} (h : Byt w s bs) (hm : bs.length ≤ 140737488355000) :
    Calls PP F_record_readBody #[s.v] w (Ge (fun v w' => okB bs = true ∧ ∃ y : Slc, v = (readB bs).1.v y ∧ Row w w' y (readB bs).1.ds ∧ Fr [] w w') fun n w' => okB bs = false ∧ n = 31 ∧ Fr [] w w') := by
  refine sim_record_readBody _ _ _ ?_
  unfold vc_record_readBody
  refine New.intro fun b3 w1 nb3 => call (nr_c (h.fr0 nb3.fr) (by omega)) ?_
  rintro _ w2 ⟨p, z, rfl, hR, f2, hpn, hzn⟩
  have f02 := nb3.fr.then_ f2
  have hB3 := nb3.blk.fr f2 (by simp)
  have hw1 := f02.size
  have hw12 : w.heap.size ≤ p := Nat.le_trans nb3.fr.size hpn
  refine ⟨_, rfl, call (byte_c (s := ⟨0, 0⟩) hR) ?_⟩
  rintro _ w3 ⟨rfl, hR3, f3⟩
  refine ⟨_, rfl, call (text_c hR3) ?_⟩
  rintro _ w4 ⟨rfl, hR4, f4⟩
  have hnp : ∀ {x y : World} {b : Nat} {cs : Array Value} {at_ : Nat} {err : Int}, Blk x b Ty_api_Update cs → Fr [p] x y → RDo x p z bs at_ err → Blk y b Ty_api_Update cs := fun hb f hr => hb.fr f (by
    simp only [List.mem_singleton]
    exact hb.ne_ hr.own.1 (by decide))
  have f04 : Fr [] w w4 := (f02.local_ f3 fun x hx => .inr (by simp at hx; omega)).local_ f4 fun x hx => .inr (by simp at hx; omega)
  have hB34 := hnp (hnp hB3 f3 hR) f4 hR3
  refine ⟨_, rfl, New.intro fun b w5 nb => nb.blk.stoAll rfl fun w6 hU fU => ?_⟩
  have f46 := nb.frS fU
  have f06 := f04.then_ f46
  have hB36 := hB34.fr f46 (by simp)
  have hR6 := hR4.fr0 f46
  have hbp : b ≠ p := (hU.ne_ hR6.own.1 (by decide))
  have hbz : ∀ k ∈ z.blks, k ∉ [b] := fun k hk hx => by
    have h1 := hzn k hk
    have h2 := hR4.own.1.lt
    have h3 := nb.at_
    simp at hx
    omega
  have hb3 : b3 ≠ b := by
    have h2 := hB34.lt
    have h3 := nb.at_
    omega
  have hbn : w.heap.size ≤ b := by rw [nb.at_]; exact f04.size
  refine call (uint_c hR6) ?_
  rintro _ w7 ⟨rfl, hR7, f7⟩
  have hU7 := hnp hU f7 hR6
  refine ⟨_, rfl, hU7.sto3 (lt_ rfl) fun w8 hU8 f8 => ?_⟩
  have hR8 := hR7.fr f8 (by simp; exact Ne.symm hbp) hbz
  refine call (uint_c hR8) ?_
  rintro _ w9 ⟨rfl, hR9, f9⟩
  have hU9 := hnp hU8 f9 hR8
  refine ⟨_, rfl, hU9.sto3 (lt_ rfl) fun w10 hU10 f10 => ?_⟩
  have hR10 := hR9.fr f10 (by simp; exact Ne.symm hbp) hbz
  have hB310 := (hnp ((hnp hB36 f7 hR6).fr f8 (by simp; exact hb3)) f9 hR8).fr f10 (by simp; exact hb3)
  have f010 : Fr [] w w10 := (((f06.local_ f7 fun x hx => .inr (by simp at hx; omega)).local_ f8 fun x hx => .inr (by simp at hx; omega)).local_ f9 fun x hx => .inr (by simp at hx; omega)).local_ f10 fun x hx => .inr (by simp at hx; omega)
  -- the parts, under names
  generalize ha : byteR bs ⟨0, 0⟩ = a at *
  generalize hb : bytesR bs (64 : Nat) a.2 = bb at *
  generalize hc : uintR bs 4611686018427387903 bb.2 = c at *
  generalize hd : uintR bs 65535 c.2 = d at *
  have hak := (a.1).toNat_lt
  have ek : wr .i64 ((a.1.toNat : Nat) : Int) = ((a.1.toNat : Nat) : Int) := wr64 (by omega) (by omega)
  rw [ek] at hU10
  have hUa : Blk w10 b Ty_api_Update #[.int .i64 ((a.1.toNat : Nat) : Int), .string ⟨bb.1.toArray⟩, .int .i64 c.1, .int .i64 d.1, .bool false, .bool false, Slc.nil.v] := by simpa using hU10
  clear hU10 hU9 hU8 hU7 hU
  have hrb : readB bs = (⟨a.1.toNat, ⟨bb.1.toArray⟩, c.1, d.1, (if (a.1.toNat : Int) = 3 then boolR bs d.2 else (false, d.2)).1, (if (a.1.toNat : Int) = 3 then boolR bs (if (a.1.toNat : Int) = 3 then boolR bs d.2 else (false, d.2)).2 else (false, (if (a.1.toNat : Int) = 3 then boolR bs d.2 else (false, d.2)).2)).1,
      (if (if (a.1.toNat : Int) = 3 then (if (a.1.toNat : Int) = 3 then boolR bs (if (a.1.toNat : Int) = 3 then boolR bs d.2 else (false, d.2)).2 else (false, (if (a.1.toNat : Int) = 3 then boolR bs d.2 else (false, d.2)).2)).1 else decide ((a.1.toNat : Int) = 1)) = true
        then bytesR bs (65540 : Nat) (if (a.1.toNat : Int) = 3 then boolR bs (if (a.1.toNat : Int) = 3 then boolR bs d.2 else (false, d.2)).2 else (false, (if (a.1.toNat : Int) = 3 then boolR bs d.2 else (false, d.2)).2)).2
        else ([], (if (a.1.toNat : Int) = 3 then boolR bs (if (a.1.toNat : Int) = 3 then boolR bs d.2 else (false, d.2)).2 else (false, (if (a.1.toNat : Int) = 3 then boolR bs d.2 else (false, d.2)).2)).2)).1⟩,
      endR bs (if (if (a.1.toNat : Int) = 3 then (if (a.1.toNat : Int) = 3 then boolR bs (if (a.1.toNat : Int) = 3 then boolR bs d.2 else (false, d.2)).2 else (false, (if (a.1.toNat : Int) = 3 then boolR bs d.2 else (false, d.2)).2)).1 else decide ((a.1.toNat : Int) = 1)) = true
        then bytesR bs (65540 : Nat) (if (a.1.toNat : Int) = 3 then boolR bs (if (a.1.toNat : Int) = 3 then boolR bs d.2 else (false, d.2)).2 else (false, (if (a.1.toNat : Int) = 3 then boolR bs d.2 else (false, d.2)).2)).2
        else ([], (if (a.1.toNat : Int) = 3 then boolR bs (if (a.1.toNat : Int) = 3 then boolR bs d.2 else (false, d.2)).2 else (false, (if (a.1.toNat : Int) = 3 then boolR bs d.2 else (false, d.2)).2)).2)).2) := by
    subst ha hb hc hd
    rfl
  generalize he : (if (a.1.toNat : Int) = 3 then boolR bs d.2 else (false, d.2)) = e at hrb
  generalize hf : (if (a.1.toNat : Int) = 3 then boolR bs e.2 else (false, e.2)) = f at hrb
  generalize hu : (if (a.1.toNat : Int) = 3 then f.1 else decide ((a.1.toNat : Int) = 1)) = u at hrb
  generalize hg : (if u = true then bytesR bs (65540 : Nat) f.2 else ([], f.2)) = g at hrb
  have hpS : ∀ x, x ∈ [p] → x ∈ ([] : List Nat) ∨ w.heap.size ≤ x := fun x hx => .inr (by simp at hx; omega)
  have hbS : ∀ x, x ∈ [b] → x ∈ ([] : List Nat) ∨ w.heap.size ≤ x := fun x hx => .inr (by simp at hx; omega)
  have hpb : p ∉ [b] := by simp; exact Ne.symm hbp
  have hb3b : b3 ∉ [b] := by simp; exact hb3
  refine ⟨_, hUa.cell rfl, fun has w' => has = u ∧ RDo w' p z bs f.2.at_ f.2.err ∧ Blk w' b Ty_api_Update #[.int .i64 ((a.1.toNat : Nat) : Int), .string ⟨bb.1.toArray⟩, .int .i64 c.1, .int .i64 d.1, .bool e.1, .bool f.1, Slc.nil.v] ∧ Fr [] w w' ∧
    Blk w' b3 Ty_api_Update #[.int .i64 0, .string ⟨#[]⟩, .int .i64 0, .int .i64 0, .bool false, .bool false, Slc.nil.v], ⟨_, hUa.cell rfl, fun h3 => ?_, fun h3 => ?_⟩, ?_⟩
  · simp only [decide_eq_true_eq] at h3
    rw [if_pos h3] at he hf hu
    subst he hf hu
    refine call (bool_c hR10) ?_
    rintro _ w11 ⟨rfl, hR11, f11⟩
    have hU11 := hnp hUa f11 hR10
    refine ⟨_, rfl, hU11.sto2 (lt_ rfl) fun w12 hU12 f12 => ?_⟩
    have hR12 := hR11.fr f12 hpb hbz
    refine call (bool_c hR12) ?_
    rintro _ w13 ⟨rfl, hR13, f13⟩
    have hU13 := hnp hU12 f13 hR12
    refine ⟨_, rfl, hU13.sto2 (lt_ rfl) fun w14 hU14 f14 => ?_⟩
    refine ⟨_, hU14.cell2 rfl, rfl, hR13.fr f14 hpb hbz, by simpa using hU14, (((f010.local_ f11 hpS).local_ f12 hbS).local_ f13 hpS).local_ f14 hbS, ?_⟩
    exact (hnp ((hnp hB310 f11 hR10).fr f12 hb3b) f13 hR12).fr f14 hb3b
  · simp only [decide_eq_false_iff_not] at h3
    rw [if_neg h3] at he hf hu
    subst he hf hu
    exact ⟨rfl, hR10, hUa, f010, hB310⟩
  rintro _ w20 ⟨rfl, hR20, hU20, f20, hB20⟩
  refine ⟨fun w' => ∃ y : Slc, RDo w' p z bs g.2.at_ g.2.err ∧ Blk w' b Ty_api_Update #[.int .i64 ((a.1.toNat : Nat) : Int), .string ⟨bb.1.toArray⟩, .int .i64 c.1, .int .i64 d.1, .bool e.1, .bool f.1, y.v] ∧ Row w w' y g.1 ∧ Fr [] w w' ∧
    Blk w' b3 Ty_api_Update #[.int .i64 0, .string ⟨#[]⟩, .int .i64 0, .int .i64 0, .bool false, .bool false, Slc.nil.v], ⟨fun h1 => ?_, fun h1 => ?_⟩, ?_⟩
  · rw [if_pos h1] at hg
    subst hg
    refine call (bytes_c hR20) ?_
    rintro _ w21 ⟨y, rfl, hy, hR21, f21⟩
    have hU21 := hnp hU20 f21 hR20
    refine ⟨y, rfl, hU21.sto2 (lt_ rfl) fun w22 hU22 f22 => ⟨y, hR21.fr f22 hpb hbz, by simpa using hU22, ?_, (f20.local_ f21 hpS).local_ f22 hbS, (hnp hB20 f21 hR20).fr f22 hb3b⟩⟩
    exact (hy.fr f22 fun k hk => by simp at hk; subst hk; exact .inr ⟨_, _, by decide, hU21⟩).since f20.size
  · rw [if_neg (by rw [h1]; simp)] at hg
    subst hg
    exact ⟨Slc.nil, hR20, hU20, ⟨Own.nil _ _ _, fun k hk => by simp [Slc.blks] at hk⟩, f20, hB20⟩
  rintro w30 ⟨y, hR30, hU30, hy30, f30, hB30⟩
  refine call (end_c hR30) ?_
  rintro _ w31 ⟨rfl, hR31, f31⟩
  have hU31 := hnp hU30 f31 hR30
  have hB31 := hnp hB30 f31 hR30
  have hy31 := hy30.fr f31 fun k hk => by simp at hk; subst hk; exact .inr ⟨_, _, by decide, hR30.own.1⟩
  have f031 := f30.local_ f31 hpS
  refine ⟨rfl, call (rerr_c hR31) ?_⟩
  rintro _ _ ⟨rfl, rfl⟩
  have hok : okB bs = (decide ((endR bs g.2).err = 0) && decide (mayV a.1.toNat bb.1.toArray.size c.1 d.1 e.1 f.1 g.1.length = 0)) := by
    unfold okB Up.may
    rw [hrb]
    rfl
  have hyl : y.l = g.1.length := hy31.byt.len
  refine ⟨_, rfl, fun x w' => x = okB bs ∧ Fr [] w31 w', ⟨fun h0 => ?_, fun h0 => ?_⟩, ?_⟩
  · refine ⟨_, hU31.cell rfl, _, hU31.cell rfl, _, hU31.cell rfl, _, hU31.cell rfl, _, hU31.cell rfl, _, hU31.cell rfl, y, hU31.cell rfl, call (may_c _ _ _ _ _ _ _ _) ?_⟩
    rintro _ w32 ⟨rfl, f32⟩
    refine ⟨_, rfl, ?_, f32⟩
    rw [hok, h0, hyl]
    rfl
  · exact ⟨by rw [hok, h0]; rfl, Fr.refl _ _⟩
  rintro _ w33 ⟨rfl, f33⟩
  refine callG (must_c _ _ _) ?_ ?_
  · rintro _ _ ⟨rfl, hk, rfl⟩
    have hU33 := hU31.fr f33 (by simp)
    have hB33 := hB31.fr f33 (by simp)
    have hy33 := hy31.fr f33 fun k hk => absurd hk (by simp)
    refine ⟨rfl, _, hU33.cell rfl, _, hU33.cell rfl, _, hU33.cell rfl, _, hU33.cell rfl, _, hU33.cell rfl, _, hU33.cell rfl, y, hU33.cell rfl, hB33.stoAll rfl fun w34 hB34' f34 => ?_⟩
    refine ⟨_, hB34'.cell rfl, _, hB34'.cell rfl, _, hB34'.cell rfl, _, hB34'.cell rfl, _, hB34'.cell rfl, _, hB34'.cell rfl, y, hB34'.cell rfl, Ge.ok ⟨hk, y, ?_, ?_, ?_⟩⟩
    · rw [hrb]; rfl
    · rw [hrb]
      exact hy33.fr f34 fun k hk => by simp at hk; subst hk; exact .inr ⟨_, _, by decide, hB33⟩
    · refine ((f031.then_ f33).local_ f34 fun x hx => .inr ?_)
      simp at hx
      rw [hx, nb3.at_]
      exact Nat.le_refl _
  · rintro n _ ⟨rfl, hk, rfl⟩
    exact Ge.no ⟨hk, rfl, f031.then_ f33⟩
end Go.Proofs.YtflcdgkckfcofaaGreatDoor

/-
  Contracts of record's reader: the head.
-/
namespace Go.Proofs.YtflcdgkckfcofaaGreatDoor
open Go Go.Vc
def rdN (bs : List UInt8) (s : RS) : Nat → List Int × RS
  | 0 => ([], s)
  | j + 1 => ((rdN bs s j).1 ++ [(uintR bs 4611686018427387903 (rdN bs s j).2).1], (uintR bs 4611686018427387903 (rdN bs s j).2).2)
theorem rdN_len (bs : List UInt8) (s : RS) : ∀ j, (rdN bs s j).1.length = j
  | 0 => rfl
  | j + 1 => by rw [rdN]; simp [rdN_len bs s j]
structure Hd where
  n : Int
  k : Int
  d : Int
  s : Int
def Hd.v (h : Hd) : Value := .agg #[.int .i64 h.n, .int .i64 h.k, .int .i64 h.d, .int .i64 h.s]
def Hd.bs (h : Hd) : List UInt8 := headBs h.n.toNat h.k.toNat h.d.toNat h.s.toNat
def readH (bs : List UInt8) : Hd :=
  let l := (rdN bs (byteR bs ⟨0, 0⟩).2 4).1
  ⟨l.getD 0 0, l.getD 1 0, l.getD 2 0, l.getD 3 0⟩
def okH1 (bs : List UInt8) : Bool := (decide ((rdN bs (byteR bs ⟨0, 0⟩).2 4).2.err = 0) && decide (((byteR bs ⟨0, 0⟩).1.toNat : Int) = 72)) && decide (mayHeadV (readH bs).n (readH bs).k (readH bs).d (readH bs).s = 0)
def okH2 (bs : List UInt8) : Bool := decide (((readH bs).bs.length : Int) ≤ (bs.length : Int)) && decide (bs.take (readH bs).bs.length = (readH bs).bs)
def okH (bs : List UInt8) : Bool := okH1 bs && okH2 bs
theorem readHead_c {w : World} {s : Slc} {bs : List UInt8} (hG : GT w) (h : Byt w s bs) (hm : bs.length ≤ 140737488355000) :
    Calls PP F_record_readHead #[s.v] w (Ge (fun v w' => okH bs = true ∧ v = .tuple #[(readH bs).v, .int .i64 ((readH bs).bs.length : Int)] ∧ Fr [] w w') fun n w' => okH bs = false ∧ n = 63 ∧ Fr [] w w') := by
  have hsl := h.len
  refine sim_record_readHead _ _ _ ?_
  unfold vc_record_readHead
  refine New.intro fun b3 w1 nb3 => call (nr_c (h.fr0 nb3.fr) (by omega)) ?_
  rintro _ w2 ⟨p, z, rfl, hR, f2, hpn, hzn⟩
  have f02 := nb3.fr.then_ f2
  have hB3 := nb3.blk.fr f2 (by simp)
  have hw12 : w.heap.size ≤ p := Nat.le_trans nb3.fr.size hpn
  refine ⟨_, rfl, call (byte_c (s := ⟨0, 0⟩) hR) ?_⟩
  rintro _ w3 ⟨rfl, hR3, f3⟩
  have hnp : ∀ {x y : World} {b : Nat} {T : TypeId} {cs : Array Value} {at_ : Nat} {err : Int}, T ≠ Ty_pack_Reader → Blk x b T cs → Fr [p] x y → RDo x p z bs at_ err → Blk y b T cs := fun hT hb f hr => hb.fr f (by
    simp only [List.mem_singleton]
    exact hb.ne_ hr.own.1 hT)
  have hpS : ∀ x, x ∈ [p] → x ∈ ([] : List Nat) ∨ w.heap.size ≤ x := fun x hx => .inr (by simp at hx; omega)
  have f03 := f02.local_ f3 hpS
  have hB33 := hnp (by decide) hB3 f3 hR
  refine ⟨_, rfl, New.intro fun b w4 nb => ?_⟩
  have f04 := f03.then_ nb.fr
  have hb3b : b3 ∉ [b] := by have h2 := hB33.lt; have h3 := nb.at_; simp; omega
  have hbS : ∀ x, x ∈ [b] → x ∈ ([] : List Nat) ∨ w.heap.size ≤ x := fun x hx => .inr (by simp at hx; rw [hx, nb.at_]; exact f03.size)
  have hbz : ∀ k ∈ z.blks, k ∉ [b] := fun k hk hx => by
    have h1 := hzn k hk
    have h2 := hR3.own.1.lt
    have h3 := nb.at_
    simp at hx
    omega
  have hpb : p ∉ [b] := by have h2 := hR3.own.1.lt; have h3 := nb.at_; simp; omega
  generalize ha : byteR bs ⟨0, 0⟩ = a at *
  refine ⟨fun i w' => ∃ j : Nat, i = (j : Int) ∧ j ≤ 4 ∧ Fr [] w w' ∧ RDo w' p z bs (rdN bs a.2 j).2.at_ (rdN bs a.2 j).2.err ∧ Blk w' b Ty_4_int ((rdN bs a.2 j).1.map (Value.int .i64) ++ List.replicate (4 - j) (Value.int .i64 0)).toArray ∧
    Blk w' b3 Ty_api_Head #[.int .i64 0, .int .i64 0, .int .i64 0, .int .i64 0], fun i _ => 4 - i.toNat, ⟨0, rfl, by omega, f04, hR3.fr0 nb.fr, nb.blk, hB33.fr nb.fr (by simp)⟩, ?_⟩
  rintro _ w5 ⟨j, rfl, hj, f05, hR5, hB5, hB35⟩
  have hjl := rdN_len bs a.2 j
  refine ⟨fun hlt => ?_, fun hge => ?_⟩
  · simp only [decide_eq_true_eq] at hlt
    have hj4 : j < 4 := by omega
    refine call (uint_c hR5) ?_
    rintro _ w6 ⟨rfl, hR6, f6⟩
    have hB6 := hnp (by decide) hB5 f6 hR5
    have ej : (j : Int).toNat * 1 = j := by simp
    rw [ej, wr64 (by omega) (by omega)]
    refine ⟨_, rfl, by omega, by omega, hB6.sto (by simp [hjl]; omega) fun w7 hB7 f7 => ⟨⟨j + 1, rfl, by omega, (f05.local_ f6 hpS).local_ f7 hbS, ?_, ?_, ?_⟩, by dsimp only; omega⟩⟩
    · rw [rdN]
      exact hR6.fr f7 hpb hbz
    · have e : (((rdN bs a.2 j).1.map (Value.int .i64) ++ List.replicate (4 - j) (Value.int .i64 0)).toArray.setIfInBounds j (Value.int .i64 (uintR bs 4611686018427387903 (rdN bs a.2 j).2).1)) = ((rdN bs a.2 (j + 1)).1.map (Value.int .i64) ++ List.replicate (4 - (j + 1)) (Value.int .i64 0)).toArray := by
        rw [List.setIfInBounds_toArray, List.set_append_right _ _ (by simp [hjl])]
        rw [show 4 - j = (4 - (j + 1)) + 1 by omega, List.replicate_succ]
        simp [rdN, hjl]
      rw [e] at hB7
      exact hB7
    · exact (hnp (by decide) hB35 f6 hR5).fr f7 hb3b
  · simp only [decide_eq_false_iff_not] at hge
    have : j = 4 := by omega
    subst this
    have hl4 := rdN_len bs a.2 4
    have hrh : readH bs = ⟨(rdN bs a.2 4).1.getD 0 0, (rdN bs a.2 4).1.getD 1 0, (rdN bs a.2 4).1.getD 2 0, (rdN bs a.2 4).1.getD 3 0⟩ := by unfold readH; rw [ha]
    have ho1 : okH1 bs = ((decide ((rdN bs a.2 4).2.err = 0) && decide ((a.1.toNat : Int) = 72)) && decide (mayHeadV (readH bs).n (readH bs).k (readH bs).d (readH bs).s = 0)) := by unfold okH1; rw [ha]
    generalize (rdN bs a.2 4).2 = st at *
    generalize (rdN bs a.2 4).1 = l4 at *
    match l4, hl4 with
    | [x0, x1, x2, x3], _ =>
      simp at hrh
      have hB5' : Blk w5 b Ty_4_int #[.int .i64 x0, .int .i64 x1, .int .i64 x2, .int .i64 x3] := by simpa using hB5
      refine ⟨_, hB5'.cell rfl, _, hB5'.cell rfl, _, hB5'.cell rfl, _, hB5'.cell rfl, New.intro fun c w6 nc => nc.blk.stoAll rfl fun w7 hC fC => ?_⟩
      have f57 := nc.frS fC
      have f07 := f05.then_ f57
      have hR7 := hR5.fr0 f57
      have hB37 := hB35.fr f57 (by simp)
      refine call (rerr_c hR7) ?_
      rintro _ _ ⟨rfl, rfl⟩
      refine ⟨_, rfl, fun x w' => x = okH1 bs ∧ Fr [] w7 w', ⟨fun h1 => ?_, fun h1 => ?_⟩, ?_⟩
      · refine ⟨_, hC.cell rfl, _, hC.cell rfl, _, hC.cell rfl, _, hC.cell rfl, call (mayHead_c _ _ _ _ _) ?_⟩
        rintro _ w8 ⟨rfl, f8⟩
        refine ⟨_, rfl, ?_, f8⟩
        rw [ho1, h1, hrh]
        rfl
      · exact ⟨by rw [ho1, h1]; rfl, Fr.refl _ _⟩
      rintro _ w8 ⟨rfl, f8⟩
      refine callG (must_c _ _ _) ?_ ?_
      · rintro _ _ ⟨rfl, hk, rfl⟩
        have hC8 := hC.fr f8 (by simp)
        have hB38 := hB37.fr f8 (by simp)
        have f08 := f07.then_ f8
        have hmh : mayHeadV x0 x1 x2 x3 = 0 := by
          rw [ho1, hrh] at hk
          simp only [Bool.and_eq_true, decide_eq_true_eq] at hk
          exact hk.2
        obtain ⟨h1, h2, h3, h4, h5, h6, h7⟩ := mayHead_ok hmh
        obtain ⟨x0, rfl⟩ := Int.eq_ofNat_of_zero_le (by omega : 0 ≤ x0)
        obtain ⟨x1, rfl⟩ := Int.eq_ofNat_of_zero_le (by omega : 0 ≤ x1)
        obtain ⟨x2, rfl⟩ := Int.eq_ofNat_of_zero_le (by omega : 0 ≤ x2)
        obtain ⟨x3, rfl⟩ := Int.eq_ofNat_of_zero_le (by omega : 0 ≤ x3)
        have hhb : (readH bs).bs = headBs x0 x1 x2 x3 := by rw [hrh]; simp [Hd.bs]
        refine ⟨rfl, _, hC8.cell rfl, _, hC8.cell rfl, _, hC8.cell rfl, _, hC8.cell rfl, call (headOf_c (by omega) (by omega) (by omega) (by omega) (hG.fr0 f08)) ?_⟩
        rintro _ w9 ⟨y, rfl, hM⟩
        have f09 := f08.then_ hM.fr
        have hC9 := hC8.fr hM.fr (by simp)
        have hB39 := hB38.fr hM.fr (by simp)
        have hyl := hM.byt.len
        have hlen : (headBs x0 x1 x2 x3).length ≤ 1000 := by
          have := headPre_len (n := x0) (k := x1) (d := x2) (s := x3) (by omega) (by omega) (by omega) (by omega)
          simp [headBs, le4_len]; omega
        have ho2 : okH2 bs = (decide (((headBs x0 x1 x2 x3).length : Int) ≤ (bs.length : Int)) && decide (bs.take (headBs x0 x1 x2 x3).length = headBs x0 x1 x2 x3)) := by unfold okH2; rw [hhb]
        refine ⟨y, rfl, fun x w' => x = okH2 bs ∧ Fr [] w9 w', ⟨fun h8 => ?_, fun h8 => ?_⟩, ?_⟩
        · rw [hyl, hsl] at h8
          have h9 := h8
          simp only [decide_eq_true_eq] at h9
          have hcap := h.cap
          refine ⟨by omega, by omega, by omega, ?_⟩
          have e1 : ((y.l : Nat) : Int).toNat = (headBs x0 x1 x2 x3).length := by omega
          rw [e1]
          refine call (equal_c (xs := bs.take (headBs x0 x1 x2 x3).length) (cut_all (h.fr0 f09) (by simp) (by omega) (by simp)) hM.byt (by simp; omega)) ?_
          rintro _ w10 ⟨rfl, f10⟩
          exact ⟨_, rfl, by rw [ho2, h8]; rfl, f10⟩
        · rw [hyl, hsl] at h8
          exact ⟨by rw [ho2, h8]; rfl, Fr.refl _ _⟩
        rintro _ w10 ⟨rfl, f10⟩
        refine callG (must_c _ _ _) ?_ ?_
        · rintro _ _ ⟨rfl, hk2, rfl⟩
          have hC10 := hC9.fr f10 (by simp)
          have hB310 := hB39.fr f10 (by simp)
          refine ⟨rfl, _, hC10.cell rfl, _, hC10.cell rfl, _, hC10.cell rfl, _, hC10.cell rfl, hB310.stoAll rfl fun w11 hB11 f11 => ?_⟩
          refine ⟨_, hB11.cell rfl, _, hB11.cell rfl, _, hB11.cell rfl, _, hB11.cell rfl, Ge.ok ⟨by unfold okH; rw [hk, hk2]; rfl, ?_, (f09.then_ f10).local_ f11 fun x hx => .inr ?_⟩⟩
          · rw [hhb, hyl, hrh]; rfl
          · simp at hx
            rw [hx, nb3.at_]
            exact Nat.le_refl _
        · rintro n _ ⟨rfl, hk2, rfl⟩
          exact Ge.no ⟨by unfold okH; rw [hk2]; simp, rfl, f09.then_ f10⟩
      · rintro n _ ⟨rfl, hk, rfl⟩
        exact Ge.no ⟨by unfold okH; rw [hk]; rfl, rfl, f07.then_ f8⟩
end Go.Proofs.YtflcdgkckfcofaaGreatDoor
