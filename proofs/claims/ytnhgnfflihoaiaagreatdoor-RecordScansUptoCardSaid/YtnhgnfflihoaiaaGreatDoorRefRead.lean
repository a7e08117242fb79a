/-
  Contracts of the reference's reader of bytes.
-/
import Derived.Test.YtnhgnfflihoaiaaGreatDoorPlain
import Derived.Test.YtnhgnfflihoaiaaGreatDoorSep
namespace Go.Vc
open Go
def fs : Nat → List UInt8 → Nat
  | 0, _ => 0
  | _ + 1, [] => 0
  | k + 1, c :: r => if c.toNat < 128 then 1 else if fs k r = 0 then 0 else fs k r + 1
def val7 : List UInt8 → Nat
  | [] => 0
  | c :: r => c.toNat % 128 + 128 * val7 r
theorem fs_le : ∀ (k : Nat) (l : List UInt8), fs k l ≤ k ∧ fs k l ≤ l.length
  | 0, _ => by simp [fs]
  | _ + 1, [] => by simp [fs]
  | k + 1, c :: r => by
    have := fs_le k r
    simp only [fs, List.length_cons]
    split
    · omega
    · split <;> omega
theorem val7_lt : ∀ (l : List UInt8), val7 l < 128 ^ l.length
  | [] => by simp [val7]
  | c :: r => by
    have := val7_lt r
    simp only [val7, List.length_cons, Nat.pow_succ]
    omega
theorem rnum_fs (max : Int) : ∀ (k : Nat) (l : List UInt8) (i n0 : Nat), i + k = 9 → rnum max i n0 l =
    if fs k l = 0 then (0, 0, if k ≤ l.length then 31 else 30)
    else if l[fs k l - 1]? = some 0 ∧ 0 < i + (fs k l - 1) then (0, 0, 31)
    else if max < ((n0 + val7 (l.take (fs k l)) * 128 ^ i : Nat) : Int) then (0, 0, 33) else (((n0 + val7 (l.take (fs k l)) * 128 ^ i : Nat) : Int), i + fs k l, 0)
  | 0, [], i, n0, h => by rw [rnum, if_neg (by omega)]; simp [fs]
  | 0, c :: r, i, n0, h => by rw [rnum, if_neg (by omega)]; simp [fs]
  | k + 1, [], i, n0, h => by rw [rnum, if_pos (by omega)]; simp [fs]
  | k + 1, c :: r, i, n0, h => by
    rw [rnum, if_pos (by omega)]
    by_cases hc : c.toNat < 128
    · have e : fs (k + 1) (c :: r) = 1 := by rw [fs, if_pos hc]
      rw [if_pos hc, e]
      have hz : ((c :: r)[1 - 1]? = some 0) ↔ c.toNat = 0 := by
        simp
        exact ⟨fun h => by rw [h]; rfl, fun h => UInt8.toNat_inj.1 (by simpa using h)⟩
      have hv : val7 ((c :: r).take 1) = c.toNat % 128 := by simp [val7]
      rw [hv]
      by_cases h0 : c.toNat = 0 ∧ 0 < i
      · rw [if_pos h0, if_neg (show ¬ (1 = 0) by omega), if_pos ⟨hz.2 h0.1, by omega⟩]
      · rw [if_neg h0, if_neg (show ¬ (1 = 0) by omega), if_neg (show ¬ ((c :: r)[1 - 1]? = some 0 ∧ 0 < i + (1 - 1)) by rw [hz]; exact fun hh => h0 ⟨hh.1, by omega⟩)]
    · rw [if_neg hc, rnum_fs max k r (i + 1) _ (by omega)]
      have e : fs (k + 1) (c :: r) = if fs k r = 0 then 0 else fs k r + 1 := by rw [fs, if_neg hc]
      by_cases h0 : fs k r = 0
      · rw [e, if_pos h0, if_pos h0, if_pos rfl]
        simp
      · rw [e]
        simp only [if_neg h0]
        rw [if_neg (show ¬ (fs k r + 1 = 0) by omega)]
        have g1 : (c :: r)[fs k r + 1 - 1]? = r[fs k r - 1]? := by
          obtain ⟨m, hm⟩ : ∃ m, fs k r = m + 1 := ⟨fs k r - 1, by omega⟩
          rw [hm]; simp
        have g2 : n0 + c.toNat % 128 * 128 ^ i + val7 (r.take (fs k r)) * 128 ^ (i + 1) = n0 + val7 ((c :: r).take (fs k r + 1)) * 128 ^ i := by
          simp only [List.take_succ_cons, val7, Nat.pow_succ, Nat.add_mul]
          rw [Nat.add_assoc]
          congr 2
          rw [Nat.mul_comm (128 ^ i) 128, ← Nat.mul_assoc, Nat.mul_comm (val7 _) 128]
        rw [g1, g2]
        have g3 : i + 1 + (fs k r - 1) = i + (fs k r + 1 - 1) := by omega
        have g4 : i + 1 + fs k r = i + (fs k r + 1) := by omega
        rw [g3, g4]
theorem fs_at : ∀ (k : Nat) (l : List UInt8), (∀ j (hj : j < l.length), j < k → fs k l = 0 ∨ j + 1 < fs k l → ¬ l[j].toNat < 128) ∧ (∀ (h : 0 < fs k l), ∃ h2 : fs k l - 1 < l.length, l[fs k l - 1].toNat < 128)
  | 0, l => ⟨fun j _ hj => by omega, fun h => by simp [fs] at h⟩
  | k + 1, [] => ⟨fun j hj => by simp at hj, fun h => by simp [fs] at h⟩
  | k + 1, c :: r => by
    obtain ⟨h1, h2⟩ := fs_at k r
    by_cases hc : c.toNat < 128
    · have e : fs (k + 1) (c :: r) = 1 := by rw [fs, if_pos hc]
      rw [e]
      exact ⟨fun j hj _ h => by omega, fun _ => ⟨by simp, by simpa using hc⟩⟩
    · have e : fs (k + 1) (c :: r) = if fs k r = 0 then 0 else fs k r + 1 := by rw [fs, if_neg hc]
      rw [e]
      refine ⟨fun j hj hjk h => ?_, fun h => ?_⟩
      · cases j with
        | zero => simpa using hc
        | succ j =>
          simp only [List.getElem_cons_succ]
          refine h1 j (by simpa using hj) (by omega) ?_
          by_cases h0 : fs k r = 0
          · exact .inl h0
          · rw [if_neg h0] at h
            rcases h with h | h <;> omega
      · by_cases h0 : fs k r = 0
        · rw [if_pos h0] at h; omega
        · have hp : 0 < fs k r := by omega
          obtain ⟨a, b⟩ := h2 hp
          simp only [if_neg h0]
          obtain ⟨m, hm⟩ : ∃ m, fs k r = m + 1 := ⟨fs k r - 1, by omega⟩
          simp only [hm] at a b ⊢
          exact ⟨by simpa using a, by simpa using b⟩
theorem val7_snoc : ∀ (l : List UInt8) (i : Nat) (h : i < l.length), val7 (l.drop i) = val7 (l.drop (i + 1)) * 128 + l[i].toNat % 128 := by
  intro l i h
  rw [List.drop_eq_getElem_cons h, val7]
  omega
end Go.Vc
namespace Go.Proofs.YtnhgnfflihoaiaaGreatDoor
open Go Go.Vc Go.Vc.Asn
theorem tmod128 (c : UInt8) : (c.toNat : Int).tmod 128 = ((c.toNat % 128 : Nat) : Int) := by
  rw [Int.tmod_eq_emod_of_nonneg (by omega)]; omega
theorem qnumber_c {w : World} {s : Slc} {bs : List UInt8} {max : Int} (h : Byt w s bs) (hm : bs.length ≤ 140737488355328) :
    Calls PP F_sherdref07_number #[s.v, .int .i64 max] w (Rt fun v w' => v = .tuple #[.int .i64 (rnum max 0 0 bs).1, .int .i64 ((rnum max 0 0 bs).2.1 : Int), .int .i64 (rnum max 0 0 bs).2.2] ∧ w = w') := by
  have hl := h.len
  have hr := rnum_fs max 9 bs 0 0 rfl
  obtain ⟨l1, l2⟩ := fs_le 9 bs
  obtain ⟨f1, f2⟩ := fs_at 9 bs
  refine sim_sherdref07_number _ _ _ _ ?_
  unfold vc_sherdref07_number
  refine ⟨fun size i w' => w = w' ∧ ∃ j : Nat, i = (j : Int) ∧ j ≤ bs.length ∧ j ≤ 9 ∧ ((size = 0 ∧ (∀ k (hk : k < bs.length), k < j → ¬ bs[k].toNat < 128)) ∨ (size = (fs 9 bs : Int) ∧ 0 < fs 9 bs)), fun size i _ => (if size = 0 then 1 else 0) + (9 - i.toNat), ⟨rfl, 0, rfl, by omega, by omega, .inl ⟨rfl, fun k _ hk => by omega⟩⟩, ?_⟩
  rintro size _ _ ⟨rfl, j, rfl, hj, hj9, hs⟩
  refine ⟨fun hc => ?_, fun hc => ?_⟩
  · simp only [Bool.and_eq_true, decide_eq_true_eq, hl] at hc
    obtain ⟨⟨c1, c2⟩, rfl⟩ := hc
    have hjl : j < bs.length := by omega
    rcases hs with ⟨_, hs⟩ | ⟨hs, hs2⟩
    rotate_left
    · omega
    obtain ⟨p, hp, hcell⟩ := h.get hjl
    have hlow : ∀ {x : Nat}, fs 9 bs = x + 1 → x < j → False := fun {x} e hx => by
      obtain ⟨a, b⟩ := f2 (by omega)
      have e2 : fs 9 bs - 1 = x := by omega
      simp only [e2] at a b
      exact hs x a hx b
    refine ⟨fun sz w' => w = w' ∧ ((sz = 0 ∧ ¬ bs[j].toNat < 128) ∨ (sz = (j : Int) + 1 ∧ bs[j].toNat < 128)), ⟨p, hp, by omega, by omega, _, by rw [Int.toNat_natCast, Nat.mul_one]; exact hcell, fun h => ?_, fun h => ?_⟩, ?_⟩
    · simp only [decide_eq_true_eq] at h
      rw [wr64 (by omega) (by omega)]
      exact ⟨rfl, .inr ⟨rfl, by omega⟩⟩
    · simp only [decide_eq_false_iff_not] at h
      exact ⟨rfl, .inl ⟨rfl, by omega⟩⟩
    · rintro sz _ ⟨rfl, hsz⟩
      rw [wr64 (by omega) (by omega)]
      rcases hsz with ⟨rfl, hb⟩ | ⟨rfl, hb⟩
      · refine ⟨⟨rfl, j + 1, rfl, by omega, by omega, .inl ⟨rfl, fun k hk hkj => ?_⟩⟩, by simp; omega⟩
        rcases Nat.lt_or_ge k j with h3 | h3
        · exact hs k hk h3
        · have : k = j := by omega
          subst this; exact hb
      · have e : fs 9 bs = j + 1 := by
          rcases Nat.lt_trichotomy (fs 9 bs) (j + 1) with h3 | h3 | h3
          · exfalso
            by_cases h0 : fs 9 bs = 0
            · exact f1 j hjl (by omega) (.inl h0) hb
            · exact hlow (x := fs 9 bs - 1) (by omega) (by omega)
          · exact h3
          · exact absurd hb (f1 j hjl (by omega) (.inr h3))
        refine ⟨⟨rfl, j + 1, rfl, by omega, by omega, .inr ⟨by omega, by omega⟩⟩, ?_⟩
        dsimp only
        rw [if_neg (show ¬ ((j : Int) + 1 = 0) by omega), if_pos rfl]
        omega
  · -- the size is known
    have hsz : size = (fs 9 bs : Int) := by
      rcases hs with ⟨rfl, hs⟩ | ⟨hs, _⟩
      · have hc2 : j = bs.length ∨ j = 9 := by
          by_cases a1 : j = bs.length
          · exact .inl a1
          · by_cases a2 : j = 9
            · exact .inr a2
            · exfalso
              have b1 : (j : Int) < (s.l : Int) := by omega
              have b2 : (j : Int) < 9 := by omega
              simp [b1, b2] at hc
        by_cases h0 : fs 9 bs = 0
        · rw [h0]; rfl
        · obtain ⟨a, b⟩ := f2 (by omega)
          exact absurd b (hs _ a (by omega))
      · exact hs
    subst hsz
    refine ⟨fun h1 => ?_, fun h1 => ⟨fun h2 => ?_, fun h2 => ?_⟩⟩
    · simp only [Bool.and_eq_true, decide_eq_true_eq, hl] at h1
      have h1a : fs 9 bs = 0 := by omega
      have h1b : 9 ≤ bs.length := by omega
      rw [if_pos h1a, if_pos h1b] at hr
      exact Rt.ok ⟨by rw [hr]; rfl, rfl⟩
    · simp only [decide_eq_true_eq] at h2
      simp only [h2, hl, decide_true, Bool.true_and, decide_eq_false_iff_not] at h1
      have h1a : fs 9 bs = 0 := by omega
      have h1b : ¬ 9 ≤ bs.length := by omega
      rw [if_pos h1a, if_neg h1b] at hr
      exact Rt.ok ⟨by rw [hr]; rfl, rfl⟩
    · simp only [decide_eq_false_iff_not] at h2
      have hpos : 0 < fs 9 bs := by omega
      rw [if_neg (by omega)] at hr
      have ew : wr .i64 ((fs 9 bs : Int) - 1) = ((fs 9 bs - 1 : Nat) : Int) := by rw [wr64 (by omega) (by omega)]; omega
      rw [ew]
      obtain ⟨p, hp, hcell⟩ := h.get (i := fs 9 bs - 1) (by omega)
      refine ⟨decide (1 < fs 9 bs) && decide (bs[fs 9 bs - 1]'(by omega) = 0), fun h3 => ⟨p, hp, by omega, by omega, _, by rw [Int.toNat_natCast, Nat.mul_one]; exact hcell, ?_⟩, fun h3 => ?_, fun h3 => ?_, fun h3 => ?_⟩
      · simp only [decide_eq_true_eq] at h3
        have h4 : 1 < fs 9 bs := by omega
        simp only [h4, decide_true, Bool.true_and]
        congr 1
        apply propext
        exact ⟨fun e => by rw [e]; rfl, fun e => UInt8.toNat_inj.1 (by have : (bs[fs 9 bs - 1]'(by omega)).toNat = 0 := by omega
                                                                       simpa using this)⟩
      · simp only [decide_eq_false_iff_not] at h3
        have h4 : ¬ 1 < fs 9 bs := by omega
        simp [h4]
      · simp only [Bool.and_eq_true, decide_eq_true_eq] at h3
        rw [if_pos ⟨by rw [List.getElem?_eq_getElem (by omega), h3.2], by omega⟩] at hr
        exact Rt.ok ⟨by rw [hr]; rfl, rfl⟩
      · have hnz : ¬ (bs[fs 9 bs - 1]? = some 0 ∧ 0 < 0 + (fs 9 bs - 1)) := by
          rintro ⟨e1, e2⟩
          rw [List.getElem?_eq_getElem (by omega)] at e1
          injection e1 with e1
          rw [e1] at h3
          simp at h3
          omega
        rw [if_neg hnz] at hr
        have hv0 : val7 ((bs.take (fs 9 bs)).drop (fs 9 bs)) = 0 := by rw [List.drop_eq_nil_of_le (by simp; omega)]; rfl
        refine ⟨fun n i w' => w = w' ∧ ∃ k : Nat, i = (k : Int) - 1 ∧ k ≤ fs 9 bs ∧ n = (val7 ((bs.take (fs 9 bs)).drop k) : Int), fun _ i _ => (i + 1).toNat, ⟨rfl, fs 9 bs, by omega, by omega, by rw [hv0]; rfl⟩, ?_⟩
        rintro n _ _ ⟨rfl, k, rfl, hk, rfl⟩
        have hlt := val7_lt ((bs.take (fs 9 bs)).drop k)
        have hlen : ((bs.take (fs 9 bs)).drop k).length ≤ 9 - k := by simp; omega
        have hp9 : 128 ^ ((bs.take (fs 9 bs)).drop k).length ≤ 128 ^ (9 - k) := Nat.pow_le_pow_right (by omega) hlen
        refine ⟨fun h4 => ?_, fun h4 => ?_⟩
        · simp only [decide_eq_true_eq] at h4
          obtain ⟨k, rfl⟩ : ∃ m, k = m + 1 := ⟨k - 1, by omega⟩
          obtain ⟨q, hq, hcell⟩ := h.get (i := k) (by omega)
          have hkk : k < (bs.take (fs 9 bs)).length := by simp; omega
          have hsn := val7_snoc (bs.take (fs 9 bs)) k hkk
          rw [List.getElem_take] at hsn
          have hp8 : 128 ^ (9 - (k + 1)) ≤ 128 ^ 8 := Nat.pow_le_pow_right (by omega) (by omega)
          have h72 : (128 : Nat) ^ 8 = 72057594037927936 := rfl
          have e1 : ((k + 1 : Nat) : Int) - 1 = (k : Int) := by omega
          rw [e1]
          refine ⟨q, hq, by omega, by omega, _, by rw [Int.toNat_natCast, Nat.mul_one]; exact hcell, ?_⟩
          rw [tmod128]
          have hb := bs[k].toNat_lt
          generalize hV : val7 ((bs.take (fs 9 bs)).drop (k + 1)) = V at *
          generalize hW : val7 ((bs.take (fs 9 bs)).drop k) = W at *
          rw [wr64 (n := (V : Int) * 128) (by omega) (by omega), wr64 (n := ((bs[k].toNat % 128 : Nat) : Int)) (by omega) (by omega), wr64 (n := (V : Int) * 128 + ((bs[k].toNat % 128 : Nat) : Int)) (by omega) (by omega), wr64 (n := (k : Int) - 1) (by omega) (by omega)]
          exact ⟨⟨rfl, k, rfl, by omega, by rw [hW]; omega⟩, by dsimp only; omega⟩
        · simp only [decide_eq_false_iff_not] at h4
          have hk0 : k = 0 := by omega
          subst hk0
          rw [List.drop_zero] at *
          simp only [Nat.zero_add, Nat.pow_zero, Nat.mul_one] at hr
          refine ⟨fun h5 => Rt.ok ⟨?_, rfl⟩, fun h5 => Rt.ok ⟨?_, rfl⟩⟩
          · simp only [decide_eq_true_eq] at h5
            rw [if_pos h5] at hr
            rw [hr]; rfl
          · simp only [decide_eq_false_iff_not] at h5
            rw [if_neg h5] at hr
            rw [hr]
/-! ## The reader -/
def QRd (p : Nat) (x : List UInt8 × RS) : Asn := ex fun s : Slc => lift (x.2.at_ ≤ x.1.length ∧ x.1.length ≤ 1099511627776) (star (bk p Ty_sherdref07_Reader #[s.v, .int .i64 (x.2.at_ : Int), .int .i64 x.2.err]) (own Ty_uint8 1 s (x.1.map u8v)))
section
variable {w0 w : World} {A F : Asn} {p : Nat} {bs : List UInt8} {st : RS} {max : Int}
theorem qrd_open (H : Hp w0 w (star (obj QRd p (bs, st)) F)) : ∃ s : Slc, st.at_ ≤ bs.length ∧ bs.length ≤ 1099511627776 ∧ Hp w0 w (star (bk p Ty_sherdref07_Reader #[s.v, .int .i64 (st.at_ : Int), .int .i64 st.err]) (star (own Ty_uint8 1 s (bs.map u8v)) F)) := by
  obtain ⟨s, H⟩ := Hp.ex (f := fun s : Slc => lift (st.at_ ≤ bs.length ∧ bs.length ≤ 1099511627776) (star (bk p Ty_sherdref07_Reader #[s.v, .int .i64 (st.at_ : Int), .int .i64 st.err]) (own Ty_uint8 1 s (bs.map u8v)))) H
  obtain ⟨⟨h1, h2⟩, H⟩ := H.lift
  exact ⟨s, h1, h2, H.assoc⟩
theorem qrd_close {s : Slc} (h1 : st.at_ ≤ bs.length) (h2 : bs.length ≤ 1099511627776) (H : Hp w0 w (star (bk p Ty_sherdref07_Reader #[s.v, .int .i64 (st.at_ : Int), .int .i64 st.err]) (star (own Ty_uint8 1 s (bs.map u8v)) F))) : Hp w0 w (star (obj QRd p (bs, st)) F) :=
  Hp.exI (f := fun s : Slc => lift (st.at_ ≤ bs.length ∧ bs.length ≤ 1099511627776) (star (bk p Ty_sherdref07_Reader #[s.v, .int .i64 (st.at_ : Int), .int .i64 st.err]) (own Ty_uint8 1 s (bs.map u8v)))) s (Hp.liftI ⟨h1, h2⟩ H.assoc')
theorem Hp.byt {s : Slc} {bs : List UInt8} [h : TakeS s A Ty_uint8 1 (bs.map u8v) F] (H : Hp w0 w A) : Byt w s bs := (h.e |> fun _ => H.cel)
theorem rnum_size (max : Int) (l : List UInt8) : (rnum max 0 0 l).2.1 ≤ l.length := by
  rw [rnum_fs max 9 l 0 0 rfl]
  have := (fs_le 9 l).2
  split
  · simp
  · split
    · simp
    · split <;> simp <;> omega
theorem uintR_le (h : st.at_ ≤ bs.length) : (uintR bs max st).2.at_ ≤ bs.length := by
  unfold uintR
  split
  · exact h
  · have := rnum_size max (bs.drop st.at_)
    simp at this ⊢
    omega
theorem Hp.copyOf (H : Hp w0 w A) {y : Slc} {ys : List UInt8} {ty : TypeId} {K : Slc → World → Prop} (hy : Byt w y ys) (hm : ys.length ≤ 140737488355328)
    (k : ∀ s' w', Hp w0 w' (star (own Ty_uint8 1 s' (ys.map u8v)) A) → K s' w') : New w #[] Ty_uint8 fun b w1 => App PP Ty_sl_uint8 Ty_sl_uint8 ty w1 (Slc.v (Slc.mk (some (blk b)) 0 0)) y.v K :=
  New.intro fun b w1 nb => by
    have hyl := hy.len
    have H1 : Hp w0 w1 (star (own Ty_uint8 1 ⟨some (blk b), 0, 0⟩ []) A) := H.row nb rfl (by simp) (by decide)
    refine H1.app slT_sl_uint8 (hy.fr0 nb.fr) (one_u8 _) (by unfold maxLen; simp only; omega) (by simp only; omega) fun s' w' H' hl => k s' w' (by simpa using H')
theorem qr_new {s : Slc} (H : Hp w0 w A) (hb : Byt w s bs) (hm : bs.length ≤ 1099511627776) :
    Calls PP F_sherdref07_NewReader #[s.v] w (Rt fun v w' => ∃ p, v = .pointer (some (blk p)) ∧ Hp w0 w' (star (obj QRd p (bs, ⟨0, 0⟩)) A)) := by
  refine sim_sherdref07_NewReader _ _ _ ?_
  unfold vc_sherdref07_NewReader
  exact Hp.copyOf H hb (by omega) fun s' w1 H => H.new fun p w2 H => Rt.ok ⟨p, rfl, qrd_close (Nat.zero_le _) hm H⟩
theorem qr_byte (H : Hp w0 w (star (obj QRd p (bs, st)) F)) :
    Calls PP F_sherdref07_Reader_Byte #[.pointer (some (blk p))] w (Rt fun v w' => v = u8v (byteR bs st).1 ∧ Hp w0 w' (star (obj QRd p (bs, (byteR bs st).2)) F)) := by
  obtain ⟨s, h1, h2, H⟩ := qrd_open H
  have hsl := (Hp.byt (s := s) (bs := bs) H).len
  refine sim_sherdref07_Reader_Byte _ _ _ ?_
  unfold vc_sherdref07_Reader_Byte byteR
  refine ⟨_, rfl, _, H.cell (i := 2) rfl, fun h => ?_, fun h => ?_⟩
  · simp only [ne_eq, decide_not, Bool.not_eq_true', decide_eq_false_iff_not] at h
    rw [if_pos h]
    exact Rt.ok ⟨rfl, qrd_close h1 h2 H⟩
  · simp only [ne_eq, decide_not, Bool.not_eq_false', decide_eq_true_eq] at h
    rw [if_neg (by simpa using h)]
    refine ⟨_, H.cell (i := 1) rfl, s, H.cell (i := 0) rfl, fun k => ⟨fun h3 => ?_, fun h3 => ?_⟩⟩
    · simp only [decide_eq_true_eq, hsl] at h3
      rw [List.getElem?_eq_none (by omega)]
      exact (H.drew k).sto (i := 2) (lt_ rfl) fun w1 H => Rt.ok ⟨rfl, qrd_close h1 h2 H⟩
    · simp only [decide_eq_false_iff_not, hsl] at h3
      have hlt : st.at_ < bs.length := by omega
      rw [List.getElem?_eq_getElem hlt]
      refine ⟨_, (H.drew k).cell (i := 1) rfl, ?_⟩
      rw [wr64 (by omega) (by omega)]
      refine (H.drew k).sto (i := 1) (lt_ rfl) fun w1 H => ⟨s, H.cell (i := 0) rfl, _, H.cell (i := 1) rfl, ?_⟩
      obtain ⟨a, ha, hc⟩ := (Hp.byt (s := s) (bs := bs) H).get hlt
      have e : wr .i64 ((st.at_ : Int) + 1 - 1) = (st.at_ : Int) := by rw [wr64 (by omega) (by omega)]; omega
      rw [e]
      exact ⟨a, ha, by omega, by omega, _, by rw [Int.toNat_natCast, Nat.mul_one]; exact hc, fun k2 => Rt.ok ⟨rfl, (qrd_close (st := ⟨st.at_ + 1, 0⟩) hlt h2 (by rw [h] at H; simpa using H)).drew k2⟩⟩
theorem qr_bool (H : Hp w0 w (star (obj QRd p (bs, st)) F)) :
    Calls PP F_sherdref07_Reader_Bool #[.pointer (some (blk p))] w (Rt fun v w' => v = .bool (boolR bs st).1 ∧ Hp w0 w' (star (obj QRd p (bs, (boolR bs st).2)) F)) := by
  obtain ⟨s, h1, h2, H⟩ := qrd_open H
  have hsl := (Hp.byt (s := s) (bs := bs) H).len
  refine sim_sherdref07_Reader_Bool _ _ _ ?_
  unfold vc_sherdref07_Reader_Bool boolR
  refine ⟨_, rfl, _, H.cell (i := 2) rfl, fun h => ?_, fun h => ?_⟩
  · simp only [ne_eq, decide_not, Bool.not_eq_true', decide_eq_false_iff_not] at h
    rw [if_pos h]
    exact Rt.ok ⟨rfl, qrd_close h1 h2 H⟩
  · simp only [ne_eq, decide_not, Bool.not_eq_false', decide_eq_true_eq] at h
    rw [if_neg (by simpa using h)]
    refine ⟨_, H.cell (i := 1) rfl, s, H.cell (i := 0) rfl, fun k => ⟨fun h3 => ?_, fun h3 => ?_⟩⟩
    · simp only [decide_eq_true_eq, hsl] at h3
      rw [List.getElem?_eq_none (by omega)]
      exact (H.drew k).sto (i := 2) (lt_ rfl) fun w1 H => Rt.ok ⟨rfl, qrd_close h1 h2 H⟩
    · simp only [decide_eq_false_iff_not, hsl] at h3
      have hlt : st.at_ < bs.length := by omega
      rw [List.getElem?_eq_getElem hlt]
      obtain ⟨a, ha, hc⟩ := (Hp.byt (s := s) (bs := bs) (H.drew k)).get hlt
      refine ⟨s, (H.drew k).cell (i := 0) rfl, _, (H.drew k).cell (i := 1) rfl, a, ha, by omega, by omega, _, by rw [Int.toNat_natCast, Nat.mul_one]; exact hc, fun k2 => ⟨fun h4 => ?_, fun h4 => ?_⟩⟩
      · simp only [decide_eq_true_eq] at h4
        simp only
        rw [if_pos (by omega)]
        exact ((H.drew k).drew k2).sto (i := 2) (lt_ rfl) fun w1 H => Rt.ok ⟨rfl, qrd_close h1 h2 H⟩
      · simp only [decide_eq_false_iff_not] at h4
        simp only
        rw [if_neg (by omega)]
        refine ⟨_, ((H.drew k).drew k2).cell (i := 1) rfl, ?_⟩
        rw [wr64 (by omega) (by omega)]
        refine ((H.drew k).drew k2).sto (i := 1) (lt_ rfl) fun w1 H => ⟨s, H.cell (i := 0) rfl, _, H.cell (i := 1) rfl, ?_⟩
        obtain ⟨a, ha, hc⟩ := (Hp.byt (s := s) (bs := bs) H).get hlt
        have e : wr .i64 ((st.at_ : Int) + 1 - 1) = (st.at_ : Int) := by rw [wr64 (by omega) (by omega)]; omega
        rw [e]
        refine ⟨a, ha, by omega, by omega, _, by rw [Int.toNat_natCast, Nat.mul_one]; exact hc, fun k3 => Rt.ok ⟨?_, (qrd_close (st := ⟨st.at_ + 1, 0⟩) hlt h2 (by rw [h] at H; simpa using H)).drew k3⟩⟩
        congr 1
        rw [decide_eq_decide]
        exact ⟨fun e => UInt8.toNat_inj.1 (by simpa using (by omega : bs[st.at_].toNat = 1)), fun e => by rw [e]; rfl⟩
theorem qr_uint (H : Hp w0 w (star (obj QRd p (bs, st)) F)) :
    Calls PP F_sherdref07_Reader_Uint #[.pointer (some (blk p)), .int .i64 max] w (Rt fun v w' => v = .int .i64 (uintR bs max st).1 ∧ Hp w0 w' (star (obj QRd p (bs, (uintR bs max st).2)) F)) := by
  have hle := fun h => uintR_le (bs := bs) (max := max) (st := st) h
  obtain ⟨s, h1, h2, H⟩ := qrd_open H
  have hsl := (Hp.byt (s := s) (bs := bs) H).len
  have hsc := (Hp.byt (s := s) (bs := bs) H).cap
  replace hle := hle h1
  refine sim_sherdref07_Reader_Uint _ _ _ _ ?_
  unfold vc_sherdref07_Reader_Uint
  unfold uintR at hle ⊢
  refine ⟨_, rfl, _, H.cell (i := 2) rfl, fun h => ?_, fun h => ?_⟩
  · simp only [ne_eq, decide_not, Bool.not_eq_true', decide_eq_false_iff_not] at h
    rw [if_pos h]
    exact Rt.ok ⟨rfl, qrd_close h1 h2 H⟩
  · simp only [ne_eq, decide_not, Bool.not_eq_false', decide_eq_true_eq] at h
    rw [if_neg (by simpa using h)] at hle ⊢
    have H := H.drew 1
    refine ⟨s, H.cell (i := 0) rfl, _, H.cell (i := 1) rfl, by omega, by omega, by omega, ?_⟩
    refine call (qnumber_c (bs := bs.drop st.at_) (cut_all (Hp.byt (s := s) (bs := bs) H) (by omega) (by omega) (by rw [Int.toNat_natCast, Int.toNat_natCast, List.take_of_length_le (by simp; omega)])) (by simp; omega)) ?_
    rintro _ _ ⟨rfl, rfl⟩
    refine ⟨_, _, _, rfl, H.sto (i := 2) (lt_ rfl) fun w1 H => ⟨_, H.cell (i := 1) rfl, ?_⟩⟩
    have hz := rnum_size max (bs.drop st.at_)
    simp at hz
    simp only at hle
    rw [wr64 (by omega) (by omega)]
    refine H.sto (i := 1) (lt_ rfl) fun w2 H => Rt.ok ⟨rfl, qrd_close (st := ⟨st.at_ + (rnum max 0 0 (bs.drop st.at_)).2.1, (rnum max 0 0 (bs.drop st.at_)).2.2⟩) hle h2 (by simpa using H)⟩
theorem bytesR_le (h : st.at_ ≤ bs.length) : (bytesR bs max st).2.at_ ≤ bs.length := by
  unfold bytesR
  split
  · exact h
  · split
    · exact h
    · rename_i h2
      have hz := rnum_size max (bs.drop st.at_)
      simp only [ne_eq, Decidable.not_not] at h2
      unfold bytesE at h2
      split at h2
      · cases h2
      · rename_i h3
        simp at hz ⊢
        have : ¬ ((bs.length - st.at_ - (rnum max 0 0 (bs.drop st.at_)).2.1 : Nat) : Int) < (rnum max 0 0 (bs.drop st.at_)).1 := fun h => h3 ⟨h2, h⟩
        omega
theorem qr_bytes (H : Hp w0 w (star (obj QRd p (bs, st)) F)) :
    Calls PP F_sherdref07_Reader_Bytes #[.pointer (some (blk p)), .int .i64 max] w (Rt fun v w' => ∃ y : Slc, v = y.v ∧ Hp w0 w' (star (own Ty_uint8 1 y ((bytesR bs max st).1.map u8v)) (star (obj QRd p (bs, (bytesR bs max st).2)) F))) := by
  have hle := fun h => bytesR_le (bs := bs) (max := max) (st := st) h
  obtain ⟨s, h1, h2, H⟩ := qrd_open H
  have hsl := (Hp.byt (s := s) (bs := bs) H).len
  have hsc := (Hp.byt (s := s) (bs := bs) H).cap
  replace hle := hle h1
  refine sim_sherdref07_Reader_Bytes _ _ _ _ ?_
  unfold vc_sherdref07_Reader_Bytes
  unfold bytesR at hle ⊢
  refine ⟨_, rfl, _, H.cell (i := 2) rfl, fun h => ?_, fun h => ?_⟩
  · simp only [ne_eq, decide_not, Bool.not_eq_true', decide_eq_false_iff_not] at h
    rw [if_pos h]
    exact Rt.ok ⟨Slc.nil, rfl, (qrd_close h1 h2 H).nilRow _ _⟩
  · simp only [ne_eq, decide_not, Bool.not_eq_false', decide_eq_true_eq] at h
    rw [if_neg (by simpa using h)] at hle ⊢
    have H := H.drew 1
    refine ⟨s, H.cell (i := 0) rfl, _, H.cell (i := 1) rfl, by omega, by omega, by omega, ?_⟩
    refine call (qnumber_c (bs := bs.drop st.at_) (cut_all (Hp.byt (s := s) (bs := bs) H) (by omega) (by omega) (by rw [Int.toNat_natCast, Int.toNat_natCast, List.take_of_length_le (by simp; omega)])) (by simp; omega)) ?_
    rintro _ _ ⟨rfl, rfl⟩
    have hz := rnum_size max (bs.drop st.at_)
    simp at hz
    have hE : bytesE bs max st = if (rnum max 0 0 (bs.drop st.at_)).2.2 = 0 ∧ ((bs.length - st.at_ - (rnum max 0 0 (bs.drop st.at_)).2.1 : Nat) : Int) < (rnum max 0 0 (bs.drop st.at_)).1 then 30 else (rnum max 0 0 (bs.drop st.at_)).2.2 := rfl
    have hnn : (rnum max 0 0 (bs.drop st.at_)).2.2 = 0 → 0 ≤ (rnum max 0 0 (bs.drop st.at_)).1 := fun he => by
      obtain ⟨m, _, _, e, _⟩ := rnum_inv max (bs.drop st.at_) 0 0 (by simp) he
      rw [e]; omega
    generalize hR : rnum max 0 0 (bs.drop st.at_) = R at *
    refine ⟨_, _, _, rfl, fun h3 => ?_, fun h3 => ?_⟩
    · simp only [ne_eq, decide_not, Bool.not_eq_true', decide_eq_false_iff_not] at h3
      rw [if_neg (fun h => h3 h.1)] at hE
      rw [hE, if_pos h3]
      exact H.sto (i := 2) (lt_ rfl) fun w1 H => Rt.ok ⟨Slc.nil, rfl, (qrd_close (st := ⟨st.at_, R.2.2⟩) h1 h2 H).nilRow _ _⟩
    · simp only [ne_eq, decide_not, Bool.not_eq_false', decide_eq_true_eq] at h3
      have hnn := hnn h3
      refine ⟨_, H.cell (i := 1) rfl, s, H.cell (i := 0) rfl, ?_⟩
      have e1 : wr .i64 ((st.at_ : Int) + (R.2.1 : Int)) = ((st.at_ + R.2.1 : Nat) : Int) := by rw [wr64 (by omega) (by omega)]; omega
      rw [e1, hsl, wr64 (by omega) (by omega)]
      refine ⟨fun h4 => ?_, fun h4 => ?_⟩
      · simp only [decide_eq_true_eq] at h4
        rw [if_pos ⟨h3, by omega⟩] at hE
        rw [hE, if_pos (by simp)]
        exact H.sto (i := 2) (lt_ rfl) fun w1 H => Rt.ok ⟨Slc.nil, rfl, (qrd_close (st := ⟨st.at_, 30⟩) h1 h2 H).nilRow _ _⟩
      · simp only [decide_eq_false_iff_not] at h4
        rw [if_neg (fun h => h4 (by have := h.2; omega)), h3] at hE
        rw [hE, if_neg (by simp)] at hle ⊢
        simp only at hle
        have e2 : wr .i64 (((st.at_ + R.2.1 : Nat) : Int) + R.1) = ((st.at_ + R.2.1 + R.1.toNat : Nat) : Int) := by rw [wr64 (by omega) (by omega)]; omega
        rw [e2]
        refine H.sto (i := 1) (lt_ rfl) fun w1 H => ?_
        have H := H.drew 1
        refine ⟨s, H.cell (i := 0) rfl, _, H.cell (i := 1) rfl, by omega, by omega, by omega, New.intro fun b w2 nb => ?_⟩
        have H2 := H.row (size := 1) (l := []) (e := Ty_uint8) (n := 0) nb rfl (by simp) (by decide)
        refine ⟨H2.cell (i := 0) rfl, H2.cell (i := 1) rfl, ?_⟩
        rw [Int.toNat_natCast, Int.toNat_natCast]
        have hcut : Byt w2 (s.cut 1 (st.at_ + R.2.1) (st.at_ + R.2.1 + R.1.toNat)) ((bs.drop (st.at_ + R.2.1)).take R.1.toNat) := cut_all (Hp.byt (s := s) (bs := bs) H2) (by omega) hle (by congr 1; omega)
        have hcl := hcut.len
        refine H2.app slT_sl_uint8 hcut (one_u8 _) (by unfold maxLen; simp only [List.length_take, List.length_drop] at hcl; simp only; omega) (by simp only [List.length_take, List.length_drop] at hcl; simp only; omega) fun y w3 H3 _ => Rt.ok ⟨y, rfl, ?_⟩
        have H3 : Hp w0 w3 (star (own Ty_uint8 1 y (((bs.drop (st.at_ + R.2.1)).take R.1.toNat).map u8v)) (star (bk p Ty_sherdref07_Reader #[s.v, .int .i64 ((st.at_ + R.2.1 + R.1.toNat : Nat) : Int), .int .i64 st.err]) (star (own Ty_uint8 1 s (bs.map u8v)) F))) := by simpa using H3
        rw [h] at H3
        exact (qrd_close (st := ⟨st.at_ + R.2.1 + R.1.toNat, 0⟩) hle h2 (F := star (own Ty_uint8 1 y (((bs.drop (st.at_ + R.2.1)).take R.1.toNat).map u8v)) F) ((H3.blk p).take (own Ty_uint8 1 s (bs.map u8v)) |>.swap)).swap
end
end Go.Proofs.YtnhgnfflihoaiaaGreatDoor
