/-
  Plain laws: a number's form is read back, and nothing else is read as that number.
-/
import Derived.Test.YtflcdgkckfcofaaGreatDoorScan
namespace Go.Vc
open Go
theorem u8_small {n : Nat} (h : n < 256) : (UInt8.ofNat n).toNat = n := by
  have := u8_ofNat h
  omega
theorem rnum_uv (max : Int) (rest : List UInt8) : ∀ (m i n0 : Nat), n0 < 128 ^ i → i + (uv m).length ≤ 9 → (i = 0 ∨ m ≠ 0) → ((n0 + m * 128 ^ i : Nat) : Int) ≤ max → rnum max i n0 (uv m ++ rest) = (((n0 + m * 128 ^ i : Nat) : Int), i + (uv m).length, 0) := by
  intro m
  induction m using Nat.strongRecOn with
  | ind m ih =>
    intro i n0 hn hi h0 hmx
    by_cases h : m < 128
    · rw [uv_small h] at hi ⊢
      simp only [List.length_singleton] at hi
      have e1 : (UInt8.ofNat m).toNat = m := u8_small (by omega)
      have e2 : m % 128 = m := Nat.mod_eq_of_lt h
      simp only [List.cons_append, List.nil_append]
      rw [rnum, if_pos (by omega), e1, e2, if_pos h, if_neg (by omega), if_neg (by omega)]
      rfl
    · have h128 : 128 ≤ m := by omega
      rw [uv_big h128] at hi ⊢
      simp only [List.length_cons] at hi
      have e1 : (UInt8.ofNat (m % 128 + 128)).toNat = m % 128 + 128 := u8_small (by omega)
      simp only [List.cons_append]
      rw [rnum, if_pos (by omega), e1, if_neg (by omega)]
      have e2 : (m % 128 + 128) % 128 = m % 128 := by omega
      have e3 : n0 + m % 128 * 128 ^ i + m / 128 * 128 ^ (i + 1) = n0 + m * 128 ^ i := by
        rw [Nat.pow_succ, Nat.add_assoc]
        congr 1
        have : m / 128 * (128 ^ i * 128) = 128 * (m / 128) * 128 ^ i := by
          rw [Nat.mul_comm (128 ^ i) 128, ← Nat.mul_assoc, Nat.mul_comm (m / 128) 128]
        rw [this, ← Nat.add_mul]
        congr 1
        omega
      have hlt : m % 128 * 128 ^ i ≤ 127 * 128 ^ i := Nat.mul_le_mul_right _ (by omega)
      have := ih (m / 128) (by omega) (i + 1) (n0 + m % 128 * 128 ^ i) (by rw [Nat.pow_succ]; omega) (by omega) (.inr (by omega)) (by rw [e3]; exact hmx)
      rw [e2, this, e3]
      simp only [List.length_cons]
      congr 2
      omega
theorem rnum_inv (max : Int) : ∀ (l : List UInt8) (i n0 : Nat), n0 < 128 ^ i → (rnum max i n0 l).2.2 = 0 → ∃ m r, l = uv m ++ r ∧ (rnum max i n0 l).1 = ((n0 + m * 128 ^ i : Nat) : Int) ∧ (rnum max i n0 l).2.1 = i + (uv m).length ∧ (i = 0 ∨ m ≠ 0)
  | [], i, n0 => by
    intro _ h
    rw [rnum] at h
    split at h <;> simp at h
  | c :: r, i, n0 => by
    intro hn h
    rw [rnum] at h ⊢
    have hx : c.toNat % 128 * 128 ^ i ≤ 127 * 128 ^ i := Nat.mul_le_mul_right _ (by omega)
    have hc := c.toNat_lt
    split at h
    · rename_i h9
      rw [if_pos h9]
      split at h
      · rename_i h1
        rw [if_pos h1]
        split at h
        · simp at h
        · rename_i h2
          rw [if_neg h2]
          split at h
          · simp at h
          · rename_i h3
            rw [if_neg h3]
            have e2 : c.toNat % 128 = c.toNat := Nat.mod_eq_of_lt h1
            refine ⟨c.toNat, r, ?_, by rw [e2], by rw [uv_small h1]; rfl, by omega⟩
            rw [uv_small h1]
            simp
      · rename_i h1
        rw [if_neg h1]
        obtain ⟨m, r', e1, e3, e4, e5⟩ := rnum_inv max r (i + 1) (n0 + c.toNat % 128 * 128 ^ i) (by rw [Nat.pow_succ]; omega) h
        have hm : m ≠ 0 := by rcases e5 with h | h <;> omega
        have hb : 128 ≤ c.toNat % 128 + 128 * m := by omega
        have euv : uv (c.toNat % 128 + 128 * m) = c :: uv m := by
          rw [uv_big hb]
          congr 1
          · have : (c.toNat % 128 + 128 * m) % 128 + 128 = c.toNat := by omega
            rw [this]
            simp
          · congr 1
            omega
        refine ⟨c.toNat % 128 + 128 * m, r', by rw [euv, e1]; rfl, ?_, by rw [e4, euv]; simp; omega, .inr (by omega)⟩
        rw [e3]
        congr 1
        rw [Nat.pow_succ, Nat.add_assoc, Nat.add_mul]
        congr 2
        rw [Nat.mul_comm 128 m, Nat.mul_assoc, Nat.mul_comm 128]
    · simp at h
theorem uintR_uv {bs pre rest : List UInt8} {max : Int} {n : Nat} (h : bs = pre ++ uv n ++ rest) (hmx : (n : Int) ≤ max) (hn : n < 9223372036854775808) : uintR bs max ⟨pre.length, 0⟩ = ((n : Int), ⟨pre.length + (uv n).length, 0⟩) := by
  have hd : bs.drop pre.length = uv n ++ rest := by rw [h, List.append_assoc, List.drop_left]
  have hr := rnum_uv max rest n 0 0 (by simp) (by have := uv_len9 hn; omega) (.inl rfl) (by simpa using hmx)
  rw [uintR, if_neg (by simp)]
  rw [hd, hr]
  simp
theorem uintR_inv {bs : List UInt8} {max : Int} {s : RS} (h0 : s.err = 0) (h : (uintR bs max s).2.err = 0) : ∃ n : Nat, (uintR bs max s).1 = (n : Int) ∧ (n : Int) ≤ max ∧ (uintR bs max s).2.at_ = s.at_ + (uv n).length ∧ ∃ rest, bs.drop s.at_ = uv n ++ rest := by
  rw [uintR, if_neg (by simpa using h0)] at h ⊢
  obtain ⟨m, r, e1, e2, e3, _⟩ := rnum_inv max (bs.drop s.at_) 0 0 (by simp) h
  obtain ⟨m', e4, e5, _⟩ := rnum_ok max (bs.drop s.at_) 0 0 (by simp) (by omega) h
  refine ⟨m, by rw [e2]; simp, ?_, by rw [e3]; simp, r, e1⟩
  rw [e2] at e4
  have : m' = m := by have := Int.ofNat.inj (by simpa using e4); simpa using this.symm
  omega
end Go.Vc

/-
  Plain laws: each thing that a reader takes, there and back.
-/
namespace Go.Vc
open Go
section
variable {bs pre rest : List UInt8} {s : RS}
theorem byteR_at {b : UInt8} (h : bs = pre ++ [b] ++ rest) : byteR bs ⟨pre.length, 0⟩ = (b, ⟨pre.length + 1, 0⟩) := by
  have : bs[pre.length]? = some b := by rw [h]; simp
  rw [byteR, if_neg (by simp), this]
theorem boolR_at {b : Bool} (h : bs = pre ++ [if b then 1 else 0] ++ rest) : boolR bs ⟨pre.length, 0⟩ = (b, ⟨pre.length + 1, 0⟩) := by
  have : bs[pre.length]? = some (if b then 1 else 0) := by rw [h]; simp
  rw [boolR, if_neg (by simp), this]
  cases b <;> rfl
theorem bytesR_at {d : List UInt8} {max : Nat} (h : bs = pre ++ uv d.length ++ d ++ rest) (hm : d.length ≤ max) (hn : d.length < 9223372036854775808) : bytesR bs (max : Int) ⟨pre.length, 0⟩ = (d, ⟨pre.length + (uv d.length).length + d.length, 0⟩) := by
  have hd : bs.drop pre.length = uv d.length ++ (d ++ rest) := by rw [h]; simp [List.append_assoc]
  have hr := rnum_uv (max : Int) (d ++ rest) d.length 0 0 (by simp) (by have := uv_len9 hn; omega) (.inl rfl) (by simp; omega)
  have hl : bs.length = pre.length + (uv d.length).length + d.length + rest.length := by rw [h]; simp; omega
  have hE : bytesE bs (max : Int) ⟨pre.length, 0⟩ = 0 := by
    unfold bytesE
    rw [hd, hr, if_neg]
    simp
    omega
  rw [bytesR, if_neg (by simp), if_neg (by rw [hE]; simp), hd, hr]
  simp only [Nat.zero_add, Nat.pow_zero, Nat.mul_one, Int.toNat_natCast]
  congr 1
  rw [h]
  have e : pre ++ uv d.length ++ d ++ rest = (pre ++ uv d.length) ++ (d ++ rest) := by simp [List.append_assoc]
  rw [e, show pre.length + (uv d.length).length = (pre ++ uv d.length).length by simp, List.drop_left, List.take_left]
theorem byteR_inv (h0 : s.err = 0) (h : (byteR bs s).2.err = 0) : (∃ r, bs.drop s.at_ = (byteR bs s).1 :: r) ∧ (byteR bs s).2.at_ = s.at_ + 1 := by
  rw [byteR, if_neg (by simpa using h0)] at h ⊢
  cases hb : bs[s.at_]? with
  | none => rw [hb] at h; simp at h
  | some b =>
    obtain ⟨hlt, rfl⟩ := List.getElem?_eq_some_iff.1 hb
    exact ⟨⟨_, List.drop_eq_getElem_cons hlt⟩, rfl⟩
theorem boolR_inv (h0 : s.err = 0) (h : (boolR bs s).2.err = 0) : (∃ r, bs.drop s.at_ = (if (boolR bs s).1 then 1 else 0) :: r) ∧ (boolR bs s).2.at_ = s.at_ + 1 := by
  have hB : boolR bs s = match bs[s.at_]? with | none => (false, ⟨s.at_, 30⟩) | some b => if 1 < b.toNat then (false, ⟨s.at_, 31⟩) else (decide (b = 1), ⟨s.at_ + 1, 0⟩) := by
    unfold boolR
    exact if_neg (by simpa using h0)
  rw [hB] at h ⊢
  cases hb : bs[s.at_]? with
  | none => rw [hb] at h; simp at h
  | some b =>
    obtain ⟨hlt, hbe⟩ := List.getElem?_eq_some_iff.1 hb
    rw [hb] at h
    by_cases h1 : 1 < b.toNat
    · simp [h1] at h
    · simp only [if_neg h1]
      refine ⟨⟨bs.drop (s.at_ + 1), ?_⟩, trivial⟩
      rw [List.drop_eq_getElem_cons hlt, hbe]
      congr 1
      by_cases hb1 : b = 1
      · simp [hb1]
      · have : b = 0 := UInt8.toNat_inj.1 (by
          have : b.toNat ≠ 1 := fun h => hb1 (UInt8.toNat_inj.1 (by simpa using h))
          show b.toNat = 0
          omega)
        simp [this]
theorem bytesR_inv {max : Int} (h0 : s.err = 0) (h : (bytesR bs max s).2.err = 0) (hle : s.at_ ≤ bs.length) : (∃ r, bs.drop s.at_ = uv (bytesR bs max s).1.length ++ (bytesR bs max s).1 ++ r) ∧ (bytesR bs max s).2.at_ = s.at_ + (uv (bytesR bs max s).1.length).length + (bytesR bs max s).1.length ∧ ((bytesR bs max s).1.length : Int) ≤ max := by
  rw [bytesR, if_neg (by simpa using h0)] at h ⊢
  by_cases hE : bytesE bs max s = 0
  · rw [if_neg (by simpa using hE)] at h ⊢
    have hr0 : (rnum max 0 0 (bs.drop s.at_)).2.2 = 0 ∧ ¬ ((bs.length - s.at_ - (rnum max 0 0 (bs.drop s.at_)).2.1 : Nat) : Int) < (rnum max 0 0 (bs.drop s.at_)).1 := by
      unfold bytesE at hE
      split at hE
      · simp at hE
      · rename_i hn
        exact ⟨hE, fun h => hn ⟨hE, h⟩⟩
    obtain ⟨m, r, e1, e2, e3, _⟩ := rnum_inv max (bs.drop s.at_) 0 0 (by simp) hr0.1
    obtain ⟨m', e4, e5, _⟩ := rnum_ok max (bs.drop s.at_) 0 0 (by simp) (by omega) hr0.1
    simp only [Nat.zero_add, Nat.pow_zero, Nat.mul_one] at e2 e3
    have hmm : m' = m := by omega
    have hlt := hr0.2
    rw [e2, e3] at hlt ⊢
    rw [Int.toNat_natCast]
    have hdl : (bs.drop s.at_).length = bs.length - s.at_ := by simp
    have hrl : (uv m).length + r.length = bs.length - s.at_ := by rw [← hdl, e1]; simp
    have hd2 : bs.drop (s.at_ + (uv m).length) = r := by rw [← List.drop_drop, e1, List.drop_left]
    have hml : (r.take m).length = m := by simp; omega
    rw [hd2, hml]
    refine ⟨⟨r.drop m, ?_⟩, rfl, by omega⟩
    rw [e1, List.append_assoc, List.take_append_drop]
  · rw [if_pos hE] at h
    exact absurd h hE
theorem endR_inv (h : (endR bs s).err = 0) (hle : s.at_ ≤ bs.length) : s.err = 0 ∧ s.at_ = bs.length := by
  unfold endR at h
  split at h
  · simp at h
  · rename_i hn
    exact ⟨h, by by_cases hx : s.at_ < bs.length; exact absurd ⟨h, hx⟩ hn; omega⟩
theorem boolR_bad (h : s.err ≠ 0) : (boolR bs s).2.err ≠ 0 := by rw [boolR, if_pos h]; exact h
theorem bytesR_bad {max : Int} (h : s.err ≠ 0) : (bytesR bs max s).2.err ≠ 0 := by rw [bytesR, if_pos h]; exact h
theorem uintR_bad {max : Int} (h : s.err ≠ 0) : (uintR bs max s).2.err ≠ 0 := by rw [uintR, if_pos h]; exact h
end
end Go.Vc

/-
  Plain laws: a body is read back in its own form; what is read is the body of what was read.
-/
namespace Go.Proofs.YtflcdgkckfcofaaGreatDoor
open Go Go.Vc
def Up.body (u : Up) : List UInt8 := bodyBs u.kind.toNat u.key u.cnt.toNat u.cli.toNat u.fin u.has u.ds
def Up.ownF (u : Up) : Up := if u.kind = 3 then { u with ds := if u.has then u.ds else [] } else if u.kind = 1 then { u with fin := false, has := false } else { u with fin := false, has := false, ds := [] }
theorem readB_body {u : Up} (h : u.may = 0) : readB u.body = (u.ownF, ⟨u.body.length, 0⟩) := by
  obtain ⟨h1, h2, h3, h4, h5, h6⟩ := may_ok h
  obtain ⟨kind, key, cnt, cli, fin, has, ds⟩ := u
  simp only at h1 h2 h3 h4 h5 h6
  obtain ⟨kind, rfl⟩ := Int.eq_ofNat_of_zero_le (by omega : 0 ≤ kind)
  obtain ⟨cnt, rfl⟩ := Int.eq_ofNat_of_zero_le (by omega : 0 ≤ cnt)
  obtain ⟨cli, rfl⟩ := Int.eq_ofNat_of_zero_le (by omega : 0 ≤ cli)
  have hb : Up.body ⟨kind, key, cnt, cli, fin, has, ds⟩ = bodyBs kind key cnt cli fin has ds := rfl
  rw [hb]
  have hkl : key.data.toList.length = key.size := by simp
  generalize hbs : bodyBs kind key cnt cli fin has ds = bs
  have hbs' := hbs
  unfold bodyBs at hbs
  generalize ht1 : (if kind = 3 then [bit fin, bit has] else []) = t1 at hbs
  generalize ht2 : (if usesV (kind : Int) has = true then uv ds.length ++ ds else []) = t2 at hbs
  have ek : (UInt8.ofNat kind).toNat = kind := u8_small (by omega)
  have a1 : byteR bs ⟨0, 0⟩ = (UInt8.ofNat kind, ⟨1, 0⟩) := byteR_at (pre := []) (rest := uv key.size ++ key.data.toList ++ uv cnt ++ uv cli ++ t1 ++ t2) (by rw [← hbs]; simp [List.append_assoc])
  have a2 : bytesR bs ((64 : Nat) : Int) ⟨1, 0⟩ = (key.data.toList, ⟨1 + (uv key.size).length + key.size, 0⟩) := by
    have := bytesR_at (bs := bs) (pre := [UInt8.ofNat kind]) (d := key.data.toList) (max := 64) (rest := uv cnt ++ uv cli ++ t1 ++ t2) (by rw [← hbs, hkl]; simp [List.append_assoc]) (by omega) (by omega)
    rw [hkl] at this
    simpa using this
  have a3 : uintR bs 4611686018427387903 ⟨1 + (uv key.size).length + key.size, 0⟩ = ((cnt : Int), ⟨1 + (uv key.size).length + key.size + (uv cnt).length, 0⟩) := by
    have := uintR_uv (bs := bs) (pre := [UInt8.ofNat kind] ++ uv key.size ++ key.data.toList) (n := cnt) (max := 4611686018427387903) (rest := uv cli ++ t1 ++ t2) (by rw [← hbs]; simp [List.append_assoc]) (by omega) (by omega)
    have e : ([UInt8.ofNat kind] ++ uv key.size ++ key.data.toList).length = 1 + (uv key.size).length + key.size := by simp; omega
    rw [e] at this
    exact this
  have a4 : uintR bs 65535 ⟨1 + (uv key.size).length + key.size + (uv cnt).length, 0⟩ = ((cli : Int), ⟨1 + (uv key.size).length + key.size + (uv cnt).length + (uv cli).length, 0⟩) := by
    have := uintR_uv (bs := bs) (pre := [UInt8.ofNat kind] ++ uv key.size ++ key.data.toList ++ uv cnt) (n := cli) (max := 65535) (rest := t1 ++ t2) (by rw [← hbs]; simp [List.append_assoc]) (by omega) (by omega)
    have e : ([UInt8.ofNat kind] ++ uv key.size ++ key.data.toList ++ uv cnt).length = 1 + (uv key.size).length + key.size + (uv cnt).length := by simp; omega
    rw [e] at this
    exact this
  generalize hL : 1 + (uv key.size).length + key.size + (uv cnt).length + (uv cli).length = L at a4
  have hpl : ([UInt8.ofNat kind] ++ uv key.size ++ key.data.toList ++ uv cnt ++ uv cli).length = L := by simp; omega
  have hbl : bs.length = L + t1.length + t2.length := by rw [← hbs]; simp; omega
  generalize hpre : [UInt8.ofNat kind] ++ uv key.size ++ key.data.toList ++ uv cnt ++ uv cli = pre at hbs hpl
  have hk3 : ((UInt8.ofNat kind).toNat : Int) = 3 ↔ kind = 3 := by rw [ek]; omega
  have hk1 : ((UInt8.ofNat kind).toNat : Int) = 1 ↔ kind = 1 := by rw [ek]; omega
  have hkey : (⟨key.data.toList.toArray⟩ : ByteArray) = key := by cases key; simp
  unfold readB
  simp only [a1, a2, a3, a4, hkey]
  have hend : ∀ n, n = bs.length → endR bs ⟨n, 0⟩ = ⟨bs.length, 0⟩ := fun n e => by subst e; unfold endR; rw [if_neg (by simp)]
  by_cases hk : kind = 3
  · subst hk
    simp only [if_pos (hk3.2 rfl)]
    simp at ht1
    subst ht1
    have a5 : boolR bs ⟨L, 0⟩ = (fin, ⟨L + 1, 0⟩) := by
      rw [← hpl]; exact boolR_at (b := fin) (rest := [bit has] ++ t2) (by rw [← hbs]; simp [bit])
    have a6 : boolR bs ⟨L + 1, 0⟩ = (has, ⟨L + 1 + 1, 0⟩) := by
      have := boolR_at (bs := bs) (pre := pre ++ [bit fin]) (b := has) (rest := t2) (by rw [← hbs]; simp [bit])
      rw [show (pre ++ [bit fin]).length = L + 1 by simp [hpl]] at this
      exact this
    simp only [a5, a6]
    cases has with
    | true =>
      simp [usesV] at ht2
      subst ht2
      have a7 : bytesR bs ((65540 : Nat) : Int) ⟨L + 1 + 1, 0⟩ = (ds, ⟨L + 1 + 1 + (uv ds.length).length + ds.length, 0⟩) := by
        have := bytesR_at (bs := bs) (pre := pre ++ [bit fin, bit true]) (d := ds) (max := 65540) (rest := []) (by rw [← hbs]; simp [List.append_assoc]) (by have := h6 (by simp [usesV]); omega) (by have := h6 (by simp [usesV]); omega)
        rw [show (pre ++ [bit fin, bit true]).length = L + 1 + 1 by simp [hpl]] at this
        exact this
      rw [if_pos rfl, a7]
      simp only
      rw [hend _ (by rw [hbl]; simp; omega), ek]
      simp [Up.ownF]
    | false =>
      simp [usesV] at ht2
      subst ht2
      rw [if_neg (by simp)]
      simp only
      rw [hend _ (by rw [hbl]; simp), ek]
      simp [Up.ownF]
  · simp only [if_neg (fun h => hk (hk3.1 h))]
    rw [if_neg hk] at ht1
    subst ht1
    by_cases hk' : kind = 1
    · subst hk'
      simp [usesV] at ht2
      subst ht2
      have a7 : bytesR bs ((65540 : Nat) : Int) ⟨L, 0⟩ = (ds, ⟨L + (uv ds.length).length + ds.length, 0⟩) := by
        have := bytesR_at (bs := bs) (pre := pre) (d := ds) (max := 65540) (rest := []) (by rw [← hbs]; simp [List.append_assoc]) (by have := h6 (by simp [usesV]); omega) (by have := h6 (by simp [usesV]); omega)
        rw [hpl] at this
        exact this
      rw [if_pos (by simp), a7]
      simp only
      rw [hend _ (by rw [hbl]; simp; omega), ek]
      simp [Up.ownF]
    · have hu : usesV (kind : Int) has = false := by simp [usesV]; exact ⟨by omega, fun h => by omega⟩
      rw [hu] at ht2
      simp at ht2
      subst ht2
      rw [if_neg (by simp; exact fun h => hk' (hk1.1 h))]
      simp only
      rw [hend _ (by rw [hbl]; simp), ek]
      have e3 : ¬ (kind : Int) = 3 := by omega
      have e1 : ¬ (kind : Int) = 1 := by omega
      simp [Up.ownF, e3, e1]
end Go.Proofs.YtflcdgkckfcofaaGreatDoor

/-
  Plain laws: what is read as a body is the body of what was read.
-/
namespace Go.Proofs.YtflcdgkckfcofaaGreatDoor
open Go Go.Vc
theorem drop_le {bs x r : List UInt8} {n : Nat} (h : bs.drop n = x ++ r) (hn : n ≤ bs.length) : n + x.length ≤ bs.length := by
  have := congrArg List.length h
  simp at this
  omega
theorem take_step {bs x r : List UInt8} {n : Nat} (h : bs.drop n = x ++ r) : bs.take (n + x.length) = bs.take n ++ x := by
  rw [List.take_add, h, List.take_left]
theorem readB_inv {bs : List UInt8} (h : okB bs = true) : bs = (readB bs).1.body ∧ (readB bs).1.ownF = (readB bs).1 ∧ (readB bs).1.may = 0 := by
  unfold okB at h
  simp only [Bool.and_eq_true, decide_eq_true_eq] at h
  obtain ⟨he, hmay⟩ := h
  refine ⟨?_, ?_, hmay⟩
  · obtain ⟨m1, m2, m3, m4, m5, m6⟩ := may_ok hmay
    unfold Up.body
    unfold readB at he m1 m3 m4 ⊢
    simp only at he m1 m3 m4 ⊢
    generalize ha : byteR bs ⟨0, 0⟩ = a at he m1 m3 m4 ⊢
    generalize hb : bytesR bs ((64 : Nat) : Int) a.2 = b at he m1 m3 m4 ⊢
    generalize hc : uintR bs 4611686018427387903 b.2 = c at he m1 m3 m4 ⊢
    generalize hd : uintR bs 65535 c.2 = d at he m1 m3 m4 ⊢
    generalize he' : (if (a.1.toNat : Int) = 3 then boolR bs d.2 else (false, d.2)) = e at he ⊢
    generalize hf : (if (a.1.toNat : Int) = 3 then boolR bs e.2 else (false, e.2)) = f at he ⊢
    generalize hg : (if (if (a.1.toNat : Int) = 3 then f.1 else decide ((a.1.toNat : Int) = 1)) = true then bytesR bs ((65540 : Nat) : Int) f.2 else ([], f.2)) = g at he ⊢
    -- no error anywhere
    have eg : g.2.err = 0 := by
      by_cases hx : g.2.err = 0
      · exact hx
      · unfold endR at he
        rw [if_neg (by intro h; exact hx h.1)] at he
        exact he
    generalize hu : (if (a.1.toNat : Int) = 3 then f.1 else decide ((a.1.toNat : Int) = 1)) = u at hg
    have ef : f.2.err = 0 := by
      by_cases hx : f.2.err = 0
      · exact hx
      · exfalso
        rw [← hg] at eg
        split at eg
        · exact bytesR_bad hx eg
        · exact hx eg
    have ee : e.2.err = 0 := by
      by_cases hx : e.2.err = 0
      · exact hx
      · exfalso
        rw [← hf] at ef
        split at ef
        · exact boolR_bad hx ef
        · exact hx ef
    have ed : d.2.err = 0 := by
      by_cases hx : d.2.err = 0
      · exact hx
      · exfalso
        rw [← he'] at ee
        split at ee
        · exact boolR_bad hx ee
        · exact hx ee
    have ec : c.2.err = 0 := by
      by_cases hx : c.2.err = 0
      · exact hx
      · exact absurd (hd ▸ ed) (uintR_bad hx)
    have eb : b.2.err = 0 := by
      by_cases hx : b.2.err = 0
      · exact hx
      · exact absurd (hc ▸ ec) (uintR_bad hx)
    have ea : a.2.err = 0 := by
      by_cases hx : a.2.err = 0
      · exact hx
      · exact absurd (hb ▸ eb) (bytesR_bad hx)
    obtain ⟨⟨ra, a1⟩, a2⟩ := byteR_inv (bs := bs) (s := ⟨0, 0⟩) rfl (by rw [ha]; exact ea)
    rw [ha] at a1 a2
    have a1 : bs.drop 0 = [a.1] ++ ra := a1
    have ta := take_step a1
    have la := drop_le a1 (Nat.zero_le _)
    have a2 : a.2.at_ = 0 + [a.1].length := a2
    rw [← a2] at ta la
    obtain ⟨⟨rb, b1⟩, b2, b3⟩ := bytesR_inv (bs := bs) (max := ((64 : Nat) : Int)) ea (by rw [hb]; exact eb) la
    rw [hb] at b1 b2 b3
    have tb := take_step b1
    have lb := drop_le b1 la
    have b2 : b.2.at_ = a.2.at_ + (uv b.1.length ++ b.1).length := by rw [b2]; simp; omega
    rw [← b2] at tb lb
    obtain ⟨nc, c1, _, c3, rc, c4⟩ := uintR_inv (bs := bs) (max := 4611686018427387903) eb (by rw [hc]; exact ec)
    rw [hc] at c1 c3
    have tc := take_step c4
    have lc := drop_le c4 lb
    rw [← c3] at tc lc
    obtain ⟨nd, d1, _, d3, rd, d4⟩ := uintR_inv (bs := bs) (max := 65535) ec (by rw [hd]; exact ed)
    rw [hd] at d1 d3
    have td := take_step d4
    have ld := drop_le d4 lc
    rw [← d3] at td ld
    have hak := a.1.toNat_lt
    have ek : UInt8.ofNat ((a.1.toNat : Int)).toNat = a.1 := by simp
    have tf : bs.take f.2.at_ = bs.take d.2.at_ ++ (if (a.1.toNat : Int).toNat = 3 then [bit e.1, bit f.1] else []) ∧ f.2.at_ ≤ bs.length := by
      by_cases h3 : (a.1.toNat : Int) = 3
      · rw [if_pos h3] at he' hf
        obtain ⟨⟨re, e1⟩, e2⟩ := boolR_inv (bs := bs) ed (by rw [he']; exact ee)
        rw [he'] at e1 e2
        have e1 : bs.drop d.2.at_ = [bit e.1] ++ re := e1
        have te := take_step e1
        have le := drop_le e1 ld
        have e2 : e.2.at_ = d.2.at_ + [bit e.1].length := e2
        rw [← e2] at te le
        obtain ⟨⟨rf, f1⟩, f2⟩ := boolR_inv (bs := bs) ee (by rw [hf]; exact ef)
        rw [hf] at f1 f2
        have f1 : bs.drop e.2.at_ = [bit f.1] ++ rf := f1
        have tf := take_step f1
        have lf := drop_le f1 le
        have f2 : f.2.at_ = e.2.at_ + [bit f.1].length := f2
        rw [← f2] at tf lf
        rw [if_pos (by omega)]
        exact ⟨by rw [tf, te]; simp, lf⟩
      · rw [if_neg h3] at he' hf
        subst he' hf
        rw [if_neg (by omega)]
        exact ⟨by simp, ld⟩
    have hue : usesV (a.1.toNat : Int) f.1 = u := by
      rw [← hu]
      unfold usesV
      by_cases h3 : (a.1.toNat : Int) = 3
      · simp [h3]
      · simp [h3]
    have tg : bs.take g.2.at_ = bs.take f.2.at_ ++ (if usesV (a.1.toNat : Int) f.1 = true then uv g.1.length ++ g.1 else []) ∧ g.2.at_ ≤ bs.length := by
      rw [hue]
      cases u with
      | true =>
        rw [if_pos rfl] at hg
        obtain ⟨⟨rg, g1⟩, g2, _⟩ := bytesR_inv (bs := bs) (max := ((65540 : Nat) : Int)) ef (by rw [hg]; exact eg) tf.2
        rw [hg] at g1 g2
        have tg := take_step g1
        have lg := drop_le g1 tf.2
        have g2 : g.2.at_ = f.2.at_ + (uv g.1.length ++ g.1).length := by rw [g2]; simp; omega
        rw [← g2] at tg lg
        rw [if_pos rfl]
        exact ⟨tg, lg⟩
      | false =>
        rw [if_neg (by simp)] at hg
        subst hg
        exact ⟨by simp, tf.2⟩
    have hend := endR_inv he tg.2
    have hall : bs.take g.2.at_ = bs := by rw [hend.2, List.take_length]
    have hka : (⟨b.1.toArray⟩ : ByteArray).data.toList = b.1 := by simp
    have hks : (⟨b.1.toArray⟩ : ByteArray).size = b.1.length := by simp [ByteArray.size]
    unfold bodyBs
    rw [ek, hka, hks, c1, d1, Int.toNat_natCast, Int.toNat_natCast]
    conv => lhs; rw [← hall, tg.1, tf.1, td, tc, tb, ta]
    simp [List.append_assoc]
  · unfold readB
    generalize byteR bs ⟨0, 0⟩ = a
    by_cases h3 : (a.1.toNat : Int) = 3
    · simp only [if_pos h3]
      unfold Up.ownF
      simp only [if_pos h3]
      congr 1
      split <;> simp_all
    · simp only [if_neg h3]
      unfold Up.ownF
      simp only [if_neg h3]
      by_cases h1 : (a.1.toNat : Int) = 1
      · simp only [if_pos h1]
      · simp only [if_neg h1]
        simp [h1]
end Go.Proofs.YtflcdgkckfcofaaGreatDoor

/-
  Plain laws: a head is read back.
-/
namespace Go.Proofs.YtflcdgkckfcofaaGreatDoor
open Go Go.Vc
theorem readH_head {n k d s : Nat} {rest bs : List UInt8} (hb : bs = headBs n k d s ++ rest) (hm : mayHeadV n k d s = 0) : readH bs = ⟨n, k, d, s⟩ ∧ okH bs = true := by
  obtain ⟨m1, m2, m3, m4, m5, m6, m7⟩ := mayHead_ok hm
  have hb2 : bs = [72] ++ uv n ++ uv k ++ uv d ++ uv s ++ (le4 (crc (headPre n k d s)) ++ rest) := by rw [hb]; unfold headBs headPre; simp [List.append_assoc]
  have a1 : byteR bs ⟨0, 0⟩ = (72, ⟨1, 0⟩) := byteR_at (pre := []) (rest := uv n ++ uv k ++ uv d ++ uv s ++ (le4 (crc (headPre n k d s)) ++ rest)) (by rw [hb2]; simp [List.append_assoc])
  have step : ∀ (pre : List UInt8) (m : Nat) (r : List UInt8), bs = pre ++ uv m ++ r → m ≤ 4611686018427387903 → uintR bs 4611686018427387903 ⟨pre.length, 0⟩ = ((m : Int), ⟨(pre ++ uv m).length, 0⟩) := fun pre m r h hm => by
    have := uintR_uv (max := 4611686018427387903) h (by omega) (by omega)
    rw [this]
    simp
  have b1 := step [72] n (uv k ++ uv d ++ uv s ++ (le4 (crc (headPre n k d s)) ++ rest)) (by rw [hb2]; simp [List.append_assoc]) (by omega)
  have b2 := step ([72] ++ uv n) k (uv d ++ uv s ++ (le4 (crc (headPre n k d s)) ++ rest)) (by rw [hb2]; simp [List.append_assoc]) (by omega)
  have b3 := step ([72] ++ uv n ++ uv k) d (uv s ++ (le4 (crc (headPre n k d s)) ++ rest)) (by rw [hb2]; simp [List.append_assoc]) (by omega)
  have b4 := step ([72] ++ uv n ++ uv k ++ uv d) s (le4 (crc (headPre n k d s)) ++ rest) hb2 (by omega)
  have r4 : rdN bs ⟨1, 0⟩ 4 = ([(n : Int), (k : Int), (d : Int), (s : Int)], ⟨([72] ++ uv n ++ uv k ++ uv d ++ uv s).length, 0⟩) := by
    have e1 : ([72] : List UInt8).length = 1 := rfl
    rw [e1] at b1
    simp only [rdN, b1, b2, b3, b4]
    rfl
  have hr : readH bs = ⟨n, k, d, s⟩ := by
    unfold readH
    rw [a1]
    simp only [r4]
    rfl
  refine ⟨hr, ?_⟩
  have hbs : (readH bs).bs = headBs n k d s := by rw [hr]; simp [Hd.bs]
  unfold okH okH1 okH2
  rw [a1, hbs, hr]
  simp only [r4, hm]
  have hl : (headBs n k d s).length ≤ bs.length := by rw [hb]; simp
  have ht : bs.take (headBs n k d s).length = headBs n k d s := by rw [hb, List.take_left]
  rw [ht]
  simp [hl]
end Go.Proofs.YtflcdgkckfcofaaGreatDoor

/-
  Plain laws: a record that was written stands next; what stands next is a record as it is written.
-/
namespace Go.Proofs.YtflcdgkckfcofaaGreatDoor
open Go Go.Vc
theorem may_ownF {u : Up} (h : u.may = 0) : u.ownF.may = 0 := by
  have h0 := h
  obtain ⟨kind, key, cnt, cli, fin, has, ds⟩ := u
  unfold Up.may at h ⊢
  unfold Up.ownF
  simp only at h ⊢
  by_cases h3 : kind = 3
  · subst h3
    simp only [if_true]
    cases has with
    | true => simpa using h
    | false =>
      simp only [Bool.false_eq_true, if_false]
      unfold mayV at h ⊢
      simp at h ⊢
      exact h
  · simp only [if_neg h3]
    by_cases h1 : kind = 1
    · subst h1
      simp only [if_true]
      unfold mayV at h ⊢
      simp at h ⊢
      exact h
    · simp only [if_neg h1]
      unfold mayV at h ⊢
      simp [h1, h3] at h ⊢
      exact h
theorem body_len {u : Up} (h : u.may = 0) : u.body.length ≤ 65700 := by
  obtain ⟨h1, h2, h3, h4, h5, h6⟩ := may_ok h
  exact bodyBs_len (by rw [Int.toNat_of_nonneg (by omega), Int.toNat_of_nonneg (by omega), Int.toNat_of_nonneg (by omega)]; exact h)
theorem next_rec {u : Up} {last rest more : List UInt8} (hu : u.may = 0) (h : rest = recPre u.body ++ recSum last u.body ++ more) : nextR rest last = (0, u.ownF, (recPre u.body).length + 4, recSum last u.body) := by
  have hbl := body_len hu
  generalize hB : u.body = body at *
  have h9 : (uv body.length).length ≤ 9 := uv_len9 (by omega)
  have hsl : (recSum last body).length = 4 := le4_len _
  have hp : recPre body = [82] ++ uv body.length ++ body := rfl
  have hpl : (recPre body).length = 1 + (uv body.length).length + body.length := by rw [hp]; simp; omega
  have hrl : rest.length = (recPre body).length + 4 + more.length := by rw [h]; simp [hsl]; omega
  have hX : rest = 82 :: (uv body.length ++ (body ++ recSum last body ++ more)) := by rw [h, hp]; simp [List.append_assoc]
  have hm : (uv body.length).length ≤ min rest.length 11 - 1 := by omega
  obtain ⟨r', hr'⟩ : ∃ r', (rest.take (min rest.length 11)).drop 1 = [] ++ uv body.length ++ r' := by
    refine ⟨(body ++ recSum last body ++ more).take (min rest.length 11 - 1 - (uv body.length).length), ?_⟩
    generalize hmn : min rest.length 11 = m at *
    obtain ⟨m, rfl⟩ : ∃ j, m = j + 1 := ⟨m - 1, by omega⟩
    rw [hX]
    simp only [List.take_succ_cons, List.drop_succ_cons, List.drop_zero, List.nil_append, Nat.add_sub_cancel]
    rw [List.take_append, List.take_of_length_le (by simpa using hm)]
  have hu1 := uintR_uv (bs := (rest.take (min rest.length 11)).drop 1) (pre := []) (rest := r') (n := body.length) (max := 66000) hr' (by omega) (by omega)
  simp only [List.length_nil, Nat.zero_add] at hu1
  unfold nextR
  simp only [hu1, Int.toNat_natCast]
  rw [← hpl]
  have ht : rest.take (recPre body).length = recPre body := by rw [h, List.append_assoc, List.take_left]
  have ht4 : (rest.take ((recPre body).length + 4)).drop (recPre body).length = recSum last body := by
    have e : (recPre body).length + 4 = (recPre body ++ recSum last body).length := by simp [hsl]
    rw [e, h, List.take_left, List.drop_left]
  have hfr : (recPre body).drop (1 + (uv body.length).length) = body := by
    rw [hp, show 1 + (uv body.length).length = ([82] ++ uv body.length).length by simp; omega, List.drop_left]
  rw [ht, ht4, hfr]
  have hrb := readB_body hu
  rw [hB] at hrb
  have hok : okB body = true := by
    unfold okB
    rw [hrb]
    simp [may_ownF hu]
  rw [hrb, hok, if_neg (by rw [hX]; simp), if_neg (by simp), if_neg (by omega), if_neg (by simp [recSum]), if_neg (by simp)]
  rfl
end Go.Proofs.YtflcdgkckfcofaaGreatDoor

/-
  Plain laws: what stands next is a record as it is written.
-/
namespace Go.Proofs.YtflcdgkckfcofaaGreatDoor
open Go Go.Vc
theorem next_inv {rest last : List UInt8} (h : (nextR rest last).1 = 0) : (nextR rest last).2.1.may = 0 ∧ (nextR rest last).2.1.ownF = (nextR rest last).2.1 ∧ (nextR rest last).2.2.1 = (recPre (nextR rest last).2.1.body).length + 4 ∧
    (nextR rest last).2.2.2 = recSum last (nextR rest last).2.1.body ∧ ∃ more, rest = recPre (nextR rest last).2.1.body ++ recSum last (nextR rest last).2.1.body ++ more := by
  unfold nextR at h ⊢
  simp only at h ⊢
  generalize hh : uintR ((rest.take (min rest.length 11)).drop 1) 66000 ⟨0, 0⟩ = hd at h ⊢
  by_cases c1 : rest.head? = some 82
  rotate_left
  · rw [if_pos c1] at h; simp at h
  rw [if_neg (by simpa using c1)] at h
  by_cases c2 : hd.2.err = 0
  rotate_left
  · rw [if_pos c2] at h; split at h <;> simp at h
  rw [if_neg (by simpa using c2)] at h
  by_cases c3 : rest.length < 1 + hd.2.at_ + hd.1.toNat + 4
  · rw [if_pos c3] at h; simp at h
  rw [if_neg c3] at h
  by_cases c4 : le4 (crc (last ++ rest.take (1 + hd.2.at_ + hd.1.toNat))) = (rest.take (1 + hd.2.at_ + hd.1.toNat + 4)).drop (1 + hd.2.at_ + hd.1.toNat)
  rotate_left
  · rw [if_pos c4] at h; simp at h
  rw [if_neg (by simpa using c4)] at h
  by_cases c5 : okB ((rest.take (1 + hd.2.at_ + hd.1.toNat)).drop (1 + hd.2.at_)) = true
  rotate_left
  · rw [if_pos (by simpa using c5)] at h; simp at h
  obtain ⟨n, n1, _, n2, r, n3⟩ := uintR_inv (bs := (rest.take (min rest.length 11)).drop 1) (max := 66000) (s := ⟨0, 0⟩) rfl (by rw [hh]; exact c2)
  rw [hh] at n1 n2
  simp only [Nat.zero_add, List.drop_zero] at n2 n3
  have en : hd.1.toNat = n := by rw [n1]; simp
  rw [en, n2] at c3 c4 c5 ⊢
  obtain ⟨e1, e2, e3⟩ := readB_inv c5
  generalize hb : (rest.take (1 + (uv n).length + n)).drop (1 + (uv n).length) = b at e1 e2 e3 c5 ⊢
  have hbl : b.length = n := by rw [← hb]; simp; omega
  -- the front
  obtain ⟨X, rfl⟩ : ∃ X, rest = 82 :: X := by
    cases rest with
    | nil => simp at c1
    | cons x X => simp at c1; subst c1; exact ⟨X, rfl⟩
  have hX : X.take (uv n).length = uv n := by
    generalize hm : min (82 :: X).length 11 = m at n3
    cases m with
    | zero =>
      simp at n3
      have := uv_len_pos n
      rw [n3.1] at this
      simp at this
    | succ m =>
      simp only [List.take_succ_cons, List.drop_succ_cons, List.drop_zero] at n3
      have hl := congrArg List.length n3
      simp at hl
      have := congrArg (List.take (uv n).length) n3
      rw [List.take_take, List.take_left, Nat.min_eq_left (by omega)] at this
      exact this
  have hpre : (82 :: X).take (1 + (uv n).length + n) = recPre b := by
    have f1 : (82 :: X).take (1 + (uv n).length) = [82] ++ uv n := by
      rw [Nat.add_comm, List.take_succ_cons, hX]; rfl
    have f2 := List.take_append_drop (1 + (uv n).length) ((82 :: X).take (1 + (uv n).length + n))
    rw [hb, List.take_take, Nat.min_eq_left (by omega), f1] at f2
    rw [← f2, recPre, hbl]
  have hpl : (recPre b).length = 1 + (uv n).length + n := by rw [recPre, hbl]; simp; omega
  rw [hpre] at c4 ⊢
  refine ⟨e3, e2, by rw [← e1, hpl], by rw [← e1]; rfl, (82 :: X).drop (1 + (uv n).length + n + 4), ?_⟩
  rw [← e1]
  have g1 := List.take_append_drop (1 + (uv n).length + n + 4) (82 :: X)
  have g2 := List.take_append_drop (1 + (uv n).length + n) ((82 :: X).take (1 + (uv n).length + n + 4))
  rw [← c4, List.take_take, Nat.min_eq_left (by omega), hpre] at g2
  rw [← g2] at g1
  exact g1.symm
end Go.Proofs.YtflcdgkckfcofaaGreatDoor

/-
  Plain laws: a log that was written is found.
-/
namespace Go.Proofs.YtflcdgkckfcofaaGreatDoor
open Go Go.Vc
def logB : List UInt8 → List Up → List UInt8
  | _, [] => []
  | last, u :: r => recPre u.body ++ recSum last u.body ++ logB (recSum last u.body) r
def logLast : List UInt8 → List Up → List UInt8
  | last, [] => last
  | last, u :: r => logLast (recSum last u.body) r
def logMarks : Nat → List Up → List Nat
  | _, [] => []
  | n, u :: r => (n + (recPre u.body).length + 4) :: logMarks (n + (recPre u.body).length + 4) r
def scanA (bs : List UInt8) (at_ : Nat) (last : List UInt8) := scanL bs (bs.length - at_) at_ last
theorem next_pos (rest last : List UInt8) : 5 ≤ (nextR rest last).2.2.1 := by
  unfold nextR
  simp only
  omega
theorem scanL_fuel {bs : List UInt8} : ∀ (f at_ : Nat) (last : List UInt8), bs.length - at_ ≤ f → scanL bs f at_ last = scanA bs at_ last := by
  intro f
  induction f using Nat.strongRecOn with
  | ind f ih =>
    intro at_ last hf
    unfold scanA
    by_cases hle : bs.length ≤ at_
    · have e : bs.length - at_ = 0 := by omega
      rw [e]
      cases f with
      | zero => rfl
      | succ f => rw [scanL, scanL, if_pos hle]
    · obtain ⟨g, hg⟩ : ∃ g, bs.length - at_ = g + 1 := ⟨bs.length - at_ - 1, by omega⟩
      obtain ⟨f, rfl⟩ : ∃ j, f = j + 1 := ⟨f - 1, by omega⟩
      rw [hg, scanL, scanL, if_neg hle, if_neg hle]
      have hp := next_pos (bs.drop at_) last
      by_cases h0 : (nextR (bs.drop at_) last).1 = 0
      · rw [if_neg (by simpa using h0), if_neg (by simpa using h0)]
        rw [ih f (by omega) _ _ (by omega)]
        by_cases hgf : g < f + 1
        · rw [ih g hgf _ _ (by omega)]
        · have : g = f := by omega
          subst this
          rw [ih g (by omega) _ _ (by omega)]
      · rw [if_pos (by simpa using h0), if_pos (by simpa using h0)]
theorem scanA_next {bs : List UInt8} {at_ : Nat} {last : List UInt8} (hlt : at_ < bs.length) (h0 : (nextR (bs.drop at_) last).1 = 0) :
    scanA bs at_ last = ((nextR (bs.drop at_) last).2.1 :: (scanA bs (at_ + (nextR (bs.drop at_) last).2.2.1) (nextR (bs.drop at_) last).2.2.2).1, (at_ + (nextR (bs.drop at_) last).2.2.1) :: (scanA bs (at_ + (nextR (bs.drop at_) last).2.2.1) (nextR (bs.drop at_) last).2.2.2).2.1,
      (scanA bs (at_ + (nextR (bs.drop at_) last).2.2.1) (nextR (bs.drop at_) last).2.2.2).2.2) := by
  have hp := next_pos (bs.drop at_) last
  obtain ⟨g, hg⟩ : ∃ g, bs.length - at_ = g + 1 := ⟨bs.length - at_ - 1, by omega⟩
  conv => lhs; unfold scanA
  rw [hg, scanL, if_neg (by omega), if_neg (by simpa using h0), scanL_fuel g _ _ (by omega)]
theorem scanA_log {bs : List UInt8} : ∀ (us : List Up) (at_ : Nat) (last more : List UInt8), (∀ u ∈ us, u.may = 0) → bs.drop at_ = logB last us ++ more →
    scanA bs at_ last = (us.map Up.ownF ++ (scanA bs (at_ + (logB last us).length) (logLast last us)).1, logMarks at_ us ++ (scanA bs (at_ + (logB last us).length) (logLast last us)).2.1, (scanA bs (at_ + (logB last us).length) (logLast last us)).2.2)
  | [], at_, last, more, _, _ => by simp [logB, logLast, logMarks]
  | u :: r, at_, last, more, hm, h => by
    have hn := next_rec (u := u) (last := last) (rest := bs.drop at_) (more := logB (recSum last u.body) r ++ more) (hm u (by simp)) (by rw [h, logB]; simp [List.append_assoc])
    have hlt : at_ < bs.length := by
      have e := congrArg List.length h
      simp [logB, recPre] at e
      omega
    have hsl : (recSum last u.body).length = 4 := le4_len _
    rw [scanA_next hlt (by rw [hn]), hn]
    simp only
    have h2 : bs.drop (at_ + ((recPre u.body).length + 4)) = logB (recSum last u.body) r ++ more := by
      rw [← List.drop_drop, h, logB]
      have e : (recPre u.body).length + 4 = (recPre u.body ++ recSum last u.body).length := by simp [hsl]
      rw [e, List.append_assoc (recPre u.body ++ recSum last u.body), List.drop_left]
    rw [scanA_log r _ _ more (fun x hx => hm x (by simp [hx])) h2]
    have e3 : at_ + ((recPre u.body).length + 4) + (logB (recSum last u.body) r).length = at_ + (logB last (u :: r)).length := by rw [logB]; simp [hsl]; omega
    rw [e3]
    simp [logLast, logMarks, Nat.add_assoc]
theorem recSum_len (last body : List UInt8) : (recSum last body).length = 4 := le4_len _
theorem scanA_stop {bs : List UInt8} {at_ : Nat} {last : List UInt8} (hlt : at_ < bs.length) (h0 : (nextR (bs.drop at_) last).1 ≠ 0) : scanA bs at_ last = ([], [], (nextR (bs.drop at_) last).1, at_, last) := by
  obtain ⟨g, hg⟩ : ∃ g, bs.length - at_ = g + 1 := ⟨bs.length - at_ - 1, by omega⟩
  unfold scanA
  rw [hg, scanL, if_neg (by omega), if_pos h0]
theorem scanA_end {bs : List UInt8} {at_ : Nat} {last : List UInt8} (hle : bs.length ≤ at_) : scanA bs at_ last = ([], [], 0, at_, last) := by
  unfold scanA
  have : bs.length - at_ = 0 := by omega
  rw [this, scanL]
end Go.Proofs.YtflcdgkckfcofaaGreatDoor
