/-
  Plain laws: the sum tells any change of one byte.
-/
import Derived.Test.YtnhgnfflihoaiaaDoorLawFns
namespace Go.Vc
open Go
theorem bs1_zero {c : BitVec 32} (h : bs1 c = 0#32) : c = 0#32 := by
  have h31 := congrArg (fun x : BitVec 32 => x.getLsbD 31) h
  have hb : c.getLsbD 0 = false := by
    cases hc : c.getLsbD 0 with
    | false => rfl
    | true =>
      exfalso
      unfold bs1 at h31
      rw [hc] at h31
      simp only [BitVec.getLsbD_xor, BitVec.getLsbD_ushiftRight, if_true] at h31
      have e1 : c.getLsbD (1 + 31) = false := BitVec.getLsbD_of_ge c _ (by omega)
      have e2 : poly.getLsbD 31 = true := by decide +kernel
      rw [e1, e2] at h31
      simp at h31
  unfold bs1 at h
  rw [hb] at h
  rw [if_neg (by simp), show (0 : BitVec 32) = 0#32 from rfl, BitVec.xor_zero] at h
  apply BitVec.eq_of_getLsbD_eq
  intro i hi
  cases i with
  | zero => rw [hb]; simp
  | succ i =>
    have : (c >>> 1).getLsbD i = (0#32).getLsbD i := by rw [h]
    rw [BitVec.getLsbD_ushiftRight] at this
    rw [Nat.add_comm i 1, this]
    simp
theorem bsn_zero (n : Nat) : ∀ {c : BitVec 32}, bsn n c = 0#32 → c = 0#32 := by
  induction n with
  | zero => intro c h; exact h
  | succ n ih => intro c h; exact bs1_zero (ih h)
theorem xor_eq_zero {a b : BitVec 32} (h : a ^^^ b = 0#32) : a = b := by
  have : a ^^^ b ^^^ b = 0#32 ^^^ b := by rw [h]
  rwa [BitVec.xor_assoc, BitVec.xor_self, BitVec.xor_zero, BitVec.zero_xor] at this
theorem bsn_inj {n : Nat} {a b : BitVec 32} (h : bsn n a = bsn n b) : a = b := by
  apply xor_eq_zero
  apply bsn_zero n
  rw [bsn_xor, h, BitVec.xor_self]
theorem xor_right {a b c : BitVec 32} (h : a ^^^ c = b ^^^ c) : a = b := by
  have : a ^^^ c ^^^ c = b ^^^ c ^^^ c := by rw [h]
  rwa [BitVec.xor_assoc, BitVec.xor_self, BitVec.xor_zero, BitVec.xor_assoc, BitVec.xor_self, BitVec.xor_zero] at this
theorem crcB_c {a b : BitVec 32} {x : UInt8} (h : crcB a x = crcB b x) : a = b := xor_right (bsn_inj h)
theorem crcB_b {c : BitVec 32} {x y : UInt8} (h : crcB c x = crcB c y) : x = y := by
  have h1 := bsn_inj h
  rw [BitVec.xor_comm c, BitVec.xor_comm c] at h1
  have h2 := congrArg BitVec.toNat (xor_right h1)
  simp at h2
  have hx := x.toNat_lt
  have hy := y.toNat_lt
  exact UInt8.toNat_inj.1 (by omega)
theorem crcL_c {l : List UInt8} : ∀ {a b : BitVec 32}, crcL a l = crcL b l → a = b := by
  induction l with
  | nil => intro a b h; exact h
  | cons x r ih => intro a b h; exact crcB_c (ih h)
theorem crc_change {p q : List UInt8} {x y : UInt8} (h : crc (p ++ x :: q) = crc (p ++ y :: q)) : x = y := by
  unfold crc at h
  have h1 : crcL (BitVec.allOnes 32) (p ++ x :: q) = crcL (BitVec.allOnes 32) (p ++ y :: q) := by
    have := congrArg (fun z : BitVec 32 => ~~~ z) h
    simpa using this
  rw [crcL_append, crcL_append] at h1
  exact crcB_b (crcL_c h1)
theorem le4_inj {a b : BitVec 32} (h : le4 a = le4 b) : a = b := by
  unfold le4 at h
  simp only [List.cons.injEq, and_true] at h
  obtain ⟨h1, h2, h3, h4⟩ := h
  have e : ∀ {m n : Nat}, m < 256 → n < 256 → UInt8.ofNat m = UInt8.ofNat n → m = n := fun hm hn h => by
    have := congrArg UInt8.toNat h
    simp [UInt8.toNat_ofNat'] at this
    omega
  have g1 := e (by omega) (by omega) h1
  have g2 := e (by omega) (by omega) h2
  have g3 := e (by omega) (by omega) h3
  have g4 := e (by omega) (by omega) h4
  have ha := a.isLt
  have hb := b.isLt
  apply BitVec.eq_of_toNat_eq
  omega
theorem set_split {l : List UInt8} {i : Nat} (hi : i < l.length) (y : UInt8) : l = l.take i ++ l[i] :: l.drop (i + 1) ∧ l.set i y = l.take i ++ y :: l.drop (i + 1) := by
  refine ⟨?_, ?_⟩
  · rw [← List.drop_eq_getElem_cons hi, List.take_append_drop]
  · exact List.set_eq_take_append_cons_drop.trans (by rw [if_pos hi])
/-- One byte turned: the sum is another. -/
theorem crc_set {a l : List UInt8} {i : Nat} (hi : i < l.length) {y : UInt8} (hy : y ≠ l[i]) : le4 (crc (a ++ l.set i y)) ≠ le4 (crc (a ++ l)) := by
  intro h
  have h1 := le4_inj h
  obtain ⟨e1, e2⟩ := set_split hi y
  rw [e2] at h1
  conv at h1 => rhs; rw [e1]
  rw [← List.append_assoc, ← List.append_assoc] at h1
  exact hy (crc_change h1)
end Go.Vc

/-
  Plain laws: whatever the bytes, what is found is the log of what was found.
-/
namespace Go.Proofs.YtnhgnfflihoaiaaDoor
open Go Go.Vc
structure ScanInv (bs : List UInt8) (at_ : Nat) (last : List UInt8) (T : List Up × List Nat × Int × Nat × List UInt8) : Prop where
  may : ∀ u ∈ T.1, u.may = 0 ∧ u.ownF = u
  marks : T.2.1 = logMarks at_ T.1
  stop : T.2.2.2.1 = at_ + (logB last T.1).length
  sum : T.2.2.2.2 = logLast last T.1
  le : T.2.2.2.1 ≤ bs.length
  why : T.2.2.1 = 0 ↔ T.2.2.2.1 = bs.length
  pre : ∃ more, bs.drop at_ = logB last T.1 ++ more
theorem scanA_stop {bs : List UInt8} {at_ : Nat} {last : List UInt8} (hlt : at_ < bs.length) (h0 : (nextR (bs.drop at_) last).1 ≠ 0) : scanA bs at_ last = ([], [], (nextR (bs.drop at_) last).1, at_, last) := by
  obtain ⟨g, hg⟩ : ∃ g, bs.length - at_ = g + 1 := ⟨bs.length - at_ - 1, by omega⟩
  unfold scanA
  rw [hg, scanL, if_neg (by omega), if_pos h0]
theorem scanA_end {bs : List UInt8} {at_ : Nat} {last : List UInt8} (hle : bs.length ≤ at_) : scanA bs at_ last = ([], [], 0, at_, last) := by
  unfold scanA
  have : bs.length - at_ = 0 := by omega
  rw [this, scanL]
theorem scanA_inv {bs : List UInt8} : ∀ (f at_ : Nat) (last : List UInt8), bs.length - at_ ≤ f → at_ ≤ bs.length → ScanInv bs at_ last (scanA bs at_ last) := by
  intro f
  induction f with
  | zero =>
    intro at_ last hf hle
    rw [scanA_end (by omega)]
    exact ⟨by simp, rfl, by simp [logB], rfl, by simpa using hle, by simp; omega, _, by simp [logB]; rfl⟩
  | succ f ih =>
    intro at_ last hf hle
    by_cases hlt : at_ < bs.length
    · by_cases h0 : (nextR (bs.drop at_) last).1 = 0
      · rw [scanA_next hlt h0]
        obtain ⟨n1, n2, n3, n4, more, n5⟩ := next_inv h0
        generalize hu : (nextR (bs.drop at_) last).2.1 = u at *
        rw [n3, n4]
        have hl4 := recSum_len last u.body
        have hlen := congrArg List.length n5
        simp at hlen
        have hI := ih (at_ + ((recPre u.body).length + 4)) (recSum last u.body) (by omega) (by omega)
        obtain ⟨i1, i2, i3, i4, i5, i6, m2, i7⟩ := hI
        have hd : bs.drop (at_ + ((recPre u.body).length + 4)) = more := by
          rw [← List.drop_drop, n5]
          rw [show (recPre u.body).length + 4 = (recPre u.body ++ recSum last u.body).length by simp [hl4], List.drop_left]
        refine ⟨?_, ?_, ?_, ?_, i5, i6, m2, ?_⟩
        · intro x hx
          rcases List.mem_cons.1 hx with rfl | hx
          · exact ⟨n1, n2⟩
          · exact i1 x hx
        · simp only [logMarks, i2, Nat.add_assoc]
        · simp only [i3, logB, List.length_append, hl4]; omega
        · simp only [logLast, i4]
        · rw [n5, ← hd, i7]
          simp [logB]
      · rw [scanA_stop hlt h0]
        exact ⟨by simp, rfl, by simp [logB], rfl, by simpa using hle, by simp; exact ⟨fun h => absurd h h0, fun h => by omega⟩, _, by simp [logB]; rfl⟩
    · rw [scanA_end (by omega)]
      exact ⟨by simp, rfl, by simp [logB], rfl, by simpa using hle, by simp; omega, _, by simp [logB]; rfl⟩
theorem scanA_log' {bs : List UInt8} {us : List Up} {at_ : Nat} {last : List UInt8} (hm : ∀ u ∈ us, u.may = 0 ∧ u.ownF = u) (hle : at_ ≤ bs.length) (h : bs.drop at_ = logB last us) : scanA bs at_ last = (us, logMarks at_ us, 0, bs.length, logLast last us) := by
  rw [scanA_log us at_ last [] (fun u hu => (hm u hu).1) (by rw [h]; simp)]
  have hl : bs.length = at_ + (logB last us).length := by
    have := congrArg List.length h
    simp at this
    omega
  rw [scanA_end (by omega)]
  have : us.map Up.ownF = us := by
    conv => rhs; rw [← List.map_id us]
    exact List.map_congr_left fun u hu => (hm u hu).2
  simp [this, hl]
end Go.Proofs.YtnhgnfflihoaiaaDoor

/-
  Plain laws: a beginning of a record is none; a record with a byte turned is none.
-/
namespace Go.Vc
open Go
theorem rnum_short (max : Int) : ∀ (m i n0 k : Nat), k < (uv m).length → i + (uv m).length ≤ 9 → (rnum max i n0 ((uv m).take k)).2.2 = 30 := by
  intro m
  induction m using Nat.strongRecOn with
  | ind m ih =>
    intro i n0 k hk hi
    by_cases h : m < 128
    · rw [uv_small h] at hk hi ⊢
      simp at hk
      subst hk
      simp only [List.take_zero]
      rw [rnum, if_pos (by simp at hi; omega)]
    · have h128 : 128 ≤ m := by omega
      rw [uv_big h128] at hk hi ⊢
      simp only [List.length_cons] at hk hi
      cases k with
      | zero =>
        simp only [List.take_zero]
        rw [rnum, if_pos (by omega)]
      | succ k =>
        have e1 : (UInt8.ofNat (m % 128 + 128)).toNat = m % 128 + 128 := u8_small (by omega)
        simp only [List.take_succ_cons]
        rw [rnum, if_pos (by omega), e1, if_neg (by omega)]
        exact ih (m / 128) (by omega) _ _ _ (by omega) (by omega)
end Go.Vc
namespace Go.Proofs.YtnhgnfflihoaiaaDoor
open Go Go.Vc
/-- Where the number of the body's bytes is read. -/
theorem front_take {X : List UInt8} {m : Nat} (hm : m = min (82 :: X).length 11) : (((82 :: X).take m).drop 1) = X.take (m - 1) := by
  obtain ⟨j, rfl⟩ : ∃ j, m = j + 1 := ⟨m - 1, by simp at hm; omega⟩
  simp
theorem next_short {body last X : List UInt8} {k : Nat} (hb : body.length ≤ 66000) (hX : X = (uv body.length ++ body ++ recSum last body).take k) (hk : k < (uv body.length ++ body ++ recSum last body).length) : (nextR (82 :: X) last).1 = 30 := by
  have h9 : (uv body.length).length ≤ 9 := uv_len9 (by omega)
  have hs := recSum_len last body
  simp only [List.length_append, hs] at hk
  have hXl : X.length = k := by rw [hX]; simp [hs]; omega
  unfold nextR
  simp only [front_take rfl]
  rw [if_neg (by simp)]
  by_cases hlt : k < (uv body.length).length
  · have hXu : X = (uv body.length).take k := by
      rw [hX, List.append_assoc, List.take_append_of_le_length (by omega)]
    have hmin : min (82 :: X).length 11 - 1 = k := by simp [hXl]; omega
    have ht : X.take (min (82 :: X).length 11 - 1) = (uv body.length).take k := by
      rw [hmin, hXu, List.take_take, Nat.min_self]
    have he : (uintR (X.take (min (82 :: X).length 11 - 1)) 66000 ⟨0, 0⟩).2.err = 30 := by
      rw [ht, uintR, if_neg (by simp)]
      simp only [List.drop_zero]
      exact rnum_short 66000 body.length 0 0 k hlt (by omega)
    rw [if_pos (by rw [he]; simp), if_pos he]
  · obtain ⟨r', hr⟩ : ∃ r', X.take (min (82 :: X).length 11 - 1) = [] ++ uv body.length ++ r' := by
      have : X = uv body.length ++ (body ++ recSum last body).take (k - (uv body.length).length) := by
        rw [hX, List.append_assoc, List.take_append, List.take_of_length_le (by omega)]
      refine ⟨((body ++ recSum last body).take (k - (uv body.length).length)).take (min (82 :: X).length 11 - 1 - (uv body.length).length), ?_⟩
      have hmin : (uv body.length).length ≤ min (82 :: X).length 11 - 1 := by simp [hXl]; omega
      generalize min (82 :: X).length 11 - 1 = q at *
      rw [this, List.take_append, List.take_of_length_le hmin]
      simp
    have hu := uintR_uv (bs := X.take (min (82 :: X).length 11 - 1)) (pre := []) (rest := r') (n := body.length) (max := 66000) hr (by omega) (by omega)
    simp only [List.length_nil, Nat.zero_add] at hu
    rw [hu]
    simp only
    rw [if_neg (by simp), if_pos]
    simp [hXl]
    omega
theorem next_bad {n : Nat} {last b s more : List UInt8} (hn : n ≤ 66000) (hb : b.length = n) (hs : s.length = 4) (h : le4 (crc (last ++ ([82] ++ uv n ++ b))) ≠ s) : (nextR ([82] ++ uv n ++ b ++ s ++ more) last).1 = 34 := by
  have h9 : (uv n).length ≤ 9 := uv_len9 (by omega)
  generalize hX : uv n ++ b ++ s ++ more = X
  have hrest : [82] ++ uv n ++ b ++ s ++ more = 82 :: X := by rw [← hX]; simp
  have hXl : X.length = (uv n).length + n + 4 + more.length := by rw [← hX]; simp [hb, hs]; omega
  obtain ⟨r', hr⟩ : ∃ r', X.take (min (82 :: X).length 11 - 1) = [] ++ uv n ++ r' := by
    refine ⟨(b ++ s ++ more).take (min (82 :: X).length 11 - 1 - (uv n).length), ?_⟩
    have hmin : (uv n).length ≤ min (82 :: X).length 11 - 1 := by simp [hXl]; omega
    generalize min (82 :: X).length 11 - 1 = q at *
    rw [← hX, List.append_assoc, List.append_assoc, List.take_append, List.take_of_length_le hmin]
    simp
  have hu := uintR_uv (bs := X.take (min (82 :: X).length 11 - 1)) (pre := []) (rest := r') (n := n) (max := 66000) hr (by omega) (by omega)
  simp only [List.length_nil, Nat.zero_add] at hu
  have hpl : ([82] ++ uv n ++ b).length = 1 + (uv n).length + n := by simp [hb]; omega
  have t1 : (82 :: X).take (1 + (uv n).length + n) = [82] ++ uv n ++ b := by
    rw [← hrest, ← hpl, List.append_assoc ([82] ++ uv n ++ b), List.take_left]
  have t2 : ((82 :: X).take (1 + (uv n).length + n + 4)).drop (1 + (uv n).length + n) = s := by
    have e : 1 + (uv n).length + n + 4 = ([82] ++ uv n ++ b ++ s).length := by simp [hb, hs]; omega
    rw [e, ← hrest, List.take_left, ← hpl, List.drop_left]
  rw [hrest]
  unfold nextR
  simp only [front_take rfl, hu, Int.toNat_natCast, t1, t2]
  rw [if_neg (by simp), if_neg (by simp), if_neg (by simp [hXl]; omega), if_pos h]
/-- A record of which a byte of the body or of the sum is another. -/
theorem next_spoilt {u : Up} {last more : List UInt8} (hu : u.may = 0) {i : Nat} (h1 : 1 + (uv u.body.length).length ≤ i) (h2 : i < (recPre u.body ++ recSum last u.body).length) {y : UInt8} (hy : y ≠ (recPre u.body ++ recSum last u.body)[i]) :
    (nextR ((recPre u.body ++ recSum last u.body).set i y ++ more) last).1 = 34 := by
  have hbl := body_len hu
  generalize hB : u.body = body at *
  have hs := recSum_len last body
  have hpl : (recPre body).length = 1 + (uv body.length).length + body.length := by simp [recPre]; omega
  simp only [List.length_append, hs] at h2
  by_cases hi : i < (recPre body).length
  · rw [List.getElem_append_left hi] at hy
    rw [List.set_append_left _ _ hi]
    have hset : (recPre body).set i y = [82] ++ uv body.length ++ body.set (i - (1 + (uv body.length).length)) y := by
      unfold recPre
      rw [List.set_append_right _ _ (by simp; omega)]
      congr 2
      simp; omega
    have hne : le4 (crc (last ++ (recPre body).set i y)) ≠ recSum last body := crc_set hi hy
    rw [hset] at hne ⊢
    exact next_bad (n := body.length) (by omega) (by simp) hs hne
  · rw [List.getElem_append_right (by omega)] at hy
    rw [List.set_append_right _ _ (by omega)]
    have hne : le4 (crc (last ++ ([82] ++ uv body.length ++ body))) ≠ (recSum last body).set (i - (recPre body).length) y := by
      intro h
      have h' : recSum last body = (recSum last body).set (i - (recPre body).length) y := h
      have := congrArg (fun l : List UInt8 => l[i - (recPre body).length]?) h'
      simp only [List.getElem?_set_self (by rw [hs]; omega : i - (recPre body).length < (recSum last body).length)] at this
      rw [List.getElem?_eq_getElem (by rw [hs]; omega)] at this
      injection this with this
      exact hy this.symm
    have := next_bad (n := body.length) (last := last) (b := body) (s := (recSum last body).set (i - (recPre body).length) y) (more := more) (by omega) rfl (by simp [hs]) hne
    simpa [recPre] using this
end Go.Proofs.YtnhgnfflihoaiaaDoor

/-
  The laws' logs: written.
-/
namespace Go.Proofs.YtnhgnfflihoaiaaDoor
open Go Go.Vc
theorem ownD_up {u : Upd} (h : (Vc_up u).may = 0) : Vc_up u.ownD = (Vc_up u).ownF := by
  obtain ⟨h1, h2, _⟩ := may_ok h
  obtain ⟨kind, key, cnt, cli, fin, has, data, ds⟩ := u
  simp only [Vc_up] at h1 h2
  unfold Upd.ownD Up.ownF Vc_up
  simp only
  by_cases a1 : kind = 1
  · subst a1; simp
  · by_cases a2 : kind = 2
    · subst a2; simp
    · have a3 : kind = 3 := by omega
      subst a3
      cases has <;> simp
theorem ownD_byt {u : Upd} {w : World} (h : Byt w u.data u.ds) : Byt w u.ownD.data u.ownD.ds := by
  unfold Upd.ownD
  split
  · exact h
  · split
    · exact Cel.nil _ _
    · split
      · exact Cel.nil _ _
      · exact h
theorem ownD_len {u : Upd} : u.ownD.ds.length ≤ u.ds.length := by
  unfold Upd.ownD
  split
  · simp
  · split
    · simp
    · split <;> simp
/-- The bytes of a log. -/
def wBs (h : Hd) (us : List Up) : List UInt8 := h.bs ++ logB h.last us
/-- What 'written' hands out. -/
structure Wrt (w0 w : World) (h : Hd) (us : List Up) (p : Nat) (all marks uss : Slc) (X : List Upd) : Prop where
  rw : RW w p (logLast h.last us) ((us.length : Nat) : Int)
  pn : w0.heap.size ≤ p
  oall : Row w0 w all (wBs h us)
  omarks : Own Ty_int 1 w marks ((h.bs.length :: logMarks h.bs.length us).map fun n => Value.int .i64 ((n : Nat) : Int))
  mn : ∀ k ∈ marks.blks, w0.heap.size ≤ k
  ouss : Own Ty_api_Update 7 w uss (X.map Upd.cells).flatten
  un : ∀ k ∈ uss.blks, w0.heap.size ≤ k
  up : X.map Vc_up = us
  dat : ∀ u ∈ X, Byt w0 u.data u.ds ∧ u.ds.length ≤ 140737488355000
theorem Wrt.frP {w0 w w' : World} {h : Hd} {us : List Up} {p : Nat} {all marks uss : Slc} {X : List Upd} (W : Wrt w0 w h us p all marks uss X) {S : List Nat} (f : Fr S w w') (hS : ∀ k ∈ S, ∃ T cs, Blk w k T cs ∧ T ≠ Ty_uint8 ∧ T ≠ Ty_int ∧ T ≠ Ty_api_Update ∧ T ≠ Ty_record_Writer) : Wrt w0 w' h us p all marks uss X := by
  obtain ⟨h1, h2, h3, h4, h5, h6, h7, h8, h9⟩ := W
  refine ⟨h1.fr f (fun hx => ?_) (fun b cs hb hx => ?_), h2, ⟨h3.own.fr f fun k hk hx => ?_, h3.new⟩, h4.fr f fun k hk hx => ?_, h5, h6.fr f fun k hk hx => ?_, h7, h8, h9⟩
  · obtain ⟨T, cs, a, _, _, _, b⟩ := hS _ hx
    obtain ⟨_, hB, _⟩ := h1.own
    exact hB.ne_ a (Ne.symm b) rfl
  · obtain ⟨T, cs, a, b, _⟩ := hS _ hx
    exact hb.ne_ a (Ne.symm b) rfl
  · obtain ⟨T, cs, a, b, _⟩ := hS _ hx
    exact h3.own.ne a (Ne.symm b) hk
  · obtain ⟨T, cs, a, _, b, _⟩ := hS _ hx
    exact h4.ne a (Ne.symm b) hk
  · obtain ⟨T, cs, a, _, _, b, _⟩ := hS _ hx
    exact h6.ne a (Ne.symm b) hk
theorem Wrt.fr0 {w0 w w' : World} {h : Hd} {us : List Up} {p : Nat} {all marks uss : Slc} {X : List Upd} (W : Wrt w0 w h us p all marks uss X) (f : Fr [] w w') : Wrt w0 w' h us p all marks uss X := W.frP f (by simp)
set_option maxHeartbeats 1000000 in
theorem written_c {n k d s : Int} {us : Slc} {l : List Upd} {w : World} (hG : GT w) (hU : Ups w us l) (hN : l.length ≤ 1048576) :
    Calls PP F_sherdlaw11_written #[.agg #[.int .i64 n, .int .i64 k, .int .i64 d, .int .i64 s, us.v]] w (Rt fun v w' => Fr [] w w' ∧
      ∃ p all marks uss X, v = .tuple #[(wHd n k d s).v, Slc.v all, Slc.v marks, Slc.v uss, .pointer (some (blk p))] ∧ Wrt w w' (wHd n k d s) (keptW (l.map Vc_up)) p all marks uss X) := by
  have hul := hU.len
  have hgp := hG.pos
  refine sim_sherdlaw11_written _ _ _ _ _ _ _ ?_
  unfold vc_sherdlaw11_written
  refine New.intro fun b7 w1 n7 => New.intro fun b10 w2 n10 => New.intro fun b14 w3 n14 => ?_
  have k7 := (n7.blk.fr n10.fr (by simp)).fr n14.fr (by simp)
  have k10 := n10.blk.fr n14.fr (by simp)
  have k14 := n14.blk
  have f3 := (n7.fr.then_ n10.fr).then_ n14.fr
  have s10 : w.heap.size ≤ b10 := by rw [n10.at_]; exact n7.fr.size
  have s14 : w.heap.size ≤ b14 := by rw [n14.at_]; exact (n7.fr.then_ n10.fr).size
  have d710 : b7 ≠ b10 := k7.ne_ k10 (by decide)
  have d714 : b7 ≠ b14 := k7.ne_ k14 (by decide)
  have d1014 : b10 ≠ b14 := by have := n10.blk.lt; have := n14.at_; omega
  clear n7 n10 n14
  have S14 : ∀ x, x ∈ [b14] → x ∈ ([] : List Nat) ∨ w.heap.size ≤ x := fun x hx => .inr (by simp at hx; omega)
  refine k14.stoAll rfl fun w4 h4 f4 => ?_
  have a7 := k7.fr f4 (by simp; exact d714)
  have a10 := k10.fr f4 (by simp; exact d1014)
  have F4 := f3.local_ f4 S14
  refine ⟨_, a7.cell (i := 0) rfl, call (mod_c w4 (by omega) (by omega)) ?_⟩
  rintro _ w5 ⟨rfl, rfl⟩
  have hn1 := Int.emod_nonneg n (by omega : (255 : Int) ≠ 0)
  have hn2 := Int.emod_lt_of_pos n (by omega : (0 : Int) < 255)
  refine ⟨_, rfl, ?_⟩
  rw [wr64 (by omega) (by omega)]
  refine h4.sto2 (lt_ rfl) fun w5 h5 f5 => ?_
  have b7' := a7.fr f5 (by simp; exact d714)
  have b10' := a10.fr f5 (by simp; exact d1014)
  have F5 := F4.local_ f5 S14
  refine ⟨_, b7'.cell (i := 1) rfl, _, h5.cell2 rfl, call (mod_c w5 (by omega) (by omega)) ?_⟩
  rintro _ w6 ⟨rfl, rfl⟩
  have hk1 := Int.emod_nonneg k (by omega : (n % 255 + 1 : Int) ≠ 0)
  have hk2 := Int.emod_lt_of_pos k (by omega : (0 : Int) < n % 255 + 1)
  refine ⟨_, rfl, ?_⟩
  rw [wr64 (by omega) (by omega)]
  refine h5.sto2 (lt_ rfl) fun w6 h6 f6 => ?_
  have c7 := b7'.fr f6 (by simp; exact d714)
  have c10 := b10'.fr f6 (by simp; exact d1014)
  have F6 := F5.local_ f6 S14
  refine ⟨_, c7.cell (i := 2) rfl, h6.sto2 (lt_ rfl) fun w7 h7 f7 => ?_⟩
  have e7 := c7.fr f7 (by simp; exact d714)
  have e10 := c10.fr f7 (by simp; exact d1014)
  have F7 := F6.local_ f7 S14
  refine ⟨_, e7.cell (i := 3) rfl, _, h7.cell2 rfl, call (mod_c w7 (by omega) (by omega)) ?_⟩
  rintro _ w8 ⟨rfl, rfl⟩
  refine ⟨_, rfl, h7.sto (lt_ rfl) fun w8 h8 f8 => ?_⟩
  have g7 := e7.fr f8 (by simp; exact d714)
  have g10 := e10.fr f8 (by simp; exact d1014)
  have F8 := F7.local_ f8 S14
  generalize hH : wHd n k d s = H
  have h8' : Blk w8 b14 Ty_api_Head #[.int .i64 H.n, .int .i64 H.k, .int .i64 H.d, .int .i64 H.s] := by rw [← hH]; simpa [wHd] using h8
  have hmay := wHd_may n k d s
  rw [hH] at hmay
  have hbl := Hd_bs_len hmay
  clear h8 h7 h6 h5 h4
  refine ⟨_, h8'.cell (i := 0) rfl, _, h8'.cell (i := 1) rfl, _, h8'.cell (i := 2) rfl, _, h8'.cell (i := 3) rfl, call (new_c (hG.fr0 F8)) ?_⟩
  rintro _ w9 ⟨f9, h9⟩
  rcases h9 with ⟨hx, _⟩ | ⟨_, p, z, rfl, hz, hp, hR⟩
  · exact absurd hmay hx
  have hbs : headBs H.n.toNat H.k.toNat H.d.toNat H.s.toNat = H.bs := rfl
  have hlast : le4 (crc (headPre H.n.toNat H.k.toNat H.d.toNat H.s.toNat)) = H.last := rfl
  rw [hbs] at hz
  rw [hlast] at hR
  have F9 := F8.then_ f9
  have hzl := hz.byt.len
  have hpn : w.heap.size ≤ p := Nat.le_trans F8.size hp
  refine ⟨some (blk p), z, 0, rfl, fun hc => ?_, fun _ => ?_⟩
  · simp at hc; omega
  have q7 := g7.fr f9 (by simp)
  have q10 := g10.fr f9 (by simp)
  have q14 := h8'.fr f9 (by simp)
  refine New.intro fun b91 w10 n91 => ?_
  have F10 := F9.then_ n91.fr
  let Inv : Nat → Slc → Slc → Slc → World → Prop := fun j all marks uss w' => Fr [] w w' ∧ Blk w' b7 Ty_sherdlaw11_Log #[.int .i64 n, .int .i64 k, .int .i64 d, .int .i64 s, us.v] ∧ Blk w' b10 Ty_api_Head #[.int .i64 0, .int .i64 0, .int .i64 0, .int .i64 0] ∧
    Blk w' b14 Ty_api_Head #[.int .i64 H.n, .int .i64 H.k, .int .i64 H.d, .int .i64 H.s] ∧ ∃ X, Wrt w w' H (keptW ((l.take j).map Vc_up)) p all marks uss X
  refine ⟨fun all marks uss i w' => ∃ j : Nat, i = (j : Int) ∧ j ≤ l.length ∧ Inv j all marks uss w', fun _ _ _ i _ => l.length - i.toNat, ⟨0, rfl, by omega, F10, q7.fr n91.fr (by simp), q10.fr n91.fr (by simp), q14.fr n91.fr (by simp), [], ?_⟩, ?_⟩
  · refine ⟨?_, hpn, ?_, ?_, fun k hk => ?_, Own.nil _ _ _, fun k hk => by simp [Slc.blks] at hk, rfl, fun u hu => by simp at hu⟩
    · simpa [keptW, logLast] using hR.fr n91.fr (by simp) fun _ _ _ => by simp
    · have := (hz.since F8.size).own.fr0 n91.fr
      refine ⟨?_, (hz.since F8.size).new⟩
      simpa [keptW, wBs, logB] using this
    · simp only [List.take_zero, List.map_nil]
      refine Own.made (l := [.int .i64 (H.bs.length : Int)]) ?_ (by simp) (by decide)
      have := n91.blk
      rw [hzl] at this
      exact this
    · simp [Slc.blks] at hk
      rw [hk, n91.at_]
      exact F9.size
  rintro all marks uss _ w11 ⟨j, rfl, hj, F11, r7, r10, r14, X, W⟩
  refine ⟨us, r7.cell rfl, fun hlt => ?_, fun hge => ?_⟩
  · simp only [decide_eq_true_eq, hul] at hlt
    have hj1 : j < l.length := by omega
    obtain ⟨a, ha, hc⟩ := (hU.fr0 F11).get hj1
    have hjd := (hU.dat l[j] (List.getElem_mem _))
    refine ⟨fun all marks uss w' => Inv (j + 1) all marks uss w', ⟨us, r7.cell rfl, a, ha, by omega, by omega, _, hc 0 _ rfl, _, hc 1 _ rfl, _, hc 2 _ rfl, _, hc 3 _ rfl, _, hc 4 _ rfl, _, hc 5 _ rfl, l[j].data, hc 6 _ rfl, ?_⟩, ?_⟩
    · have hkl : (keptW ((l.take j).map Vc_up)).length ≤ l.length := Nat.le_trans (keptW_len _) (by rw [List.length_map, List.length_take]; omega)
      have hll := logLast_len H.last (keptW ((l.take j).map Vc_up)) (le4_len _)
      have hbL := logB_len H.last (keptW ((l.take j).map Vc_up)) fun u hu => (keptW_may u hu).1
      have hal : (wBs H (keptW ((l.take j).map Vc_up))).length ≤ 1000 + 1048576 * 66000 := by
        simp only [wBs, List.length_append]
        have : (keptW ((l.take j).map Vc_up)).length * 66000 ≤ 1048576 * 66000 := Nat.mul_le_mul_right _ (by omega)
        omega
      have htk : (l.take (j + 1)).map Vc_up = (l.take j).map Vc_up ++ [Vc_up l[j]] := by rw [List.take_succ_eq_append_getElem hj1, List.map_append]; rfl
      refine call (put_c (hG.fr0 F11) (by omega) W.rw hll (by omega) (hjd.1.fr0 F11)) ?_
      rintro _ w12 hput
      rcases hput with ⟨hm, rfl, f12⟩ | ⟨hm, sP, body, hbody, rfl, hrow, f12, hRW⟩
      · refine ⟨_, _, rfl, fun h => by simp at h; exact absurd h hm, fun _ => ?_⟩
        refine ⟨F11.then_ f12, r7.fr f12 (by simp), r10.fr f12 (by simp), r14.fr f12 (by simp), X, ?_⟩
        have hk : keptW ((l.take (j + 1)).map Vc_up) = keptW ((l.take j).map Vc_up) := by rw [htk, keptW_snoc, if_neg]; exact hm
        rw [hk]
        exact W.fr0 f12
      · have hmU : (Vc_up l[j]).may = 0 := hm
        have hbody' : body = (Vc_up l[j]).body := hbody
        have hk : keptW ((l.take (j + 1)).map Vc_up) = keptW ((l.take j).map Vc_up) ++ [(Vc_up l[j]).ownF] := by rw [htk, keptW_snoc, if_pos hmU]
        generalize hK : keptW ((l.take j).map Vc_up) = K at *
        obtain ⟨pcs, hBp, _⟩ := W.rw.blk
        have F12 := F11.local_ f12 fun x hx => .inr (by simp at hx; omega)
        have t7 := r7.fr f12 (by simp; exact r7.ne_ hBp (by decide))
        have t10 := r10.fr f12 (by simp; exact r10.ne_ hBp (by decide))
        have t14 := r14.fr f12 (by simp; exact r14.ne_ hBp (by decide))
        have hall := W.oall.own.fr f12 fun k hk hx => by simp at hx; subst hx; exact W.oall.own.ne hBp (by decide) hk
        have hmk := W.omarks.fr f12 fun k hk hx => by simp at hx; subst hx; exact W.omarks.ne hBp (by decide) hk
        have hus := W.ouss.fr f12 fun k hk hx => by simp at hx; subst hx; exact W.ouss.ne hBp (by decide) hk
        have hbl2 : (recPre body ++ recSum (logLast H.last K) body).length ≤ 66000 := by
          have := recPre_len hmU
          rw [← hbody'] at this
          simp [recSum_len]; omega
        refine ⟨sP, 0, rfl, fun _ => New.intro fun b w13 nb => ?_, fun h => by simp at h⟩
        have hE : Made w12 w13 (Slc.mk (some (blk b)) 0 0) [] := ⟨nb.fr, Own.made nb.blk (by simp) (by decide), fun k hk => by simp [Slc.blks] at hk; rw [hk, nb.at_]; exact Nat.le_refl _⟩
        refine hE.app (hall.fr0 nb.fr).cel (by simp; omega) fun s1 w14 hM1 _ => ?_
        refine hM1.app ((hrow.own.fr0 hM1.fr).cel) (by simp; simp at hbl2; omega) fun s2 w15 hM2 hl2 => ?_
        rw [List.nil_append] at hM2
        refine New.intro fun b2 w16 nb2 => ?_
        have F16 : Fr [] w12 w16 := hM2.fr.then_ nb2.fr
        have hYi : Cel w16 (Slc.mk (some (blk b2)) 1 1) 1 [.int .i64 (s2.l : Int)] := Cel.block (l := [.int .i64 (s2.l : Int)]) nb2.blk rfl (by simp) (Nat.le_refl _)
        have hml := hmk.cel.len
        have hmls : marks.l ≤ 1048577 := by simp [logMarks_len] at hml; omega
        refine App.own slT_sl_int (hmk.fr0 F16) hYi (by intro v hv; simp at hv; subst hv; rfl) (by unfold maxLen; simp only; omega) (by simp only; omega) fun s3 w17 hO17 hl17 fA hblkA => ?_
        have u7 := (t7.fr F16 (by simp)).fr fA ((hmk.fr0 F16).ne (t7.fr F16 (by simp)) (by decide))
        refine ⟨us, u7.cell rfl, a, ha, by omega, by omega, ?_⟩
        have F17 : Fr [] w w17 := (F12.then_ F16).local_ fA fun x hx => .inr (W.mn x hx)
        obtain ⟨a', ha', hc'⟩ := (hU.fr0 F17).get hj1
        rw [ha] at ha'
        injection ha' with ha'
        subst ha'
        refine ⟨_, hc' 0 _ rfl, _, hc' 1 _ rfl, _, hc' 2 _ rfl, _, hc' 3 _ rfl, _, hc' 4 _ rfl, _, hc' 5 _ rfl, l[j].data, hc' 6 _ rfl, ?_⟩
        refine call (own_c l[j] w17) ?_
        rintro _ w18 ⟨rfl, f18⟩
        refine ⟨_, _, _, _, _, _, _, rfl, New.intro fun b3 w19 nb3 => ?_⟩
        have f79 := f18.then_ nb3.fr
        have hus16 := hus.fr0 F16
        have hus19 := (hus16.fr fA (hus16.apart (hmk.fr0 F16) (by decide))).fr0 f79
        have hYu : Cel w19 (Slc.mk (some (blk b3)) 1 1) 7 (Upd.cells l[j].ownD) := Cel.block (l := Upd.cells l[j].ownD) nb3.blk rfl (by simp [Upd.cells]) (Nat.le_refl _)
        have hXl := congrArg List.length W.up
        simp only [List.length_map] at hXl
        have hul2 := hus.cel.len
        rw [Upd.flat_len] at hul2
        refine App.own slT_sl_api_Update hus19 hYu (by intro v hv; simp [Upd.cells] at hv; rcases hv with rfl | rfl | rfl | rfl | rfl | rfl | rfl <;> rfl) (by unfold maxLen; simp only; omega) (by simp only; omega) fun s4 w20 hO20 hl20 fB hblkB => ?_
        have F20 : Fr [] w w20 := (F17.then_ f79).local_ fB fun x hx => .inr (W.un x hx)
        have hrw16 := hRW.fr F16 (by simp) fun _ _ _ => by simp
        have hBp16 := hrw16.blk.choose_spec.1
        have hrw17 := hrw16.fr fA ((hmk.fr0 F16).ne hBp16 (by decide)) fun bb cs hb hx => (hmk.fr0 F16).ne hb (by decide) hx
        have hrw19 := hrw17.fr f79 (by simp) fun _ _ _ => by simp
        have hrw20 := hrw19.fr fB (hus19.ne hrw19.blk.choose_spec.1 (by decide)) fun bb cs hb hx => hus19.ne hb (by decide) hx
        have hM16 := hM2.own.fr0 nb2.fr
        have hM19 := (hM16.fr fA (hM16.apart (hmk.fr0 F16) (by decide))).fr0 f79
        have hM20 := hM19.fr fB (hM19.apart hus19 (by decide))
        have hO19 := hO17.fr0 f79
        have hO20' := hO19.fr fB (hO19.apart hus19 (by decide))
        have v7 := u7.fr f79 (by simp)
        have x10 := (t10.fr F16 (by simp)).fr fA ((hmk.fr0 F16).ne (t10.fr F16 (by simp)) (by decide))
        have v10 := x10.fr f79 (by simp)
        have x14 := (t14.fr F16 (by simp)).fr fA ((hmk.fr0 F16).ne (t14.fr F16 (by simp)) (by decide))
        have v14 := x14.fr f79 (by simp)
        refine ⟨F20, v7.fr fB (hus19.ne v7 (by decide)), v10.fr fB (hus19.ne v10 (by decide)), v14.fr fB (hus19.ne v14 (by decide)), X ++ [l[j].ownD], ?_⟩
        rw [hk]
        have hob := ownF_body hmU
        refine ⟨?_, hpn, ⟨?_, fun k hk => ?_⟩, ?_, fun k hk => ?_, ?_, fun k hk => ?_, ?_, fun u hu => ?_⟩
        · rw [logLast_snoc, hob, ← hbody', List.length_append]
          exact hrw20
        · have : wBs H (K ++ [(Vc_up l[j]).ownF]) = wBs H K ++ (recPre body ++ recSum (logLast H.last K) body) := by
            unfold wBs; rw [logB_snoc, hob, ← hbody', List.append_assoc]
          rw [this]
          exact hM20
        · exact Nat.le_trans F12.size (hM2.new k hk)
        · have he : (s2.l : Int) = ((H.bs.length + (logB H.last (K ++ [(Vc_up l[j]).ownF])).length : Nat) : Int) := by
            have := hM2.byt.len
            rw [this, logB_snoc, hob, ← hbody']
            simp [wBs]
          rw [logMarks_snoc, ← List.cons_append, List.map_append]
          rw [he] at hO20'
          simpa using hO20'
        · rcases hblkA k hk with h | h
          · exact W.mn k h
          · rw [h]; exact (F12.then_ F16).size
        · rw [List.map_append, List.flatten_append]
          simpa using hO20
        · rcases hblkB k hk with h | h
          · exact W.un k h
          · rw [h]; exact (F17.then_ f79).size
        · rw [List.map_append, W.up]
          simp [ownD_up hmU]
        · rcases List.mem_append.1 hu with h | h
          · exact W.dat u h
          · simp at h
            subst h
            exact ⟨ownD_byt hjd.1, Nat.le_trans ownD_len hjd.2⟩
    · rintro all' marks' uss' w' hI
      rw [wr64 (by omega) (by omega)]
      exact ⟨⟨j + 1, rfl, by omega, hI⟩, by dsimp only; omega⟩
  · simp only [decide_eq_false_iff_not, hul] at hge
    have hjl : j = l.length := by omega
    subst hjl
    rw [List.take_length] at W
    refine ⟨_, r14.cell (i := 0) rfl, _, r14.cell (i := 1) rfl, _, r14.cell (i := 2) rfl, _, r14.cell (i := 3) rfl, r10.stoAll rfl fun w12 h12 f12 => ?_⟩
    refine ⟨_, h12.cell rfl, _, h12.cell rfl, _, h12.cell rfl, _, h12.cell rfl, Rt.ok ⟨F11.local_ f12 fun x hx => .inr (by simp at hx; omega), p, all, marks, uss, X, rfl, W.frP f12 fun k hk => ?_⟩⟩
    simp at hk
    subst hk
    exact ⟨_, _, r10, by decide, by decide, by decide, by decide⟩
end Go.Proofs.YtnhgnfflihoaiaaDoor

/-
  Plain laws: a log found, whole, torn, spoilt.
-/
namespace Go.Proofs.YtnhgnfflihoaiaaDoor
open Go Go.Vc
theorem logB_append : ∀ (last : List UInt8) (a b : List Up), logB last (a ++ b) = logB last a ++ logB (logLast last a) b
  | last, [], b => by simp [logB, logLast]
  | last, x :: r, b => by simp [logB, logLast, logB_append _ r b]
theorem logMarks_append : ∀ (n : Nat) (last : List UInt8) (a b : List Up), logMarks n (a ++ b) = logMarks n a ++ logMarks (n + (logB last a).length) b
  | n, last, [], b => by simp [logB, logMarks]
  | n, last, x :: r, b => by
    simp [logB, logMarks, logMarks_append _ (recSum last x.body) r b, recSum_len]
    congr 1; omega
def Upo (us : List Up) : Prop := ∀ u ∈ us, u.may = 0 ∧ u.ownF = u
theorem Upo.take {us : List Up} (h : Upo us) (i : Nat) : Upo (us.take i) := fun u hu => h u (List.mem_of_mem_take hu)
theorem Upo.map {us : List Up} (h : Upo us) : us.map Up.ownF = us := by
  conv => rhs; rw [← List.map_id us]
  exact List.map_congr_left fun u hu => (h u hu).2
def HdOk (h : Hd) : Prop := mayHeadV h.n h.k h.d h.s = 0
theorem Hd_nat {h : Hd} (hm : HdOk h) : h = ⟨(h.n.toNat : Int), (h.k.toNat : Int), (h.d.toNat : Int), (h.s.toNat : Int)⟩ := by
  obtain ⟨h1, h2, h3, h4, h5, h6, h7⟩ := mayHead_ok hm
  obtain ⟨n, k, d, s⟩ := h
  simp at *
  omega
theorem readH_hd {h : Hd} {rest bs : List UInt8} (hb : bs = h.bs ++ rest) (hm : HdOk h) : readH bs = h ∧ okH bs = true := by
  have e := Hd_nat hm
  have := readH_head (n := h.n.toNat) (k := h.k.toNat) (d := h.d.toNat) (s := h.s.toNat) hb (by rw [HdOk, e] at hm; exact hm)
  rw [← e] at this
  exact this
theorem headLast_hd {h : Hd} {rest bs : List UInt8} (hb : bs = h.bs ++ rest) (hm : HdOk h) : headLast bs = h.last := by
  unfold headLast
  rw [(readH_hd hb hm).1, hb, List.take_left]
  have e : h.bs = headPre h.n.toNat h.k.toNat h.d.toNat h.s.toNat ++ h.last := rfl
  have hl : h.last.length = 4 := le4_len _
  rw [e]
  have e2 : (headPre h.n.toNat h.k.toNat h.d.toNat h.s.toNat ++ h.last).length - 4 = (headPre h.n.toNat h.k.toNat h.d.toNat h.s.toNat).length := by simp [hl]
  rw [e2, List.drop_left]
theorem scanT_hd {h : Hd} {rest bs : List UInt8} (hb : bs = h.bs ++ rest) (hm : HdOk h) : scanT bs = scanA bs h.bs.length h.last := by
  unfold scanT scanA
  rw [(readH_hd hb hm).1, headLast_hd hb hm]
/-- A log with something behind it. -/
theorem scanT_log {h : Hd} {us : List Up} {more bs : List UInt8} (hm : HdOk h) (hu : Upo us) (hb : bs = wBs h us ++ more) : okH bs = true ∧ readH bs = h ∧
    scanT bs = (us ++ (scanA bs (wBs h us).length (logLast h.last us)).1, logMarks h.bs.length us ++ (scanA bs (wBs h us).length (logLast h.last us)).2.1, (scanA bs (wBs h us).length (logLast h.last us)).2.2) := by
  have hb' : bs = h.bs ++ (logB h.last us ++ more) := by rw [hb, wBs, List.append_assoc]
  obtain ⟨r1, r2⟩ := readH_hd hb' hm
  refine ⟨r2, r1, ?_⟩
  have hd : bs.drop h.bs.length = logB h.last us ++ more := by rw [hb', List.drop_left]
  rw [scanT_hd hb' hm, scanA_log us _ _ more (fun u hx => (hu u hx).1) hd, hu.map]
  have : h.bs.length + (logB h.last us).length = (wBs h us).length := by simp [wBs]
  rw [this]
/-- A log just as it was written. -/
theorem scanT_whole {h : Hd} {us : List Up} (hm : HdOk h) (hu : Upo us) : scanT (wBs h us) = (us, logMarks h.bs.length us, 0, (wBs h us).length, logLast h.last us) := by
  rw [(scanT_log hm hu (more := []) (by simp)).2.2, scanA_end (Nat.le_refl _)]
  simp
def markAt (h : Hd) (us : List Up) (i : Nat) : Nat := (wBs h (us.take i)).length
theorem marks_get {h : Hd} {us : List Up} : ∀ {i : Nat}, i ≤ us.length → (h.bs.length :: logMarks h.bs.length us)[i]? = some (markAt h us i) := by
  intro i hi
  cases i with
  | zero => simp [markAt, wBs, logB]
  | succ i =>
    rw [List.getElem?_cons_succ]
    have hlt : i < us.length := by omega
    have e : us = us.take (i + 1) ++ us.drop (i + 1) := (List.take_append_drop _ _).symm
    conv => lhs; rw [e]
    rw [logMarks_append _ h.last, List.take_succ_eq_append_getElem hlt, logMarks_snoc _ h.last]
    rw [List.append_assoc, List.getElem?_append_right (by rw [logMarks_len, List.length_take]; omega), logMarks_len, List.length_take]
    rw [Nat.min_eq_left (by omega), Nat.sub_self]
    simp only [List.cons_append, List.nil_append, List.getElem?_cons_zero]
    rw [← List.take_succ_eq_append_getElem hlt]
    simp [markAt, wBs]
theorem wBs_split (h : Hd) (us : List Up) (i : Nat) : wBs h us = wBs h (us.take i) ++ logB (logLast h.last (us.take i)) (us.drop i) := by
  conv => lhs; rw [← List.take_append_drop i us]
  rw [wBs, logB_append, ← List.append_assoc]
  rfl
theorem wBs_next (h : Hd) (us : List Up) (i : Nat) (hi : i < us.length) : ∃ r, wBs h us = wBs h (us.take i) ++ (recPre us[i].body ++ recSum (logLast h.last (us.take i)) us[i].body) ++ r ∧ markAt h us (i + 1) = markAt h us i + (recPre us[i].body ++ recSum (logLast h.last (us.take i)) us[i].body).length := by
  refine ⟨logB (recSum (logLast h.last (us.take i)) us[i].body) (us.drop (i + 1)), ?_, ?_⟩
  · rw [wBs_split h us i, List.drop_eq_getElem_cons hi, logB]
    simp [List.append_assoc]
  · unfold markAt
    rw [List.take_succ_eq_append_getElem hi]
    unfold wBs
    rw [logB_snoc]
    simp only [List.length_append]
    omega
theorem marks_take {h : Hd} {us : List Up} {i : Nat} (hi : i ≤ us.length) : (h.bs.length :: logMarks h.bs.length us).take (i + 1) = h.bs.length :: logMarks h.bs.length (us.take i) := by
  rw [List.take_succ_cons]
  congr 1
  conv => lhs; rw [← List.take_append_drop i us, logMarks_append _ h.last]
  rw [List.take_left' (by rw [logMarks_len, List.length_take]; omega)]
/-- Of the first n bytes just the whole records are found. -/
theorem torn_scan {h : Hd} {us : List Up} {n i : Nat} (hm : HdOk h) (hu : Upo us) (_hi : i ≤ us.length) (h1 : markAt h us i ≤ n) (h2 : i < us.length → n < markAt h us (i + 1)) (hn : n ≤ (wBs h us).length) :
    okH ((wBs h us).take n) = true ∧ readH ((wBs h us).take n) = h ∧ (scanT ((wBs h us).take n)).1 = us.take i ∧ (scanT ((wBs h us).take n)).2.1 = logMarks h.bs.length (us.take i) ∧ (scanT ((wBs h us).take n)).2.2.1 = if markAt h us i = n then 0 else 30 := by
  have hT : ∃ rest, (wBs h us).take n = wBs h (us.take i) ++ rest ∧ ((markAt h us i = n ∧ rest = []) ∨ (markAt h us i < n ∧ ∃ (u : Up) (X : List UInt8) (k : Nat), u.may = 0 ∧ rest = 82 :: X ∧ X = (uv u.body.length ++ u.body ++ recSum (logLast h.last (us.take i)) u.body).take k ∧ k < (uv u.body.length ++ u.body ++ recSum (logLast h.last (us.take i)) u.body).length)) := by
    by_cases he : markAt h us i = n
    · refine ⟨[], ?_, .inl ⟨he, rfl⟩⟩
      rw [wBs_split h us i, List.append_nil, ← he, markAt, List.take_left]
    · have hlt : i < us.length := by
        rcases Nat.lt_or_ge i us.length with hh | hh
        · exact hh
        · exfalso
          have : markAt h us i = (wBs h us).length := by rw [markAt, List.take_of_length_le hh]
          omega
      obtain ⟨r, hr, hk⟩ := wBs_next h us i hlt
      have h3 := h2 hlt
      have hm2 := (hu us[i] (List.getElem_mem _)).1
      generalize us[i] = u at *
      generalize logLast h.last (us.take i) = l at *
      refine ⟨(recPre u.body ++ recSum l u.body).take (n - markAt h us i), ?_, .inr ⟨by omega, u, (uv u.body.length ++ u.body ++ recSum l u.body).take (n - markAt h us i - 1), n - markAt h us i - 1, hm2, ?_, rfl, ?_⟩⟩
      · rw [hr, List.append_assoc, List.take_append, List.take_of_length_le (show (wBs h (us.take i)).length ≤ n from h1)]
        congr 1
        rw [List.take_append_of_le_length (by unfold markAt at hk h3 h1; omega)]
        rfl
      · obtain ⟨q, hq⟩ : ∃ q, n - markAt h us i = q + 1 := ⟨n - markAt h us i - 1, by omega⟩
        rw [hq]
        simp [recPre]
      · simp [recPre] at hk ⊢
        omega
  obtain ⟨rest, hb, hrest⟩ := hT
  generalize (wBs h us).take n = bs at *
  obtain ⟨a1, a2, a3⟩ := scanT_log hm (hu.take i) hb
  refine ⟨a1, a2, ?_⟩
  rw [a3]
  rcases hrest with ⟨he, rfl⟩ | ⟨hlt, u, X, k, hum, rfl, hX, hk⟩
  · rw [scanA_end (by rw [hb]; simp), if_pos he]
    simp
  · have hd : bs.drop (wBs h (us.take i)).length = 82 :: X := by rw [hb, List.drop_left]
    have hn0 := next_short (Nat.le_trans (body_len hum) (by omega)) hX hk
    rw [scanA_stop (by rw [hb]; simp) (by rw [hd, hn0]; simp), hd, hn0, if_neg (by omega)]
    simp
theorem torn_head {h : Hd} {us : List Up} {n : Nat} (hm : HdOk h) (hn : n < h.bs.length) : okH ((wBs h us).take n) = false := by
  have hb : (wBs h us).take n = h.bs.take n := by rw [wBs, List.take_append_of_le_length (by omega)]
  rw [hb]
  cases ho : okH (h.bs.take n) with
  | false => rfl
  | true =>
    exfalso
    obtain ⟨l1, l2, l3, l4⟩ := okH_len ho
    unfold okH okH1 at ho
    simp only [Bool.and_eq_true, decide_eq_true_eq] at ho
    have hm2 : HdOk (readH (h.bs.take n)) := ho.1.2
    have e : h.bs = (readH (h.bs.take n)).bs ++ h.bs.drop (readH (h.bs.take n)).bs.length := by
      conv => lhs; rw [← List.take_append_drop (readH (h.bs.take n)).bs.length h.bs]
      congr 1
      rw [List.take_take, Nat.min_eq_left (by simp at l1; omega)] at l3
      exact l3
    have r1 := (readH_hd e hm2).1
    have r2 := (readH_hd (rest := []) (bs := h.bs) (by simp) hm).1
    rw [r2] at r1
    rw [← r1] at l1
    simp at l1
    omega
/-- With a byte behind it that begins no record. -/
theorem more_scan {h : Hd} {us : List Up} {b : UInt8} (hm : HdOk h) (hu : Upo us) (hb : b ≠ 82) :
    okH (wBs h us ++ [b]) = true ∧ readH (wBs h us ++ [b]) = h ∧ (scanT (wBs h us ++ [b])).1 = us ∧ (scanT (wBs h us ++ [b])).2.1 = logMarks h.bs.length us ∧ (scanT (wBs h us ++ [b])).2.2.1 = 32 := by
  obtain ⟨a1, a2, a3⟩ := scanT_log hm hu (more := [b]) rfl
  refine ⟨a1, a2, ?_⟩
  have hd : (wBs h us ++ [b]).drop (wBs h us).length = [b] := by rw [List.drop_left]
  have hn : (nextR [b] (logLast h.last us)).1 = 32 := by
    unfold nextR
    simp only
    rw [if_pos]
    simpa using hb
  rw [a3, scanA_stop (by simp) (by rw [hd, hn]; simp), hd, hn]
  simp
/-- A byte of a record's body or sum is another. -/
theorem spoilt_scan {h : Hd} {us : List Up} {i p : Nat} {y : UInt8} (hm : HdOk h) (hu : Upo us) (hp : p < us.length) (h1 : markAt h us p + 1 + (uv us[p].body.length).length ≤ i) (h2 : i < markAt h us (p + 1)) (hi : i < (wBs h us).length) (hy : y ≠ (wBs h us)[i]) :
    okH ((wBs h us).set i y) = true ∧ readH ((wBs h us).set i y) = h ∧ (scanT ((wBs h us).set i y)).1 = us.take p ∧ (scanT ((wBs h us).set i y)).2.1 = logMarks h.bs.length (us.take p) ∧ (scanT ((wBs h us).set i y)).2.2.1 = 34 := by
  obtain ⟨r, hr, hk⟩ := wBs_next h us p hp
  have hm2 := (hu us[p] (List.getElem_mem _)).1
  generalize us[p] = u at *
  generalize hl : logLast h.last (us.take p) = l at *
  have hmk : markAt h us p = (wBs h (us.take p)).length := rfl
  have hset : (wBs h us).set i y = wBs h (us.take p) ++ ((recPre u.body ++ recSum l u.body).set (i - markAt h us p) y ++ r) := by
    rw [hr, List.append_assoc, List.set_append_right _ _ (by omega), List.set_append_left _ _ (by omega)]
    rw [← hmk]
  have hy2 : y ≠ (recPre u.body ++ recSum l u.body)[i - markAt h us p]'(by omega) := by
    intro e
    apply hy
    rw [e]
    have : (wBs h us)[i]? = (recPre u.body ++ recSum l u.body)[i - markAt h us p]? := by
      rw [hr, List.append_assoc, List.getElem?_append_right (by omega), List.getElem?_append_left (by omega), ← hmk]
    rw [List.getElem?_eq_getElem hi, List.getElem?_eq_getElem (by omega)] at this
    injection this with this
    exact this.symm
  have hsp := next_spoilt (u := u) (last := l) (more := r) hm2 (i := i - markAt h us p) (by omega) (by omega) hy2
  have hbl : ((wBs h us).set i y).length = (wBs h us).length := by simp
  generalize (wBs h us).set i y = bs at *
  obtain ⟨a1, a2, a3⟩ := scanT_log hm (hu.take p) hset
  refine ⟨a1, a2, ?_⟩
  have hd : bs.drop (wBs h (us.take p)).length = (recPre u.body ++ recSum l u.body).set (i - markAt h us p) y ++ r := by rw [hset, List.drop_left]
  rw [a3, hl, scanA_stop (by omega) (by rw [hd, hsp]; simp), hd, hsp]
  simp
theorem readH_pre {n k d s : Nat} {rest bs : List UInt8} (hb : bs = headPre n k d s ++ rest) (hm : mayHeadV n k d s = 0) : readH bs = ⟨n, k, d, s⟩ := by
  obtain ⟨m1, m2, m3, m4, m5, m6, m7⟩ := mayHead_ok hm
  have hb2 : bs = [72] ++ uv n ++ uv k ++ uv d ++ uv s ++ rest := by rw [hb]; unfold headPre; simp [List.append_assoc]
  have a1 : byteR bs ⟨0, 0⟩ = (72, ⟨1, 0⟩) := byteR_at (pre := []) (rest := uv n ++ uv k ++ uv d ++ uv s ++ rest) (by rw [hb2]; simp [List.append_assoc])
  have step : ∀ (pre : List UInt8) (m : Nat) (r : List UInt8), bs = pre ++ uv m ++ r → m ≤ 4611686018427387903 → uintR bs 4611686018427387903 ⟨pre.length, 0⟩ = ((m : Int), ⟨(pre ++ uv m).length, 0⟩) := fun pre m r h hm => by
    have := uintR_uv (max := 4611686018427387903) h (by omega) (by omega)
    rw [this]
    simp
  have b1 := step [72] n (uv k ++ uv d ++ uv s ++ rest) (by rw [hb2]; simp [List.append_assoc]) (by omega)
  have b2 := step ([72] ++ uv n) k (uv d ++ uv s ++ rest) (by rw [hb2]; simp [List.append_assoc]) (by omega)
  have b3 := step ([72] ++ uv n ++ uv k) d (uv s ++ rest) (by rw [hb2]; simp [List.append_assoc]) (by omega)
  have b4 := step ([72] ++ uv n ++ uv k ++ uv d) s rest hb2 (by omega)
  have r4 : rdN bs ⟨1, 0⟩ 4 = ([(n : Int), (k : Int), (d : Int), (s : Int)], ⟨([72] ++ uv n ++ uv k ++ uv d ++ uv s).length, 0⟩) := by
    have e1 : ([72] : List UInt8).length = 1 := rfl
    rw [e1] at b1
    simp only [rdN, b1, b2, b3, b4]
    rfl
  unfold readH
  rw [a1]
  simp only [r4]
  rfl
/-- A byte of the head's sum is another. -/
theorem spoilt_head {h : Hd} {us : List Up} {i : Nat} {y : UInt8} (hm : HdOk h) (h1 : h.bs.length - 4 ≤ i) (h2 : i < h.bs.length) (hi : i < (wBs h us).length) (hy : y ≠ (wBs h us)[i]) : okH ((wBs h us).set i y) = false := by
  have hl : h.last.length = 4 := le4_len _
  have hbs : h.bs = headPre h.n.toNat h.k.toNat h.d.toNat h.s.toNat ++ h.last := rfl
  have hlen : h.bs.length = (headPre h.n.toNat h.k.toNat h.d.toNat h.s.toNat).length + 4 := by rw [hbs]; simp [hl]
  have hset : (wBs h us).set i y = headPre h.n.toNat h.k.toNat h.d.toNat h.s.toNat ++ (h.last.set (i - (headPre h.n.toNat h.k.toNat h.d.toNat h.s.toNat).length) y ++ logB h.last us) := by
    unfold wBs
    rw [List.set_append_left _ _ h2, hbs, List.set_append_right _ _ (by omega), List.append_assoc]
  have e := Hd_nat hm
  have hr : readH ((wBs h us).set i y) = h := by
    have := readH_pre hset (by rw [HdOk, e] at hm; exact hm)
    rw [this]
    exact e.symm
  have hg : (wBs h us)[i] = h.bs[i] := by
    simp only [wBs]
    rw [List.getElem_append_left h2]
  cases ho : okH ((wBs h us).set i y) with
  | false => rfl
  | true =>
    exfalso
    obtain ⟨l1, l2, l3, l4⟩ := okH_len ho
    rw [hr] at l3
    have := congrArg (fun l : List UInt8 => l[i]?) l3
    simp only [List.getElem?_take, if_pos h2] at this
    rw [List.getElem?_set_self hi, List.getElem?_eq_getElem h2] at this
    injection this with this
    exact hy (this.trans hg.symm)
theorem uv_bytes (n : Nat) : ∀ j (hj : j < (uv n).length), j + 1 < (uv n).length → 128 ≤ ((uv n)[j]).toNat := by
  induction n using Nat.strongRecOn with
  | ind n ih =>
    intro j hj hj1
    by_cases h : n < 128
    · have := uv_small h
      rw [this] at hj1
      simp at hj1
    · have e := uv_big (show 128 ≤ n by omega)
      have hl : (uv n).length = (uv (n / 128)).length + 1 := by rw [e]; simp
      cases j with
      | zero =>
        have : (uv n)[0]? = some (UInt8.ofNat (n % 128 + 128)) := by rw [e]; rfl
        rw [List.getElem?_eq_getElem hj] at this
        injection this with this
        rw [this, u8_small (by omega)]
        omega
      | succ j =>
        have : (uv n)[j + 1]? = (uv (n / 128))[j]? := by rw [e]; rfl
        rw [List.getElem?_eq_getElem hj, List.getElem?_eq_getElem (by omega)] at this
        injection this with this
        rw [this]
        exact ih (n / 128) (by omega) j (by omega) (by omega)
end Go.Proofs.YtnhgnfflihoaiaaDoor

/-
  The laws' steps: Scan by its contract, cuts of lists of updates and of marks.
-/
namespace Go.Proofs.YtnhgnfflihoaiaaDoor
open Go Go.Vc
theorem Upo_len {u : Up} (h : u.may = 0 ∧ u.ownF = u) : u.ds.length ≤ 65540 := by
  obtain ⟨h1, h2, h3, h4, h5, h6⟩ := may_ok h.1
  by_cases hu : usesV u.kind u.has = true
  · exact h6 hu
  · have : u.ds = [] := by
      have e := h.2
      obtain ⟨kind, key, cnt, cli, fin, has, ds⟩ := u
      simp [usesV] at hu
      simp only at h1 h2
      unfold Up.ownF at e
      by_cases h3' : kind = 3
      · subst h3'
        have hh : has = false := by simpa using hu
        subst hh
        simp at e
        exact e
      · simp [h3', hu.1] at e
        exact e.2.2
    rw [this]; simp
theorem scanT_inv {bs : List UInt8} (h : okH bs = true) : ScanInv bs (readH bs).bs.length (headLast bs) (scanT bs) := by
  obtain ⟨l1, _⟩ := okH_len h
  exact scanA_inv _ _ _ (Nat.le_refl _) l1
/-- What Scan hands out where there is a head. -/
structure Fnd (w0 w : World) (bs : List UInt8) (q : Nat) (us : List Upd) (su se : Slc) : Prop where
  up : us.map Vc_up = (scanT bs).1
  ups : Ups w su us
  own : Own Ty_api_Update 7 w su (us.map Upd.cells).flatten
  marks : Cel w se 1 (((readH bs).bs.length :: (scanT bs).2.1).map fun n => Value.int .i64 ((n : Nat) : Int))
  rw : RW w q (scanT bs).2.2.2.2 (us.length : Int)
  qn : w0.heap.size ≤ q
  l4 : (scanT bs).2.2.2.2.length = 4
theorem Fnd.fr0 {w0 w w' : World} {bs : List UInt8} {q : Nat} {us : List Upd} {su se : Slc} (h : Fnd w0 w bs q us su se) (f : Fr [] w w') : Fnd w0 w' bs q us su se :=
  ⟨h.up, h.ups.fr0 f, h.own.fr0 f, h.marks.fr0 f, h.rw.fr f (by simp) fun _ _ _ => by simp, h.qn, h.l4⟩
theorem scan_u {w : World} {s : Slc} {bs : List UInt8} (hG : GT w) (h : Byt w s bs) (hm : bs.length ≤ 1099511627776) (ho : okH bs = true) :
    Calls PP F_record_Scan #[s.v] w (Rt fun v w' => Fr [] w w' ∧ ∃ q us su se, v = .tuple #[(readH bs).v, Slc.v su, Slc.v se, .int .i64 (scanT bs).2.2.1, .pointer (some (blk q)), .int .i64 0] ∧ Fnd w w' bs q us su se) := by
  refine Rt.mono (scan_c hG h hm) ?_
  rintro v w' ⟨f, h1 | h1⟩
  · rw [h1.1] at ho; cases ho
  · obtain ⟨_, q, us, su, se, e1, rfl, e3, e4, e5, e6, e7, _, _, e8⟩ := h1
    refine ⟨f, q, us, su, se, rfl, e1, ⟨e3.cel, fun u hu => ⟨(e5 u hu).own.cel, ?_⟩⟩, e3, e4.cel, e6, e7, e8⟩
    have hm : Vc_up u ∈ (scanT bs).1 := by rw [← e1]; exact List.mem_map.2 ⟨u, hu, rfl⟩
    have := Upo_len ((scanT_inv ho).may _ hm)
    simp only [Vc_up] at this
    omega
theorem scan_n {w : World} {s : Slc} {bs : List UInt8} (hG : GT w) (h : Byt w s bs) (hm : bs.length ≤ 1099511627776) (ho : okH bs = false) :
    Calls PP F_record_Scan #[s.v] w (Rt fun v w' => Fr [] w w' ∧ v = .tuple #[.agg #[.int .i64 0, .int .i64 0, .int .i64 0, .int .i64 0], Slc.nil.v, Slc.nil.v, .int .i64 0, .pointer none, .int .i64 63]) := by
  refine Rt.mono (scan_c hG h hm) ?_
  rintro v w' ⟨f, h1 | h1⟩
  · exact ⟨f, h1.2⟩
  · rw [h1.1] at ho; cases ho
theorem flat_take (l : List Upd) : ∀ k, ((l.map Upd.cells).flatten).take (k * 7) = ((l.take k).map Upd.cells).flatten := by
  induction l with
  | nil => intro k; simp
  | cons u r ih =>
    intro k
    cases k with
    | zero => simp
    | succ k =>
      simp only [List.map_cons, List.flatten_cons, List.take_succ_cons]
      rw [← ih k, List.take_append, List.take_of_length_le (by simp [Upd.cells]; omega)]
      congr 2
      simp [Upd.cells]; omega
theorem Ups.cut {w : World} {s : Slc} {l : List Upd} (h : Ups w s l) {k : Nat} (hk : k ≤ l.length) : Ups w (s.cut 7 0 k) (l.take k) := by
  have hl := h.len
  refine ⟨?_, fun u hu => h.dat u (List.mem_of_mem_take hu)⟩
  have := h.cel.cut (l := 0) (k := k) (Nat.zero_le _) (by omega)
  rw [← flat_take]
  simpa using this
theorem cut0 {w : World} {s : Slc} {xs : List Int} (h : Cel w s 1 (xs.map (Value.int .i64))) {k : Nat} (hk : k ≤ xs.length) : Cel w (s.cut 1 0 k) 1 ((xs.take k).map (Value.int .i64)) := by
  have hl := h.len
  simp at hl
  have := h.cut (l := 0) (k := k) (Nat.zero_le _) (by omega)
  simpa [List.map_take] using this
theorem Wrt.ups {w0 w : World} {h : Hd} {us : List Up} {p : Nat} {all marks uss : Slc} {X : List Upd} (W : Wrt w0 w h us p all marks uss X) (f : Fr [] w0 w) : Ups w uss X :=
  ⟨W.ouss.cel, fun u hu => ⟨(W.dat u hu).1.fr0 f, (W.dat u hu).2⟩⟩
/-- Marks as numbers. -/
def mksZ (h : Hd) (us : List Up) : List Int := (h.bs.length :: logMarks h.bs.length us).map fun n => ((n : Nat) : Int)
theorem mksZ_len (h : Hd) (us : List Up) : (mksZ h us).length = us.length + 1 := by simp [mksZ, logMarks_len]
theorem Wrt.mks {w0 w : World} {h : Hd} {us : List Up} {p : Nat} {all marks uss : Slc} {X : List Upd} (W : Wrt w0 w h us p all marks uss X) : Cel w marks 1 ((mksZ h us).map (Value.int .i64)) := by
  have := W.omarks.cel
  unfold mksZ
  rw [List.map_map]
  exact this
theorem Fnd.mks {w0 w : World} {bs : List UInt8} {q : Nat} {us : List Upd} {su se : Slc} (h : Fnd w0 w bs q us su se) {hd : Hd} {l : List Up} (e1 : readH bs = hd) (e2 : (scanT bs).2.1 = logMarks hd.bs.length l) : Cel w se 1 ((mksZ hd l).map (Value.int .i64)) := by
  have := h.marks
  rw [e1, e2] at this
  unfold mksZ
  rw [List.map_map]
  exact this
theorem mksZ_take {h : Hd} {us : List Up} {i : Nat} (hi : i ≤ us.length) : (mksZ h us).take (i + 1) = mksZ h (us.take i) := by
  unfold mksZ
  rw [← List.map_take, marks_take hi]
theorem mksZ_get {h : Hd} {us : List Up} {i : Nat} (hi : i ≤ us.length) : (mksZ h us)[i]? = some (markAt h us i : Int) := by
  unfold mksZ
  rw [List.getElem?_map, marks_get hi]
  rfl
theorem mks_cell {w : World} {s : Slc} {h : Hd} {us : List Up} (hc : Cel w s 1 ((mksZ h us).map (Value.int .i64))) {i : Nat} (hi : i ≤ us.length) : ∃ p, s.a = some p ∧ w.cell? (p.add (i * 1)) = some (.int .i64 (markAt h us i : Int)) := by
  obtain ⟨p, hp, hq⟩ := hc.at_ i (.int .i64 (markAt h us i : Int)) (by rw [List.getElem?_map, mksZ_get hi]; rfl)
  exact ⟨p, hp, by rw [Nat.mul_one]; exact hq⟩
theorem markAt_mono {h : Hd} {us : List Up} {i j : Nat} (hij : i ≤ j) : markAt h us i ≤ markAt h us j := by
  unfold markAt
  have := congrArg List.length (wBs_split h (us.take j) i)
  rw [List.take_take, Nat.min_eq_left hij] at this
  simp at this
  omega
theorem markAt_end (h : Hd) (us : List Up) : markAt h us us.length = (wBs h us).length := by rw [markAt, List.take_length]
theorem markAt_zero (h : Hd) (us : List Up) : markAt h us 0 = h.bs.length := by simp [markAt, wBs, logB]
theorem wBs_len {h : Hd} {us : List Up} (hm : HdOk h) (hu : Upo us) (hl : us.length ≤ 1048576) : (wBs h us).length ≤ 69206017000 := by
  have h1 := Hd_bs_len hm
  have h2 := logB_len h.last us fun u hx => (hu u hx).1
  have : us.length * 66000 ≤ 1048576 * 66000 := Nat.mul_le_mul_right _ hl
  simp [wBs]
  omega
theorem Hd.v_eq (h : Hd) : h.v = .agg #[.int .i64 h.n, .int .i64 h.k, .int .i64 h.d, .int .i64 h.s] := rfl
end Go.Proofs.YtnhgnfflihoaiaaDoor
