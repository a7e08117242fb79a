/-
  Contracts of the references, continued: sums, checks, a head, an update.
-/
import Derived.Test.YtnhgnfflihoaiaaDoorRef
namespace Go.Vc
open Go
/-- A store of a whole block. -/
theorem Blk.stoN {g : Nat} {t : TypeId} {K : World → Prop} : ∀ (l : List Value) (i : Nat) (cs : Array Value) (w : World), Blk w g t cs → i + l.length = cs.size → (∀ w', Blk w' g t (cs.toList.take i ++ l).toArray → Fr [g] w w' → K w') → StoN (Vc.blk g) i l w K
  | [], i, cs, w, h, hi, k => by
    refine k w ?_ (Fr.refl _ _)
    rw [List.append_nil, List.take_of_length_le (by simp at hi; simp; omega)]
    exact h
  | v :: r, i, cs, w, h, hi, k => by
    simp at hi
    refine ⟨by rw [h.cell (v := cs[i]) (Array.getElem?_eq_getElem (by omega))]; rfl, h.frz i, ?_⟩
    refine Blk.stoN r (i + 1) _ _ (h.set i v) (by simp; omega) fun w' hB hF => k w' ?_ ?_
    · have e : (cs.setIfInBounds i v).toList.take (i + 1) ++ r = cs.toList.take i ++ v :: r := by
        rw [Array.toList_setIfInBounds, List.take_succ_eq_append_getElem (by simp; omega), List.take_set_of_le (Nat.le_refl _)]
        simp
      rw [e] at hB
      exact hB
    · have := Fr.set w ((Vc.blk g).add i) v
      rw [show ((Vc.blk g).add i).block = g by rw [blk_add]] at this
      exact this.local_ hF fun _ hx => .inl hx
theorem Blk.stoAll {g : Nat} {t : TypeId} {cs : Array Value} {w : World} {l : List Value} {K : World → Prop} (h : Blk w g t cs) (hl : l.length = cs.size) (k : ∀ w', Blk w' g t l.toArray → Fr [g] w w' → K w') : StoN (Vc.blk g) 0 l w K :=
  Blk.stoN l 0 cs w h (by omega) fun w' hB hF => k w' (by simpa using hB) hF
/-- A new block that is stored into. -/
theorem NewBlk.frS {w w1 w2 : World} {cs : Array Value} {e : TypeId} {b : Nat} (h : NewBlk w cs e b w1) (f : Fr [b] w1 w2) : Fr [] w w2 :=
  h.fr.local_ f fun x hx => .inr (by simp at hx; rw [hx, h.at_]; exact Nat.le_refl _)
end Go.Vc
namespace Go.Proofs.YtnhgnfflihoaiaaDoor
open Go Go.Vc

theorem qw_data {w0 w : World} {p : Nat} {bs : List UInt8} (h : QWL w0 w p bs) (hm : bs.length ≤ 140737488355328) :
    Calls PP F_sherdref07_Writer_Data #[.pointer (some (blk p))] w (Rt fun v w' => ∃ s : Slc, v = s.v ∧ Made w w' s bs) := by
  obtain ⟨hf, s, hB, hO, hp, hs⟩ := h
  refine sim_sherdref07_Writer_Data _ _ _ ?_
  unfold vc_sherdref07_Writer_Data
  refine ⟨_, rfl, 0, hB.cell rfl, fun h => by simp at h, fun _ => New.intro fun b w1 nb => ⟨s, (hB.fr nb.fr (by simp)).cell rfl, ?_⟩⟩
  refine (Made.row (l := []) (Fr.refl _ _) nb rfl rfl (by decide)).app (ys := bs) (hO.cel.fr0 nb.fr) (by simp; omega) fun s' w2 hM _ => Rt.ok ⟨s', rfl, by simpa using hM⟩

theorem bs1_and (c : BitVec 32) : (andI .u32 (c.toNat : Int) 1 = 1) ↔ c.getLsbD 0 = true := by
  have h := and32 c 1#32
  rw [show (((1#32).toNat : Nat) : Int) = 1 from rfl] at h
  rw [h, BitVec.toNat_and, BitVec.getLsbD, Nat.testBit_zero]
  have : c.toNat &&& (1#32).toNat = c.toNat % 2 := Nat.and_one_is_mod _
  rw [this]
  simp
  omega
theorem bs1_shr (c : BitVec 32) : shrI .u32 (c.toNat : Int) 1 = ((c >>> 1).toNat : Int) := shr32 c 1 (by omega)
theorem bs1_xorI (c : BitVec 32) : xorI .u32 ((c >>> 1).toNat : Int) 3988292384 = ((c >>> 1 ^^^ poly).toNat : Int) := xor32 (c >>> 1) poly
theorem bsn_succ (k : Nat) (c : BitVec 32) : bsn (k + 1) c = bs1 (bsn k c) := by rw [bsn_add k 1]; rfl
theorem bitwise_c (c : BitVec 32) (w : World) : Calls PP F_sherdref06_bitwise #[.int .u32 (c.toNat : Int)] w (Rt fun v w' => v = .int .u32 ((bsn 8 c).toNat : Int) ∧ w = w') := by
  refine sim_sherdref06_bitwise _ _ _ ?_
  unfold vc_sherdref06_bitwise
  refine ⟨fun n i w' => w = w' ∧ ∃ k : Nat, i = (k : Int) ∧ k ≤ 8 ∧ n = ((bsn k c).toNat : Int), fun _ i _ => 8 - i.toNat, ⟨rfl, 0, rfl, by omega, rfl⟩, ?_⟩
  rintro _ _ _ ⟨rfl, k, rfl, hk, rfl⟩
  refine ⟨fun hlt => ?_, fun hge => ?_⟩
  · simp only [decide_eq_true_eq] at hlt
    refine ⟨fun n w' => w = w' ∧ n = ((bsn (k + 1) c).toNat : Int), ⟨fun h => ⟨rfl, ?_⟩, fun h => ⟨rfl, ?_⟩⟩, ?_⟩
    · simp only [decide_eq_true_eq, bs1_and] at h
      rw [bs1_shr, bs1_xorI, bsn_succ, bs1, if_pos h]
    · simp only [decide_eq_false_iff_not, bs1_and] at h
      rw [bs1_shr, bsn_succ, bs1, if_neg h]; simp
    · rintro _ _ ⟨rfl, rfl⟩
      rw [wr64 (by omega) (by omega)]
      exact ⟨⟨rfl, k + 1, rfl, by omega, rfl⟩, by dsimp only; omega⟩
  · simp only [decide_eq_false_iff_not] at hge
    have : k = 8 := by omega
    subst this
    exact Rt.ok ⟨rfl, rfl⟩
theorem notx (a : BitVec 32) : xorI .u32 (a.toNat : Int) 4294967295 = ((~~~ a).toNat : Int) := by
  have h := xor32 a (BitVec.allOnes 32)
  rw [show (((BitVec.allOnes 32).toNat : Nat) : Int) = 4294967295 from rfl] at h
  rw [h, BitVec.xor_allOnes]
theorem rof_c {w : World} {s : Slc} {bss : List (List UInt8)} (h : Parts w s bss) (hm : bss.flatten.length ≤ 140737488355328) (hk : bss.length ≤ 140737488355328) :
    Calls PP F_sherdref06_Of #[s.v] w (Rt fun v w' => v = .int .u32 ((crc bss.flatten).toNat : Int) ∧ w = w') := by
  have hsl := h.len
  refine sim_sherdref06_Of _ _ _ ?_
  unfold vc_sherdref06_Of
  refine ⟨fun x i w' => w = w' ∧ ∃ k : Nat, i = (k : Int) ∧ k ≤ bss.length ∧ x = ((crcL (BitVec.allOnes 32) (bss.take k).flatten).toNat : Int), fun _ i _ => bss.length - i.toNat, ⟨rfl, 0, rfl, by omega, by simp [crcL]⟩, ?_⟩
  rintro _ _ _ ⟨rfl, k, rfl, hkl, rfl⟩
  refine ⟨fun hlt => ?_, fun hge => ?_⟩
  · simp only [decide_eq_true_eq, hsl] at hlt
    have hlt' : k < bss.length := by omega
    obtain ⟨p, x, hp, hc, hx⟩ := h.get hlt'
    have hs1 := flat_step bss k hlt'
    have hl1 := flat_le bss (k + 1)
    rw [hs1, List.length_append] at hl1
    have hxl := hx.len
    have hc' : w.cell? (p.add ((k : Int).toNat * 1)) = some (Slc.v x) := by simpa using hc
    refine ⟨fun z w' => w = w' ∧ z = ((crcL (BitVec.allOnes 32) (bss.take (k + 1)).flatten).toNat : Int), ⟨fun z i w' => w = w' ∧ ∃ j : Nat, i = (j : Int) ∧ j ≤ bss[k].length ∧ z = ((crcL (BitVec.allOnes 32) ((bss.take k).flatten ++ bss[k].take j)).toNat : Int), fun _ i _ => bss[k].length - i.toNat, ⟨rfl, 0, rfl, by omega, by simp⟩, ?_⟩, ?_⟩
    · rintro _ _ _ ⟨rfl, j, rfl, hjl, rfl⟩
      refine ⟨p, hp, by omega, by omega, x, hc', fun hj => ?_, fun hj => ?_⟩
      · simp only [decide_eq_true_eq, hxl] at hj
        have hj' : j < bss[k].length := by omega
        obtain ⟨q, hq, hcell⟩ := hx.get hj'
        refine ⟨p, hp, by omega, by omega, x, hc', q, hq, by omega, by omega, _, by simpa using hcell, ?_⟩
        rw [wr32_u8, xor32]
        refine call (bitwise_c _ _) ?_
        rintro _ _ ⟨rfl, rfl⟩
        refine ⟨_, rfl, ?_⟩
        rw [wr64 (by omega) (by omega)]
        refine ⟨⟨rfl, j + 1, rfl, by omega, ?_⟩, by dsimp only; omega⟩
        rw [List.take_succ_eq_append_getElem hj', ← List.append_assoc, crcL_append _ _ [_]]
        rfl
      · simp only [decide_eq_false_iff_not, hxl] at hj
        have : j = bss[k].length := by omega
        subst this
        exact ⟨rfl, by rw [hs1, List.take_length]⟩
    · rintro _ _ ⟨rfl, rfl⟩
      rw [wr64 (by omega) (by omega)]
      exact ⟨⟨rfl, k + 1, rfl, by omega, rfl⟩, by dsimp only; omega⟩
  · simp only [decide_eq_false_iff_not, hsl] at hge
    have hkk : k = bss.length := by omega
    subst hkk
    rw [List.take_length, notx]
    exact Rt.ok ⟨rfl, rfl⟩

theorem le4_at (c : BitVec 32) {k : Nat} (h : k < 4) : (le4 c)[k]'(by rw [le4_len]; exact h) = UInt8.ofNat (c.toNat / 256 ^ k % 256) := by
  rcases k with _ | _ | _ | _ | k <;> first | (simp [le4]; done) | omega
theorem rfour_c (c : BitVec 32) (w : World) : Calls PP F_sherdref11_four #[.int .u32 (c.toNat : Int)] w (Rt fun v w' => ∃ s : Slc, v = s.v ∧ Made w w' s (le4 c)) := by
  refine sim_sherdref11_four _ _ _ ?_
  unfold vc_sherdref11_four
  refine ⟨fun n s i w' => ∃ k : Nat, i = (k : Int) ∧ k ≤ 4 ∧ n = ((c.toNat / 256 ^ k : Nat) : Int) ∧ Made w w' s ((le4 c).take k), fun _ _ i _ => 4 - i.toNat, ⟨0, rfl, by omega, by simp, Made.nil w⟩, ?_⟩
  rintro _ s _ w1 ⟨k, rfl, hk, rfl, hM⟩
  have hlt32 := c.isLt
  have hle : c.toNat / 256 ^ k ≤ c.toNat := Nat.div_le_self _ _
  have ep : c.toNat / 256 ^ (k + 1) = c.toNat / 256 ^ k / 256 := by rw [Nat.pow_succ, ← Nat.div_div_eq_div_mul]
  have hB := le4_at c (k := k)
  generalize hm : c.toNat / 256 ^ k = m at *
  refine ⟨fun hlt => ?_, fun hge => ?_⟩
  · simp only [decide_eq_true_eq] at hlt
    have hk4 : k < 4 := by omega
    have e1 : wr .u8 ((m : Int).tmod 256) = ((UInt8.ofNat (m % 256)).toNat : Int) := by
      rw [u8_ofNat (by omega), Int.tmod_eq_emod_of_nonneg (Int.natCast_nonneg _), wr8_mod]
      omega
    have e2 : wr .u32 ((m : Int).tdiv 256) = ((c.toNat / 256 ^ (k + 1) : Nat) : Int) := by
      rw [Int.tdiv_eq_ediv_of_nonneg (Int.natCast_nonneg _), ep, wr32u (by omega) (by omega)]
      omega
    rw [e1, e2, wr64 (by omega) (by omega)]
    refine New.intro fun b w2 nb => ?_
    refine (hM.more nb.fr).app (Made.one hM.fr nb).byt (by simp [le4_len]; omega) fun s' w3 hM' _ => ⟨⟨k + 1, rfl, by omega, rfl, ?_⟩, by dsimp only; omega⟩
    rw [List.take_succ_eq_append_getElem (by rw [le4_len]; exact hk4), hB hk4]
    exact hM'
  · simp only [decide_eq_false_iff_not] at hge
    have : k = 4 := by omega
    subst this
    rw [List.take_of_length_le (by rw [le4_len]; omega)] at hM
    exact Rt.ok ⟨s, rfl, hM⟩

theorem summed_c {w : World} {a b : Slc} {xs bs : List UInt8} (ha : Byt w a xs) (hb : Byt w b bs) (hm : xs.length + bs.length ≤ 140737488355328) :
    Calls PP F_sherdref11_Summed #[a.v, b.v] w (Rt fun v w' => ∃ s : Slc, v = s.v ∧ Made w w' s (le4 (crc (xs ++ bs)))) := by
  refine sim_sherdref11_Summed _ _ _ _ ?_
  unfold vc_sherdref11_Summed
  refine New.intro fun p w1 nb => ?_
  refine (Made.row (l := []) (Fr.refl _ _) nb rfl rfl (by decide)).app (ha.fr0 nb.fr) (by simp; omega) fun s1 w2 hM1 _ => ?_
  refine hM1.app (hb.fr0 hM1.fr) (by simp; omega) fun s2 w3 hM2 _ => New.intro fun q w4 nb2 => ?_
  refine call (rof_c (Parts.one hM2.byt nb2) (by simp; omega) (by simp)) ?_
  rintro _ _ ⟨rfl, rfl⟩
  refine ⟨_, rfl, call (rfour_c _ _) ?_⟩
  rintro _ w5 ⟨y, rfl, hY⟩
  refine ⟨y, rfl, Rt.ok ⟨y, rfl, ?_⟩⟩
  have := hY.since (hM2.fr.then_ nb2.fr)
  simpa using this

theorem rzero_c (a b : Int) (w : World) : Calls PP F_sherdref08_Zero #[.agg #[.int .i64 a, .int .i64 b]] w (Rt fun v w' => v = .bool (decide (a = 0) && decide (b = 0)) ∧ Fr [] w w') := by
  refine sim_sherdref08_Zero _ _ _ _ ?_
  unfold vc_sherdref08_Zero
  exact New.intro fun _ _ nb => Rt.ok ⟨rfl, nb.fr⟩
theorem rproper_c (a b : Int) (w : World) : Calls PP F_sherdref08_proper #[.agg #[.int .i64 a, .int .i64 b]] w (Rt fun v w' => v = .bool (properV a b) ∧ Fr [] w w') := by
  refine sim_sherdref08_proper _ _ _ _ ?_
  unfold vc_sherdref08_proper
  exact New.intro fun _ _ nb => Rt.ok ⟨rfl, nb.fr⟩
theorem rvalid_c (a b : Int) (w : World) : Calls PP F_sherdref08_Valid #[.agg #[.int .i64 a, .int .i64 b]] w (Rt fun v w' => v = .bool (validV a b) ∧ Fr [] w w') := by
  refine sim_sherdref08_Valid _ _ _ _ ?_
  unfold vc_sherdref08_Valid
  refine New.intro fun p w1 nb => call (rzero_c _ _ _) ?_
  rintro _ w2 ⟨rfl, f2⟩
  have hB := nb.blk.fr f2 (by simp)
  refine ⟨_, rfl, fun x w' => x = validV a b ∧ Fr [] w w', ⟨fun h => ⟨_, hB.cell rfl, _, hB.cell rfl, call (rproper_c _ _ _) ?_⟩, fun h => ⟨by simp [validV, h], nb.fr.then_ f2⟩⟩, ?_⟩
  · rintro _ w3 ⟨rfl, f3⟩
    exact ⟨_, rfl, by rw [validV, h]; rfl, (nb.fr.then_ f2).then_ f3⟩
  · rintro _ w3 ⟨rfl, f3⟩
    exact Rt.ok ⟨rfl, f3⟩
theorem rcheck_c (n k d : Int) (w : World) : Calls PP F_sherdref09_Check #[.agg #[.int .i64 n, .int .i64 k, .int .i64 d]] w (Rt fun v w' => v = .int .i64 (checkV n k d) ∧ Fr [] w w') := by
  refine sim_sherdref09_Check _ _ _ _ _ ?_
  unfold vc_sherdref09_Check
  refine New.intro fun _ _ nb => ⟨fun h => Rt.ok ⟨?_, nb.fr⟩, fun h => Rt.ok ⟨?_, nb.fr⟩⟩
  · rw [checkV, if_pos h]
  · rw [checkV, if_neg (by rw [h]; simp)]
theorem rcheckHead_c (n k d s : Int) (w : World) : Calls PP F_sherdref11_CheckHead #[.agg #[.int .i64 n, .int .i64 k, .int .i64 d, .int .i64 s]] w (Rt fun v w' => v = .int .i64 (mayHeadV n k d s) ∧ Fr [] w w') := by
  refine sim_sherdref11_CheckHead _ _ _ _ _ _ ?_
  unfold vc_sherdref11_CheckHead
  refine New.intro fun p w1 nb => call (rcheck_c _ _ _ _) ?_
  rintro _ w2 ⟨rfl, f2⟩
  have hB := nb.blk.fr f2 (by simp)
  refine ⟨_, rfl, fun h => Rt.ok ⟨?_, nb.fr.then_ f2⟩, fun h => ⟨_, hB.cell rfl, decide (s < 0) || decide (n ≤ s), fun h1 => ⟨_, hB.cell rfl, _, hB.cell2 rfl, by rw [h1]; rfl⟩, fun h1 => by rw [h1]; rfl, fun h1 => Rt.ok ⟨?_, nb.fr.then_ f2⟩, fun h1 => Rt.ok ⟨?_, nb.fr.then_ f2⟩⟩⟩
  · rw [mayHeadV, if_pos (by simpa using h)]
  · rw [mayHeadV, if_neg (by simpa using h), if_pos h1]
  · rw [mayHeadV, if_neg (by simpa using h), if_neg (by rw [h1]; simp)]

theorem rheadBytes_c {n k d s : Nat} (h0 : n < 9223372036854775808) (h1 : k < 9223372036854775808) (h2 : d < 9223372036854775808) (h3 : s < 9223372036854775808) {w : World} :
    Calls PP F_sherdref11_headBytes #[.agg #[.int .i64 (n : Int), .int .i64 (k : Int), .int .i64 (d : Int), .int .i64 (s : Int)]] w (Rt fun v w' => ∃ z : Slc, v = z.v ∧ Made w w' z (headBs n k d s)) := by
  have hpl := headPre_len h0 h1 h2 h3
  have a := uv_len9 h0; have b := uv_len9 h1; have c := uv_len9 h2; have e := uv_len9 h3
  refine sim_sherdref11_headBytes _ _ _ _ _ _ ?_
  unfold vc_sherdref11_headBytes
  refine New.intro fun p w1 nb => call (qw_new _) ?_
  rintro _ w2 ⟨q, rfl, hP⟩
  refine ⟨_, rfl, call (qw_byte (x := 72) hP (by simp)) ?_⟩
  have hB := nb.blk
  rintro _ w3 ⟨rfl, hP⟩
  refine ⟨rfl, _, (hB.fr hP.fr (by simp)).cell2 rfl, call (qw_uint hP h0 (by simp)) ?_⟩
  rintro _ w4 ⟨rfl, hP⟩
  refine ⟨rfl, _, (hB.fr hP.fr (by simp)).cell2 rfl, call (qw_uint hP h1 (by simp; omega)) ?_⟩
  rintro _ w5 ⟨rfl, hP⟩
  refine ⟨rfl, _, (hB.fr hP.fr (by simp)).cell2 rfl, call (qw_uint hP h2 (by simp; omega)) ?_⟩
  rintro _ w6 ⟨rfl, hP⟩
  refine ⟨rfl, _, (hB.fr hP.fr (by simp)).cell rfl, call (qw_uint hP h3 (by simp; omega)) ?_⟩
  rintro _ w7 ⟨rfl, hP⟩
  rw [show [] ++ [72] ++ uv n ++ uv k ++ uv d ++ uv s = headPre n k d s by simp [headPre]] at hP
  refine ⟨rfl, call (qw_data hP (by omega)) ?_⟩
  rintro _ w8 ⟨z, rfl, hM⟩
  have hM := hM.since (nb.fr.then_ hP.fr)
  refine ⟨z, rfl, call (summed_c (xs := []) (Cel.nil _ _) hM.byt (by simp; omega)) ?_⟩
  rintro _ w9 ⟨y, rfl, hY⟩
  refine ⟨y, rfl, (hM.more hY.fr).app hY.byt (by simp [le4_len]; omega) fun s' w10 hM' _ => Rt.ok ⟨s', rfl, ?_⟩⟩
  simpa [headBs] using hM'

/-- A sherdref11.Writer. -/
structure QRW (w : World) (p : Nat) (last : List UInt8) (cnt : Int) : Prop where
  own : ∃ s : Slc, Blk w p Ty_sherdref11_Writer #[s.v, .int .i64 cnt] ∧ Own Ty_uint8 1 w s (last.map u8v)
theorem rnew_c {n k d s : Int} {w : World} :
    Calls PP F_sherdref11_New #[.agg #[.int .i64 n, .int .i64 k, .int .i64 d, .int .i64 s]] w (Rt fun v w' => Fr [] w w' ∧
      ((mayHeadV n k d s ≠ 0 ∧ v = .tuple #[.pointer none, Slc.nil.v, .int .i64 (mayHeadV n k d s)]) ∨
       (mayHeadV n k d s = 0 ∧ ∃ p z, v = .tuple #[.pointer (some (blk p)), Slc.v z, .int .i64 0] ∧ Row w w' z (headBs n.toNat k.toNat d.toNat s.toNat) ∧ w.heap.size ≤ p ∧
         QRW w' p (le4 (crc (headPre n.toNat k.toNat d.toNat s.toNat))) 0))) := by
  refine sim_sherdref11_New _ _ _ _ _ _ ?_
  unfold vc_sherdref11_New
  refine New.intro fun b w1 nb => call (rcheckHead_c _ _ _ _ _) ?_
  rintro _ w2 ⟨rfl, f2⟩
  have hB := nb.blk.fr f2 (by simp)
  have f02 := nb.fr.then_ f2
  refine ⟨_, rfl, fun h => Rt.ok ⟨f02, .inl ⟨by simpa using h, rfl⟩⟩, fun h => ⟨_, hB.cell rfl, _, hB.cell rfl, _, hB.cell rfl, _, hB.cell rfl, ?_⟩⟩
  simp only [ne_eq, decide_not, Bool.not_eq_false', decide_eq_true_eq] at h
  obtain ⟨h1, h2, h3, h4, h5, h6, h7⟩ := mayHead_ok h
  obtain ⟨n, rfl⟩ := Int.eq_ofNat_of_zero_le (by omega : 0 ≤ n)
  obtain ⟨k, rfl⟩ := Int.eq_ofNat_of_zero_le (by omega : 0 ≤ k)
  obtain ⟨d, rfl⟩ := Int.eq_ofNat_of_zero_le (by omega : 0 ≤ d)
  obtain ⟨s, rfl⟩ := Int.eq_ofNat_of_zero_le (by omega : 0 ≤ s)
  have hpl := headPre_len (n := n) (k := k) (d := d) (s := s) (by omega) (by omega) (by omega) (by omega)
  have hbl : (headBs n k d s).length = (headPre n k d s).length + 4 := by simp [headBs, le4_len]
  refine call (rheadBytes_c (by omega) (by omega) (by omega) (by omega)) ?_
  rintro _ w3 ⟨z, rfl, hM⟩
  have hzl := hM.byt.len
  have hcap := hM.byt.cap
  refine ⟨z, rfl, New.intro fun b4 w4 nb4 => ?_⟩
  rw [wr64 (by omega) (by omega)]
  refine ⟨by omega, by omega, by omega, ?_⟩
  have e1 : ((z.l : Int) - 4).toNat = (headPre n k d s).length := by omega
  have e2 : ((z.l : Int)).toNat = (headBs n k d s).length := by omega
  rw [e1, e2]
  have hM4 := hM.more nb4.fr
  have hcut : Byt w4 (z.cut 1 (headPre n k d s).length (headBs n k d s).length) (le4 (crc (headPre n k d s))) := by
    refine cut_all hM4.byt (by omega) (by omega) ?_
    rw [hbl]
    simp [headBs]
    exact (List.take_of_length_le (by rw [le4_len]; omega)).symm
  refine (Made.row (l := []) (Fr.refl _ _) nb4 rfl rfl (by decide)).app hcut (by simp [le4_len]) fun y w5 hY _ => New.intro fun q w6 nb6 => Rt.ok ⟨((f02.then_ hM.fr).then_ hY.fr).then_ nb6.fr, .inr ⟨h, q, z, rfl, ?_, ?_, ?_⟩⟩
  · have h8 := (hM.more hY.fr).more nb6.fr
    exact (h8.since f02).row'
  · have h9 := ((f02.then_ hM.fr).then_ hY.fr).size
    rw [nb6.at_]; exact h9
  · exact ⟨y, nb6.blk, by simpa using (hY.more nb6.fr).own⟩
end Go.Proofs.YtnhgnfflihoaiaaDoor
