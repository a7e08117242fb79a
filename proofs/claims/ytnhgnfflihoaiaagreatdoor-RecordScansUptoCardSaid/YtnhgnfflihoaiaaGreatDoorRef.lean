/-
  Contracts of the references' pack writer, sums, checks.
-/
import Derived.Test.YtnhgnfflihoaiaaGreatDoorRecord
namespace Go.Proofs.YtnhgnfflihoaiaaGreatDoor
open Go Go.Vc

structure QWL (w0 w : World) (p : Nat) (bs : List UInt8) : Prop where
  fr : Fr [] w0 w
  own : ∃ s : Slc, Blk w p Ty_sherdref07_Writer #[s.v, .int .i64 0] ∧ Own Ty_uint8 1 w s (bs.map u8v) ∧ w0.heap.size ≤ p ∧ ∀ k ∈ s.blks, w0.heap.size ≤ k
theorem QWL.more {w0 w w' : World} {p : Nat} {bs : List UInt8} (h : QWL w0 w p bs) (f : Fr [] w w') : QWL w0 w' p bs := by
  obtain ⟨hf, s, hB, hO, hp, hs⟩ := h
  exact ⟨hf.then_ f, s, hB.fr f (by simp), hO.fr0 f, hp, hs⟩

theorem qw_new (w : World) : Calls PP F_sherdref07_NewWriter #[] w (Rt fun v w' => ∃ p, v = .pointer (some (blk p)) ∧ QWL w w' p []) := by
  refine sim_sherdref07_NewWriter _ _ ?_
  unfold vc_sherdref07_NewWriter
  refine New.intro fun b w1 nb => ?_
  exact Rt.ok ⟨b, rfl, nb.fr, Slc.nil, nb.blk, Own.nil _ _ _, by rw [nb.at_]; exact Nat.le_refl _, fun k hk => by simp [Slc.blks] at hk⟩

structure QWo (w : World) (p : Nat) (s : Slc) (bs : List UInt8) : Prop where
  blk : Blk w p Ty_sherdref07_Writer #[s.v, .int .i64 0]
  own : Own Ty_uint8 1 w s (bs.map u8v)
theorem QWo.fr {w w' : World} {p : Nat} {s : Slc} {bs : List UInt8} (h : QWo w p s bs) (f : Fr [] w w') : QWo w' p s bs := ⟨h.blk.fr f (by simp), h.own.fr0 f⟩
theorem qw_lift {w0 w : World} {p f : Nat} {bs bs' : List UInt8} {args : Array Value} (h : QWL w0 w p bs)
    (k : ∀ s, QWo w p s bs → Calls PP f args w (Rt fun v w' => v = .tuple #[] ∧ ∃ s', QWo w' p s' bs' ∧ Stp p s w s' w')) : Calls PP f args w (Rt fun v w' => v = .tuple #[] ∧ QWL w0 w' p bs') := by
  obtain ⟨hf, s, hB, hO, hp, hs⟩ := h
  refine Rt.mono (k s ⟨hB, hO⟩) ?_
  rintro _ w' ⟨rfl, s', ⟨hB', hO'⟩, hS⟩
  refine ⟨rfl, hf.local_ hS.fr fun x hx => .inr ?_, s', hB', hO', hp, fun x hx => ?_⟩
  · rcases List.mem_cons.1 hx with h1 | h1
    · omega
    · exact hs x h1
  · rcases hS.new x hx with h1 | h1
    · exact hs x h1
    · exact Nat.le_trans hf.size h1

theorem qo_put {w : World} {p : Nat} {s : Slc} {bs ys : List UInt8} {b : Slc} (h : QWo w p s bs) (hb : Byt w b ys) (hm : bs.length + ys.length ≤ 140737488355328) :
    Calls PP F_sherdref07_Writer_put #[.pointer (some (blk p)), b.v] w (Rt fun v w' => v = .tuple #[] ∧ ∃ s', QWo w' p s' (bs ++ ys) ∧ Stp p s w s' w') := by
  obtain ⟨hB, hO⟩ := h
  have hsl : s.l = bs.length := Byt.len hO.cel
  have hbl := hb.len
  refine sim_sherdref07_Writer_put _ _ _ _ ?_
  unfold vc_sherdref07_Writer_put
  refine ⟨_, rfl, 0, hB.cell rfl, fun _ => ⟨s, hB.cell rfl, ?_⟩, by simp⟩
  refine App.own slT_sl_uint8 hO hb (one_u8 _) (by unfold maxLen; omega) (by omega) ?_
  intro s' w1 hO' hl hF hblk
  have hn : p ∉ s.blks := hO.ne hB (by decide)
  refine (hB.fr hF hn).sto (lt_ rfl) fun w2 hB2 hF2 => ?_
  have h2 := hO'.ne (hB.fr hF hn) (by decide)
  refine Rt.ok ⟨rfl, s', ⟨hB2, ?_⟩, ?_, fun x hx => ?_⟩
  · rw [List.map_append]
    exact hO'.fr hF2 fun k hk hx => by simp at hx; subst hx; exact h2 hk
  · exact (hF.sub fun k hk _ => List.mem_cons_of_mem p hk).local_ hF2 fun x hx => .inl (by simp at hx; simp [hx])
  · rcases hblk x hx with h1 | h1
    · exact .inl h1
    · exact .inr (by omega)
theorem qw_put {w0 w : World} {p : Nat} {bs ys : List UInt8} {b : Slc} (h : QWL w0 w p bs) (hb : Byt w b ys) (hm : bs.length + ys.length ≤ 140737488355328) :
    Calls PP F_sherdref07_Writer_put #[.pointer (some (blk p)), b.v] w (Rt fun v w' => v = .tuple #[] ∧ QWL w0 w' p (bs ++ ys)) := qw_lift h fun _ ho => qo_put ho hb hm

theorem tdiv_nat (n : Nat) (k : Nat) : (n : Int).tdiv (k : Int) = ((n / k : Nat) : Int) := (Int.ofNat_tdiv n k).symm
theorem tmod_nat (n : Nat) (k : Nat) : (n : Int).tmod (k : Int) = ((n % k : Nat) : Int) := (Int.ofNat_tmod n k).symm
theorem rform_c {n : Nat} (hn : n < 9223372036854775808) (w : World) : Calls PP F_sherdref07_Form #[.int .i64 (n : Int)] w (Rt fun v w' => ∃ s : Slc, v = s.v ∧ Made w w' s (uv n)) := by
  refine sim_sherdref07_Form _ _ _ ?_
  unfold vc_sherdref07_Form
  refine ⟨fun n' s w' => ∃ m : Nat, n' = (m : Int) ∧ m ≤ n ∧ ∃ pre, uv n = pre ++ uv m ∧ Made w w' s pre, fun n' _ _ => n'.toNat, ⟨n, rfl, Nat.le_refl _, [], rfl, Made.nil w⟩, ?_⟩
  rintro _ s w1 ⟨m, rfl, hm, pre, hu, hM⟩
  have hlen := uv_len9 hn
  rw [hu, List.length_append] at hlen
  have ed : (m : Int).tdiv 128 = ((m / 128 : Nat) : Int) := tdiv_nat m 128
  have em : (m : Int).tmod 128 = ((m % 128 : Nat) : Int) := tmod_nat m 128
  rw [ed, em, wr64 (by omega) (by omega)]
  refine ⟨fun h => ?_, fun h => ?_⟩
  · simp only [decide_eq_true_eq] at h
    have hm128 : m < 128 := by omega
    refine New.intro fun b w2 nb => ?_
    have e : wr .u8 ((m % 128 : Nat) : Int) = ((UInt8.ofNat m).toNat : Int) := by rw [Nat.mod_eq_of_lt hm128, u8_ofNat (by omega), wr8u (by omega) (by omega)]
    rw [e] at nb
    refine (hM.more nb.fr).app (Made.one hM.fr nb).byt (by simp; omega) fun s' w3 hM' _ => ?_
    refine Rt.ok ⟨s', rfl, ?_⟩
    rw [hu, uv_small hm128]
    exact hM'
  · simp only [decide_eq_false_iff_not] at h
    have hb := uv_big (n := m) (by omega)
    refine New.intro fun b w2 nb => ?_
    have e : wr .u8 (wr .u8 ((m % 128 : Nat) : Int) + 128) = ((UInt8.ofNat (m % 128 + 128)).toNat : Int) := by
      rw [wr8u (n := ((m % 128 : Nat) : Int)) (by omega) (by omega), u8_ofNat (by omega), wr8u (by omega) (by omega)]; omega
    rw [e] at nb
    refine (hM.more nb.fr).app (Made.one hM.fr nb).byt (by simp; omega) fun s' w3 hM' _ => ?_
    exact ⟨⟨_, rfl, by omega, _, by rw [hu, hb, List.append_assoc]; rfl, hM'⟩, by simp; omega⟩

theorem qo_uint {w : World} {p n : Nat} {s : Slc} {bs : List UInt8} (h : QWo w p s bs) (hn : n < 9223372036854775808) (hm : bs.length ≤ 140737488355000) :
    Calls PP F_sherdref07_Writer_Uint #[.pointer (some (blk p)), .int .i64 (n : Int)] w (Rt fun v w' => v = .tuple #[] ∧ ∃ s', QWo w' p s' (bs ++ uv n) ∧ Stp p s w s' w') := by
  have hl := uv_len9 hn
  refine sim_sherdref07_Writer_Uint _ _ _ _ ?_
  unfold vc_sherdref07_Writer_Uint
  refine ⟨fun w' => w = w', ⟨_, rfl, 0, h.blk.cell rfl, fun h => by simp at h; omega, fun _ => rfl⟩, ?_⟩
  rintro _ rfl
  refine ⟨fun _ => ?_, fun h => by simp at h⟩
  refine call (rform_c hn w) ?_
  rintro _ w1 ⟨z, rfl, hM⟩
  refine ⟨z, rfl, call (qo_put (h.fr hM.fr) hM.byt (by omega)) ?_⟩
  rintro _ w2 ⟨rfl, s', h2, hS⟩
  exact ⟨rfl, Rt.ok ⟨rfl, s', h2, (Stp.of0 hM.fr).trans hS⟩⟩
theorem qw_uint {w0 w : World} {p n : Nat} {bs : List UInt8} (h : QWL w0 w p bs) (hn : n < 9223372036854775808) (hm : bs.length ≤ 140737488355000) :
    Calls PP F_sherdref07_Writer_Uint #[.pointer (some (blk p)), .int .i64 (n : Int)] w (Rt fun v w' => v = .tuple #[] ∧ QWL w0 w' p (bs ++ uv n)) := qw_lift h fun _ ho => qo_uint ho hn hm
theorem qw_byte {w0 w : World} {p : Nat} {bs : List UInt8} {x : UInt8} (h : QWL w0 w p bs) (hm : bs.length ≤ 140737488355000) :
    Calls PP F_sherdref07_Writer_Byte #[.pointer (some (blk p)), u8v x] w (Rt fun v w' => v = .tuple #[] ∧ QWL w0 w' p (bs ++ [x])) := by
  refine sim_sherdref07_Writer_Byte _ _ _ _ ?_
  unfold vc_sherdref07_Writer_Byte
  refine New.intro fun b w1 nb => ?_
  refine call (qw_put (h.more nb.fr) (Made.one h.fr nb).byt (by simp; omega)) ?_
  rintro _ w2 ⟨rfl, h2⟩
  exact ⟨rfl, Rt.ok ⟨rfl, h2⟩⟩
theorem qw_bool {w0 w : World} {p : Nat} {bs : List UInt8} {x : Bool} (h : QWL w0 w p bs) (hm : bs.length ≤ 140737488355000) :
    Calls PP F_sherdref07_Writer_Bool #[.pointer (some (blk p)), .bool x] w (Rt fun v w' => v = .tuple #[] ∧ QWL w0 w' p (bs ++ [if x then 1 else 0])) := by
  refine sim_sherdref07_Writer_Bool _ _ _ _ ?_
  unfold vc_sherdref07_Writer_Bool
  refine ⟨fun hx => ?_, fun hx => ?_⟩
  · subst hx
    refine New.intro fun b w1 nb => call (qw_put (h.more nb.fr) (Made.one (x := 1) h.fr nb).byt (by simp; omega)) ?_
    rintro _ w2 ⟨rfl, h2⟩
    exact ⟨rfl, Rt.ok ⟨rfl, h2⟩⟩
  · subst hx
    refine New.intro fun b w1 nb => call (qw_put (h.more nb.fr) (Made.one (x := 0) h.fr nb).byt (by simp; omega)) ?_
    rintro _ w2 ⟨rfl, h2⟩
    exact ⟨rfl, Rt.ok ⟨rfl, h2⟩⟩
theorem qo_bytes {w : World} {p : Nat} {s : Slc} {bs ys : List UInt8} {b : Slc} (h : QWo w p s bs) (hb : Byt w b ys) (hd : ∀ k ∈ b.blks, k ∉ p :: s.blks) (hm : bs.length + ys.length ≤ 140737488355000) :
    Calls PP F_sherdref07_Writer_Bytes #[.pointer (some (blk p)), b.v] w (Rt fun v w' => v = .tuple #[] ∧ ∃ s', QWo w' p s' (bs ++ uv ys.length ++ ys) ∧ Stp p s w s' w') := by
  have hl := uv_len9 (n := ys.length) (by omega)
  refine sim_sherdref07_Writer_Bytes _ _ _ _ ?_
  unfold vc_sherdref07_Writer_Bytes
  rw [hb.len]
  refine call (qo_uint h (by omega) (by omega)) ?_
  rintro _ w1 ⟨rfl, s1, h1, hS⟩
  refine ⟨rfl, call (qo_put h1 (Cel.fr hb hS.fr hd) (by simp; omega)) ?_⟩
  rintro _ w2 ⟨rfl, s2, h2, hS2⟩
  exact ⟨rfl, Rt.ok ⟨rfl, s2, h2, hS.trans hS2⟩⟩
theorem qw_bytes {w0 w : World} {p : Nat} {bs ys : List UInt8} {b : Slc} (h : QWL w0 w p bs) (hb : Byt w0 b ys) (hm : bs.length + ys.length ≤ 140737488355000) :
    Calls PP F_sherdref07_Writer_Bytes #[.pointer (some (blk p)), b.v] w (Rt fun v w' => v = .tuple #[] ∧ QWL w0 w' p (bs ++ uv ys.length ++ ys)) := by
  obtain ⟨hf, s, hB, hO, hp, hs⟩ := h
  by_cases hz : ys = []
  · subst hz
    -- nothing is read
    have hl := uv_len9 (n := ([] : List UInt8).length) (by decide)
    refine sim_sherdref07_Writer_Bytes _ _ _ _ ?_
    unfold vc_sherdref07_Writer_Bytes
    rw [hb.len]
    refine call (qw_uint ⟨hf, s, hB, hO, hp, hs⟩ (by decide) (by omega)) ?_
    rintro _ w1 ⟨rfl, h1⟩
    refine ⟨rfl, call (qw_put h1 (hb.fr0 h1.fr) (by simp; simp at hm hl; omega)) ?_⟩
    rintro _ w2 ⟨rfl, h2⟩
    exact ⟨rfl, Rt.ok ⟨rfl, h2⟩⟩
  · refine qw_lift ⟨hf, s, hB, hO, hp, hs⟩ fun s' ho => ?_
    have e : s'.v = s.v := by
      have h1 := ho.blk
      unfold Blk at h1 hB
      rw [hB] at h1
      simp at h1
      obtain ⟨a1, l1, c1⟩ := s
      obtain ⟨a2, l2, c2⟩ := s'
      simp at h1 ⊢
      exact ⟨h1.1.symm, h1.2.1.symm, h1.2.2.symm⟩
    have e2 : s'.blks = s.blks := by rw [← ownBlock_eq, ← ownBlock_eq, e]
    refine qo_bytes ho (hb.fr0 hf) (fun k hk hx => ?_) hm
    have hlt : k < w0.heap.size := Cel.lt hb (by simpa using hz) k hk
    rw [e2] at hx
    rcases List.mem_cons.1 hx with h1 | h1
    · omega
    · have := hs k h1; omega
theorem QWL.step {w0 w w' : World} {p : Nat} {s s' : Slc} {bs : List UInt8} (hf : Fr [] w0 w) (hp : w0.heap.size ≤ p) (hs : ∀ k ∈ s.blks, w0.heap.size ≤ k) (h : QWo w' p s' bs) (S : Stp p s w s' w') : QWL w0 w' p bs := by
  refine ⟨hf.local_ S.fr fun x hx => .inr ?_, s', h.blk, h.own, hp, fun x hx => ?_⟩
  · rcases List.mem_cons.1 hx with h1 | h1
    · omega
    · exact hs x h1
  · rcases S.new x hx with h1 | h1
    · exact hs x h1
    · exact Nat.le_trans hf.size h1
theorem qw_bytes2 {w0 w1 w : World} {p : Nat} {bs ys : List UInt8} {b : Slc} (h : QWL w0 w1 p bs) (f : Fr [] w1 w) (hb : Byt w b ys) (hn : ∀ k ∈ b.blks, w1.heap.size ≤ k) (hm : bs.length + ys.length ≤ 140737488355000) :
    Calls PP F_sherdref07_Writer_Bytes #[.pointer (some (blk p)), b.v] w (Rt fun v w' => v = .tuple #[] ∧ QWL w0 w' p (bs ++ uv ys.length ++ ys)) := by
  obtain ⟨hf, s, hB, hO, hp, hs⟩ := h
  refine Rt.mono (qo_bytes (QWo.fr ⟨hB, hO⟩ f) hb (fun k hk hx => ?_) hm) ?_
  · have := hn k hk
    rcases List.mem_cons.1 hx with h1 | h1
    · have := hB.lt; omega
    · have := hO.lt k h1; omega
  · rintro _ w' ⟨rfl, s', h2, S⟩
    exact ⟨rfl, QWL.step (hf.then_ f) hp hs h2 S⟩
theorem qo_text {w : World} {p : Nat} {s : Slc} {bs : List UInt8} {t : ByteArray} (h : QWo w p s bs) (hm : bs.length + t.size ≤ 140737488355000) :
    Calls PP F_sherdref07_Writer_Text #[.pointer (some (blk p)), .string t] w (Rt fun v w' => v = .tuple #[] ∧ ∃ s', QWo w' p s' (bs ++ uv t.size ++ t.data.toList) ∧ Stp p s w s' w') := by
  refine sim_sherdref07_Writer_Text _ _ _ _ ?_
  unfold vc_sherdref07_Writer_Text
  refine ToBytes.rule und_string slT_sl_uint8.ut und_uint8 fun z w1 hz hf hzb => ?_
  have hsz : t.data.toList.length = t.size := by simp
  refine call (qo_bytes (h.fr hf) hz (fun k hk hx => ?_) (by omega)) ?_
  · have := hzb k hk
    rcases List.mem_cons.1 hx with h1 | h1
    · have := h.blk.lt; omega
    · have := h.own.lt k h1; omega
  · rintro _ w2 ⟨rfl, s', h2, hS⟩
    rw [hsz] at h2
    exact ⟨rfl, Rt.ok ⟨rfl, s', h2, (Stp.of0 hf).trans hS⟩⟩
theorem qw_text {w0 w : World} {p : Nat} {bs : List UInt8} {t : ByteArray} (h : QWL w0 w p bs) (hm : bs.length + t.size ≤ 140737488355000) :
    Calls PP F_sherdref07_Writer_Text #[.pointer (some (blk p)), .string t] w (Rt fun v w' => v = .tuple #[] ∧ QWL w0 w' p (bs ++ uv t.size ++ t.data.toList)) := qw_lift h fun _ ho => qo_text ho hm
end Go.Proofs.YtnhgnfflihoaiaaGreatDoor

/-
  Contracts of the references, continued: sums, checks, a head, an update.
-/
namespace Go.Proofs.YtnhgnfflihoaiaaGreatDoor
open Go Go.Vc

theorem qw_data {w0 w : World} {p : Nat} {bs : List UInt8} (h : QWL w0 w p bs) (hm : bs.length ≤ 140737488355328) :
    Calls PP F_sherdref07_Writer_Data #[.pointer (some (blk p))] w (Rt fun v w' => ∃ s : Slc, v = s.v ∧ Made w w' s bs) := by
  obtain ⟨hf, s, hB, hO, hp, hs⟩ := h
  refine sim_sherdref07_Writer_Data _ _ _ ?_
  unfold vc_sherdref07_Writer_Data
  refine ⟨_, rfl, 0, hB.cell rfl, fun h => by simp at h, fun _ => New.intro fun b w1 nb => ⟨s, (hB.fr nb.fr (by simp)).cell rfl, ?_⟩⟩
  refine (Made.row (l := []) (Fr.refl _ _) nb rfl rfl (by decide)).app (ys := bs) (hO.cel.fr0 nb.fr) (by simp; omega) fun s' w2 hM _ => Rt.ok ⟨s', rfl, by simpa using hM⟩

theorem bs1_and (c : BitVec 32) : (andI .u32 (c.toNat : Int) 1 = 1) ↔ c.getLsbD 0 = true := by
  have h := and32 c 1#32
  rw [show (((1#32).toNat : Nat) : Int) = 1 from rfl] at h
  rw [h, BitVec.toNat_and, BitVec.getLsbD, Nat.testBit_zero]
  have : c.toNat &&& (1#32).toNat = c.toNat % 2 := Nat.and_one_is_mod _
  rw [this]
  simp
  omega
theorem bs1_shr (c : BitVec 32) : shrI .u32 (c.toNat : Int) 1 = ((c >>> 1).toNat : Int) := shr32 c 1 (by omega)
theorem bs1_xorI (c : BitVec 32) : xorI .u32 ((c >>> 1).toNat : Int) 3988292384 = ((c >>> 1 ^^^ poly).toNat : Int) := xor32 (c >>> 1) poly
theorem bsn_succ (k : Nat) (c : BitVec 32) : bsn (k + 1) c = bs1 (bsn k c) := by rw [bsn_add k 1]; rfl
theorem bitwise_c (c : BitVec 32) (w : World) : Calls PP F_sherdref06_bitwise #[.int .u32 (c.toNat : Int)] w (Rt fun v w' => v = .int .u32 ((bsn 8 c).toNat : Int) ∧ w = w') := by
  refine sim_sherdref06_bitwise _ _ _ ?_
  unfold vc_sherdref06_bitwise
  refine ⟨fun n i w' => w = w' ∧ ∃ k : Nat, i = (k : Int) ∧ k ≤ 8 ∧ n = ((bsn k c).toNat : Int), fun _ i _ => 8 - i.toNat, ⟨rfl, 0, rfl, by omega, rfl⟩, ?_⟩
  rintro _ _ _ ⟨rfl, k, rfl, hk, rfl⟩
  refine ⟨fun hlt => ?_, fun hge => ?_⟩
  · simp only [decide_eq_true_eq] at hlt
    refine ⟨fun n w' => w = w' ∧ n = ((bsn (k + 1) c).toNat : Int), ⟨fun h => ⟨rfl, ?_⟩, fun h => ⟨rfl, ?_⟩⟩, ?_⟩
    · simp only [decide_eq_true_eq, bs1_and] at h
      rw [bs1_shr, bs1_xorI, bsn_succ, bs1, if_pos h]
    · simp only [decide_eq_false_iff_not, bs1_and] at h
      rw [bs1_shr, bsn_succ, bs1, if_neg h]; simp
    · rintro _ _ ⟨rfl, rfl⟩
      rw [wr64 (by omega) (by omega)]
      exact ⟨⟨rfl, k + 1, rfl, by omega, rfl⟩, by dsimp only; omega⟩
  · simp only [decide_eq_false_iff_not] at hge
    have : k = 8 := by omega
    subst this
    exact Rt.ok ⟨rfl, rfl⟩
theorem notx (a : BitVec 32) : xorI .u32 (a.toNat : Int) 4294967295 = ((~~~ a).toNat : Int) := by
  have h := xor32 a (BitVec.allOnes 32)
  rw [show (((BitVec.allOnes 32).toNat : Nat) : Int) = 4294967295 from rfl] at h
  rw [h, BitVec.xor_allOnes]
theorem rof_c {w : World} {s : Slc} {bss : List (List UInt8)} (h : Parts w s bss) (hm : bss.flatten.length ≤ 140737488355328) (hk : bss.length ≤ 140737488355328) :
    Calls PP F_sherdref06_Of #[s.v] w (Rt fun v w' => v = .int .u32 ((crc bss.flatten).toNat : Int) ∧ w = w') := by
  have hsl := h.len
  refine sim_sherdref06_Of _ _ _ ?_
  unfold vc_sherdref06_Of
  refine ⟨fun x i w' => w = w' ∧ ∃ k : Nat, i = (k : Int) ∧ k ≤ bss.length ∧ x = ((crcL (BitVec.allOnes 32) (bss.take k).flatten).toNat : Int), fun _ i _ => bss.length - i.toNat, ⟨rfl, 0, rfl, by omega, by simp [crcL]⟩, ?_⟩
  rintro _ _ _ ⟨rfl, k, rfl, hkl, rfl⟩
  refine ⟨fun hlt => ?_, fun hge => ?_⟩
  · simp only [decide_eq_true_eq, hsl] at hlt
    have hlt' : k < bss.length := by omega
    obtain ⟨p, x, hp, hc, hx⟩ := h.get hlt'
    have hs1 := flat_step bss k hlt'
    have hl1 := flat_le bss (k + 1)
    rw [hs1, List.length_append] at hl1
    have hxl := hx.len
    have hc' : w.cell? (p.add ((k : Int).toNat * 1)) = some (Slc.v x) := by simpa using hc
    refine ⟨fun z w' => w = w' ∧ z = ((crcL (BitVec.allOnes 32) (bss.take (k + 1)).flatten).toNat : Int), ⟨fun z i w' => w = w' ∧ ∃ j : Nat, i = (j : Int) ∧ j ≤ bss[k].length ∧ z = ((crcL (BitVec.allOnes 32) ((bss.take k).flatten ++ bss[k].take j)).toNat : Int), fun _ i _ => bss[k].length - i.toNat, ⟨rfl, 0, rfl, by omega, by simp⟩, ?_⟩, ?_⟩
    · rintro _ _ _ ⟨rfl, j, rfl, hjl, rfl⟩
      refine ⟨p, hp, by omega, by omega, x, hc', fun hj => ?_, fun hj => ?_⟩
      · simp only [decide_eq_true_eq, hxl] at hj
        have hj' : j < bss[k].length := by omega
        obtain ⟨q, hq, hcell⟩ := hx.get hj'
        refine ⟨p, hp, by omega, by omega, x, hc', q, hq, by omega, by omega, _, by simpa using hcell, ?_⟩
        rw [wr32_u8, xor32]
        refine call (bitwise_c _ _) ?_
        rintro _ _ ⟨rfl, rfl⟩
        refine ⟨_, rfl, ?_⟩
        rw [wr64 (by omega) (by omega)]
        refine ⟨⟨rfl, j + 1, rfl, by omega, ?_⟩, by dsimp only; omega⟩
        rw [List.take_succ_eq_append_getElem hj', ← List.append_assoc, crcL_append _ _ [_]]
        rfl
      · simp only [decide_eq_false_iff_not, hxl] at hj
        have : j = bss[k].length := by omega
        subst this
        exact ⟨rfl, by rw [hs1, List.take_length]⟩
    · rintro _ _ ⟨rfl, rfl⟩
      rw [wr64 (by omega) (by omega)]
      exact ⟨⟨rfl, k + 1, rfl, by omega, rfl⟩, by dsimp only; omega⟩
  · simp only [decide_eq_false_iff_not, hsl] at hge
    have hkk : k = bss.length := by omega
    subst hkk
    rw [List.take_length, notx]
    exact Rt.ok ⟨rfl, rfl⟩

theorem le4_at (c : BitVec 32) {k : Nat} (h : k < 4) : (le4 c)[k]'(by rw [le4_len]; exact h) = UInt8.ofNat (c.toNat / 256 ^ k % 256) := by
  rcases k with _ | _ | _ | _ | k <;> first | (simp [le4]; done) | omega
theorem rfour_c (c : BitVec 32) (w : World) : Calls PP F_sherdref11_four #[.int .u32 (c.toNat : Int)] w (Rt fun v w' => ∃ s : Slc, v = s.v ∧ Made w w' s (le4 c)) := by
  refine sim_sherdref11_four _ _ _ ?_
  unfold vc_sherdref11_four
  refine ⟨fun n s i w' => ∃ k : Nat, i = (k : Int) ∧ k ≤ 4 ∧ n = ((c.toNat / 256 ^ k : Nat) : Int) ∧ Made w w' s ((le4 c).take k), fun _ _ i _ => 4 - i.toNat, ⟨0, rfl, by omega, by simp, Made.nil w⟩, ?_⟩
  rintro _ s _ w1 ⟨k, rfl, hk, rfl, hM⟩
  have hlt32 := c.isLt
  have hle : c.toNat / 256 ^ k ≤ c.toNat := Nat.div_le_self _ _
  have ep : c.toNat / 256 ^ (k + 1) = c.toNat / 256 ^ k / 256 := by rw [Nat.pow_succ, ← Nat.div_div_eq_div_mul]
  have hB := le4_at c (k := k)
  generalize hm : c.toNat / 256 ^ k = m at *
  refine ⟨fun hlt => ?_, fun hge => ?_⟩
  · simp only [decide_eq_true_eq] at hlt
    have hk4 : k < 4 := by omega
    have e1 : wr .u8 ((m : Int).tmod 256) = ((UInt8.ofNat (m % 256)).toNat : Int) := by
      rw [u8_ofNat (by omega), Int.tmod_eq_emod_of_nonneg (Int.natCast_nonneg _), wr8_mod]
      omega
    have e2 : wr .u32 ((m : Int).tdiv 256) = ((c.toNat / 256 ^ (k + 1) : Nat) : Int) := by
      rw [Int.tdiv_eq_ediv_of_nonneg (Int.natCast_nonneg _), ep, wr32u (by omega) (by omega)]
      omega
    rw [e1, e2, wr64 (by omega) (by omega)]
    refine New.intro fun b w2 nb => ?_
    refine (hM.more nb.fr).app (Made.one hM.fr nb).byt (by simp [le4_len]; omega) fun s' w3 hM' _ => ⟨⟨k + 1, rfl, by omega, rfl, ?_⟩, by dsimp only; omega⟩
    rw [List.take_succ_eq_append_getElem (by rw [le4_len]; exact hk4), hB hk4]
    exact hM'
  · simp only [decide_eq_false_iff_not] at hge
    have : k = 4 := by omega
    subst this
    rw [List.take_of_length_le (by rw [le4_len]; omega)] at hM
    exact Rt.ok ⟨s, rfl, hM⟩

theorem summed_c {w : World} {a b : Slc} {xs bs : List UInt8} (ha : Byt w a xs) (hb : Byt w b bs) (hm : xs.length + bs.length ≤ 140737488355328) :
    Calls PP F_sherdref11_Summed #[a.v, b.v] w (Rt fun v w' => ∃ s : Slc, v = s.v ∧ Made w w' s (le4 (crc (xs ++ bs)))) := by
  refine sim_sherdref11_Summed _ _ _ _ ?_
  unfold vc_sherdref11_Summed
  refine New.intro fun p w1 nb => ?_
  refine (Made.row (l := []) (Fr.refl _ _) nb rfl rfl (by decide)).app (ha.fr0 nb.fr) (by simp; omega) fun s1 w2 hM1 _ => ?_
  refine hM1.app (hb.fr0 hM1.fr) (by simp; omega) fun s2 w3 hM2 _ => New.intro fun q w4 nb2 => ?_
  refine call (rof_c (Parts.one hM2.byt nb2) (by simp; omega) (by simp)) ?_
  rintro _ _ ⟨rfl, rfl⟩
  refine ⟨_, rfl, call (rfour_c _ _) ?_⟩
  rintro _ w5 ⟨y, rfl, hY⟩
  refine ⟨y, rfl, Rt.ok ⟨y, rfl, ?_⟩⟩
  have := hY.since (hM2.fr.then_ nb2.fr)
  simpa using this

theorem rzero_c (a b : Int) (w : World) : Calls PP F_sherdref08_Zero #[.agg #[.int .i64 a, .int .i64 b]] w (Rt fun v w' => v = .bool (decide (a = 0) && decide (b = 0)) ∧ Fr [] w w') := by
  refine sim_sherdref08_Zero _ _ _ _ ?_
  unfold vc_sherdref08_Zero
  exact New.intro fun _ _ nb => Rt.ok ⟨rfl, nb.fr⟩
theorem rproper_c (a b : Int) (w : World) : Calls PP F_sherdref08_proper #[.agg #[.int .i64 a, .int .i64 b]] w (Rt fun v w' => v = .bool (properV a b) ∧ Fr [] w w') := by
  refine sim_sherdref08_proper _ _ _ _ ?_
  unfold vc_sherdref08_proper
  exact New.intro fun _ _ nb => Rt.ok ⟨rfl, nb.fr⟩
theorem rvalid_c (a b : Int) (w : World) : Calls PP F_sherdref08_Valid #[.agg #[.int .i64 a, .int .i64 b]] w (Rt fun v w' => v = .bool (validV a b) ∧ Fr [] w w') := by
  refine sim_sherdref08_Valid _ _ _ _ ?_
  unfold vc_sherdref08_Valid
  refine New.intro fun p w1 nb => call (rzero_c _ _ _) ?_
  rintro _ w2 ⟨rfl, f2⟩
  have hB := nb.blk.fr f2 (by simp)
  refine ⟨_, rfl, fun x w' => x = validV a b ∧ Fr [] w w', ⟨fun h => ⟨_, hB.cell rfl, _, hB.cell rfl, call (rproper_c _ _ _) ?_⟩, fun h => ⟨by simp [validV, h], nb.fr.then_ f2⟩⟩, ?_⟩
  · rintro _ w3 ⟨rfl, f3⟩
    exact ⟨_, rfl, by rw [validV, h]; rfl, (nb.fr.then_ f2).then_ f3⟩
  · rintro _ w3 ⟨rfl, f3⟩
    exact Rt.ok ⟨rfl, f3⟩
theorem rcheck_c (n k d : Int) (w : World) : Calls PP F_sherdref09_Check #[.agg #[.int .i64 n, .int .i64 k, .int .i64 d]] w (Rt fun v w' => v = .int .i64 (checkV n k d) ∧ Fr [] w w') := by
  refine sim_sherdref09_Check _ _ _ _ _ ?_
  unfold vc_sherdref09_Check
  refine New.intro fun _ _ nb => ⟨fun h => Rt.ok ⟨?_, nb.fr⟩, fun h => Rt.ok ⟨?_, nb.fr⟩⟩
  · rw [checkV, if_pos h]
  · rw [checkV, if_neg (by rw [h]; simp)]
theorem rcheckHead_c (n k d s : Int) (w : World) : Calls PP F_sherdref11_CheckHead #[.agg #[.int .i64 n, .int .i64 k, .int .i64 d, .int .i64 s]] w (Rt fun v w' => v = .int .i64 (mayHeadV n k d s) ∧ Fr [] w w') := by
  refine sim_sherdref11_CheckHead _ _ _ _ _ _ ?_
  unfold vc_sherdref11_CheckHead
  refine New.intro fun p w1 nb => call (rcheck_c _ _ _ _) ?_
  rintro _ w2 ⟨rfl, f2⟩
  have hB := nb.blk.fr f2 (by simp)
  refine ⟨_, rfl, fun h => Rt.ok ⟨?_, nb.fr.then_ f2⟩, fun h => ⟨_, hB.cell rfl, decide (s < 0) || decide (n ≤ s), fun h1 => ⟨_, hB.cell rfl, _, hB.cell2 rfl, by rw [h1]; rfl⟩, fun h1 => by rw [h1]; rfl, fun h1 => Rt.ok ⟨?_, nb.fr.then_ f2⟩, fun h1 => Rt.ok ⟨?_, nb.fr.then_ f2⟩⟩⟩
  · rw [mayHeadV, if_pos (by simpa using h)]
  · rw [mayHeadV, if_neg (by simpa using h), if_pos h1]
  · rw [mayHeadV, if_neg (by simpa using h), if_neg (by rw [h1]; simp)]

theorem rheadBytes_c {n k d s : Nat} (h0 : n < 9223372036854775808) (h1 : k < 9223372036854775808) (h2 : d < 9223372036854775808) (h3 : s < 9223372036854775808) {w : World} :
    Calls PP F_sherdref11_headBytes #[.agg #[.int .i64 (n : Int), .int .i64 (k : Int), .int .i64 (d : Int), .int .i64 (s : Int)]] w (Rt fun v w' => ∃ z : Slc, v = z.v ∧ Made w w' z (headBs n k d s)) := by
  have hpl := headPre_len h0 h1 h2 h3
  have a := uv_len9 h0; have b := uv_len9 h1; have c := uv_len9 h2; have e := uv_len9 h3
  refine sim_sherdref11_headBytes _ _ _ _ _ _ ?_
  unfold vc_sherdref11_headBytes
  refine New.intro fun p w1 nb => call (qw_new _) ?_
  rintro _ w2 ⟨q, rfl, hP⟩
  refine ⟨_, rfl, call (qw_byte (x := 72) hP (by simp)) ?_⟩
  have hB := nb.blk
  rintro _ w3 ⟨rfl, hP⟩
  refine ⟨rfl, _, (hB.fr hP.fr (by simp)).cell2 rfl, call (qw_uint hP h0 (by simp)) ?_⟩
  rintro _ w4 ⟨rfl, hP⟩
  refine ⟨rfl, _, (hB.fr hP.fr (by simp)).cell2 rfl, call (qw_uint hP h1 (by simp; omega)) ?_⟩
  rintro _ w5 ⟨rfl, hP⟩
  refine ⟨rfl, _, (hB.fr hP.fr (by simp)).cell2 rfl, call (qw_uint hP h2 (by simp; omega)) ?_⟩
  rintro _ w6 ⟨rfl, hP⟩
  refine ⟨rfl, _, (hB.fr hP.fr (by simp)).cell rfl, call (qw_uint hP h3 (by simp; omega)) ?_⟩
  rintro _ w7 ⟨rfl, hP⟩
  rw [show [] ++ [72] ++ uv n ++ uv k ++ uv d ++ uv s = headPre n k d s by simp [headPre]] at hP
  refine ⟨rfl, call (qw_data hP (by omega)) ?_⟩
  rintro _ w8 ⟨z, rfl, hM⟩
  have hM := hM.since (nb.fr.then_ hP.fr)
  refine ⟨z, rfl, call (summed_c (xs := []) (Cel.nil _ _) hM.byt (by simp; omega)) ?_⟩
  rintro _ w9 ⟨y, rfl, hY⟩
  refine ⟨y, rfl, (hM.more hY.fr).app hY.byt (by simp [le4_len]; omega) fun s' w10 hM' _ => Rt.ok ⟨s', rfl, ?_⟩⟩
  simpa [headBs] using hM'

structure QRW (w : World) (p : Nat) (last : List UInt8) (cnt : Int) : Prop where
  own : ∃ s : Slc, Blk w p Ty_sherdref11_Writer #[s.v, .int .i64 cnt] ∧ Own Ty_uint8 1 w s (last.map u8v)
end Go.Proofs.YtnhgnfflihoaiaaGreatDoor

/-
  Contracts of the reference's writer: an update's check, its body, Put, Count.
-/
namespace Go.Proofs.YtnhgnfflihoaiaaGreatDoor
open Go Go.Vc

theorem rmay_c (kind : Int) (key : ByteArray) (cnt cli : Int) (fin has : Bool) (data : Slc) (w : World) :
    Calls PP F_sherdref11_CheckUpdate #[.agg #[.int .i64 kind, .string key, .int .i64 cnt, .int .i64 cli, .bool fin, .bool has, data.v]] w (Rt fun v w' => v = .int .i64 (mayV kind key.size cnt cli fin has data.l) ∧ Fr [] w w') := by
  refine sim_sherdref11_CheckUpdate _ _ _ _ _ _ _ _ _ ?_
  unfold vc_sherdref11_CheckUpdate
  refine New.intro fun b w1 nb => New.intro fun e w2 ne => ne.blk.stoAll rfl fun w3 hE fE => ?_
  have hB := nb.blk.fr (ne.frS fE) (by simp)
  have f3 := nb.fr.then_ (ne.frS fE)
  refine ⟨_, hB.cell rfl, decide (kind ≠ 1) && decide (kind ≠ 2), fun h => ⟨_, hB.cell rfl, by rw [h]; rfl⟩, fun h => by rw [h]; rfl, decide (kind ≠ 1) && decide (kind ≠ 2) && decide (kind ≠ 3), fun h => ⟨_, hB.cell rfl, by rw [h]; rfl⟩, fun h => by rw [h]; rfl, fun h => ?_, fun h1 => ?_⟩
  · exact Rt.ok ⟨by rw [mayV, if_pos (by simp at h; simp; omega)], f3⟩
  have n1 : ¬ (decide (kind < 1) || decide (3 < kind)) = true := by
    intro h; simp at h h1; omega
  refine ⟨_, hB.cell rfl, decide ((key.size : Int) < 1) || decide (64 < (key.size : Int)), fun h => ⟨_, hB.cell rfl, by rw [h]; rfl⟩, fun h => by rw [h]; rfl, fun h => Rt.ok ⟨by rw [mayV, if_neg n1, if_pos h], f3⟩, fun h2 => ?_⟩
  have n2 : ¬ (decide ((key.size : Int) < 1) || decide (64 < (key.size : Int))) = true := by rw [h2]; simp
  refine ⟨_, hE.cell2 rfl, _, hE.cell2 rfl, call (rvalid_c _ _ _) ?_⟩
  rintro _ w4 ⟨rfl, f4⟩
  have hB4 := hB.fr f4 (by simp)
  have hE4 := hE.fr f4 (by simp)
  have f04 := f3.then_ f4
  refine ⟨_, rfl, !validV cnt cli || (decide (cnt = 0) && decide (cli = 0)), fun h => ⟨_, hE4.cell2 rfl, _, hE4.cell2 rfl, by rw [h]; rfl⟩, fun h => by rw [h]; rfl, fun h => Rt.ok ⟨?_, f04⟩, fun h3 => ?_⟩
  · rw [mayV, if_neg n1, if_neg n2, if_pos (by rw [Bool.or_comm]; exact h)]
  have n3 : ¬ ((decide (cnt = 0) && decide (cli = 0)) || !validV cnt cli) = true := by rw [Bool.or_comm, h3]; simp
  refine ⟨_, hB4.cell rfl, decide (kind = 3) && !fin, fun h => ⟨_, hE4.cell rfl, by rw [h]; rfl⟩, fun h => by rw [h]; rfl, decide (kind = 3) && !fin && !has, fun h => ⟨_, hE4.cell rfl, by rw [h]; rfl⟩, fun h => by rw [h]; rfl, fun h => Rt.ok ⟨by rw [mayV, if_neg n1, if_neg n2, if_neg n3, if_pos h], f04⟩, fun h4 => ?_⟩
  have n4 : ¬ (decide (kind = 3) && !fin && !has) = true := by rw [h4]; simp
  refine ⟨_, hB4.cell rfl, decide (kind = 1) || (decide (kind = 3) && has), fun h => ⟨_, hB4.cell rfl, decide (kind = 3) && has, fun h' => ⟨_, hE4.cell rfl, by rw [h']; rfl⟩, fun h' => by rw [h']; rfl, by rw [h]; rfl⟩, fun h => by rw [h]; rfl, (decide (kind = 1) || (decide (kind = 3) && has)) && decide (65540 < (data.l : Int)), fun h => ⟨data, hE4.cell rfl, by rw [h]; rfl⟩, fun h => by rw [h]; rfl, fun h => Rt.ok ⟨?_, f04⟩, fun h => Rt.ok ⟨?_, f04⟩⟩
  · rw [mayV, if_neg n1, if_neg n2, if_neg n3, if_neg n4, if_pos h]
  · rw [mayV, if_neg n1, if_neg n2, if_neg n3, if_neg n4, if_neg (by rw [h]; simp)]

theorem rbody_c {kind cnt cli : Nat} {key : ByteArray} {fin has : Bool} {data : Slc} {ds : List UInt8} {w : World} (h : mayV kind key.size cnt cli fin has ds.length = 0) (hd : Byt w data ds) :
    Calls PP F_sherdref11_body #[.agg #[.int .i64 (kind : Int), .string key, .int .i64 (cnt : Int), .int .i64 (cli : Int), .bool fin, .bool has, data.v]] w (Rt fun v w' => ∃ s : Slc, v = s.v ∧ Made w w' s (bodyBs kind key cnt cli fin has ds)) := by
  obtain ⟨h1, h2, h3, h4, h5, h6⟩ := may_ok h
  have hlen := bodyBs_len h
  have a := uv_len9 (n := key.size) (by omega)
  have b := uv_len9 (n := cnt) (by omega)
  have c := uv_len9 (n := cli) (by omega)
  have hk : key.data.toList.length = key.size := by simp
  refine sim_sherdref11_body _ _ _ _ _ _ _ _ _ ?_
  unfold vc_sherdref11_body
  refine New.intro fun p w1 nb => New.intro fun e wE ne => ne.blk.stoAll rfl fun wS hE fE => call (qw_new _) ?_
  rintro _ w2 ⟨q, rfl, hP⟩
  have hB := nb.blk.fr (ne.frS fE) (by simp)
  have nbfr := nb.fr.then_ (ne.frS fE)
  have e0 : wr .u8 (kind : Int) = ((UInt8.ofNat kind).toNat : Int) := by rw [u8_ofNat (by omega), wr8u (by omega) (by omega)]
  refine ⟨_, rfl, _, (hB.fr hP.fr (by simp)).cell rfl, ?_⟩
  rw [e0]
  refine call (qw_byte hP (by simp)) ?_
  rintro _ w3 ⟨rfl, hP⟩
  refine ⟨rfl, _, (hB.fr hP.fr (by simp)).cell rfl, call (qw_text hP (by simp; omega)) ?_⟩
  rintro _ w4 ⟨rfl, hP⟩
  refine ⟨rfl, _, (hE.fr hP.fr (by simp)).cell2 rfl, call (qw_uint hP (by omega) (by simp; omega)) ?_⟩
  rintro _ w5 ⟨rfl, hP⟩
  refine ⟨rfl, _, (hE.fr hP.fr (by simp)).cell2 rfl, call (qw_uint hP (by omega) (by simp; omega)) ?_⟩
  rintro _ w6 ⟨rfl, hP⟩
  refine ⟨rfl, ?_⟩
  refine ⟨fun w' => QWL wS w' q ([UInt8.ofNat kind] ++ uv key.size ++ key.data.toList ++ uv cnt ++ uv cli ++ (if kind = 3 then [bit fin, bit has] else [])), ⟨_, (hB.fr hP.fr (by simp)).cell rfl, fun hk3 => ?_, fun hk3 => ?_⟩, ?_⟩
  · simp at hk3
    refine ⟨_, (hE.fr hP.fr (by simp)).cell rfl, call (qw_bool hP (by simp; omega)) ?_⟩
    rintro _ w7 ⟨rfl, hP⟩
    refine ⟨rfl, _, (hE.fr hP.fr (by simp)).cell rfl, call (qw_bool hP (by simp; omega)) ?_⟩
    rintro _ w8 ⟨rfl, hP⟩
    refine ⟨rfl, ?_⟩
    rw [if_pos (by omega)]
    simpa [bit] using hP
  · simp at hk3
    rw [if_neg (by omega)]
    simpa using hP
  · rintro w7 hP
    refine ⟨fun w' => QWL wS w' q (bodyBs kind key cnt cli fin has ds), ⟨_, (hB.fr hP.fr (by simp)).cell rfl, usesV kind has, fun h => ⟨_, (hB.fr hP.fr (by simp)).cell rfl, decide ((kind : Int) = 3) && has, fun h' => ⟨_, (hE.fr hP.fr (by simp)).cell rfl, by rw [h']; rfl⟩, fun h' => by rw [h']; rfl, by rw [usesV, h]; rfl⟩, fun h => by rw [usesV, h]; rfl, fun hu => ?_, fun hu => ?_⟩, ?_⟩
    · have h7 := h6 hu
      have hd9 := uv_len9 (n := ds.length) (by omega)
      refine ⟨_, (hE.fr hP.fr (by simp)).cell rfl, call (qw_bytes hP (hd.fr0 nbfr) ?_) ?_⟩
      · split <;> simp <;> omega
      · rintro _ w8 ⟨rfl, hP⟩
        refine ⟨rfl, ?_⟩
        unfold bodyBs
        rw [if_pos hu]
        simpa using hP
    · unfold bodyBs
      rw [if_neg (show ¬ usesV (kind : Int) has = true by rw [hu]; simp)]
      simpa using hP
    · intro w8 hP
      refine call (qw_data hP (by omega)) ?_
      rintro _ w9 ⟨s, rfl, hM⟩
      exact ⟨s, rfl, Rt.ok ⟨s, rfl, hM.since (nbfr.then_ hP.fr)⟩⟩

theorem QRW.fr {S : List Nat} {w w' : World} {p : Nat} {last : List UInt8} {n : Int} (h : QRW w p last n) (f : Fr S w w') (hp : p ∉ S) (hS : ∀ b cs, Blk w b Ty_uint8 cs → b ∉ S) : QRW w' p last n := by
  obtain ⟨ls, hB, hO⟩ := h
  refine ⟨ls, hB.fr f hp, hO.fr f fun k hk => ?_⟩
  rcases hO.2 with ⟨h1, _⟩ | ⟨g, cap, cur, h1, _, h3, _⟩
  · injection h1 with h4
    unfold Slc.blks at hk
    rw [h4] at hk
    simp at hk
  · injection h1 with h4
    unfold Slc.blks at hk
    rw [h4] at hk
    simp at hk
    subst hk
    exact hS _ _ h3
theorem rput_c {p : Nat} {last : List UInt8} {n : Nat} {kind cnt cli : Int} {key : ByteArray} {fin has : Bool} {data : Slc} {ds : List UInt8} {w : World} (hR : QRW w p last (n : Int)) (hl : last.length = 4) (hn : n < 9223372036854775807) (hd : Byt w data ds) :
    Calls PP F_sherdref11_Writer_Put #[.pointer (some (blk p)), .agg #[.int .i64 kind, .string key, .int .i64 cnt, .int .i64 cli, .bool fin, .bool has, data.v]] w (Rt fun v w' =>
      (mayV kind key.size cnt cli fin has ds.length ≠ 0 ∧ v = .tuple #[Slc.nil.v, .int .i64 (mayV kind key.size cnt cli fin has ds.length)] ∧ Fr [] w w') ∨
      (mayV kind key.size cnt cli fin has ds.length = 0 ∧ ∃ s body, body = bodyBs kind.toNat key cnt.toNat cli.toNat fin has ds ∧ v = .tuple #[Slc.v s, .int .i64 0] ∧ Row w w' s (recPre body ++ recSum last body) ∧ Fr [p] w w' ∧ QRW w' p (recSum last body) ((n + 1 : Nat) : Int))) := by
  have hdl := hd.len
  obtain ⟨ls, hBw, hOw⟩ := hR
  refine sim_sherdref11_Writer_Put _ _ _ _ _ _ _ _ _ _ ?_
  unfold vc_sherdref11_Writer_Put
  refine New.intro fun b w1 nb => call (rmay_c _ _ _ _ _ _ _ _) ?_
  rintro _ w2 ⟨rfl, f2⟩
  rw [hdl]
  have f02 := nb.fr.then_ f2
  refine ⟨_, rfl, fun h => Rt.ok (.inl ⟨by simpa using h, rfl, f02⟩), fun h => ?_⟩
  simp only [ne_eq, decide_not, Bool.not_eq_false', decide_eq_true_eq] at h
  obtain ⟨h1, h2, h3, h4, h5, h6⟩ := may_ok h
  obtain ⟨kind, rfl⟩ := Int.eq_ofNat_of_zero_le (by omega : 0 ≤ kind)
  obtain ⟨cnt, rfl⟩ := Int.eq_ofNat_of_zero_le (by omega : 0 ≤ cnt)
  obtain ⟨cli, rfl⟩ := Int.eq_ofNat_of_zero_le (by omega : 0 ≤ cli)
  have hbl := bodyBs_len h
  have hb9 := uv_len9 (n := (bodyBs kind key cnt cli fin has ds).length) (by omega)
  have hB := nb.blk.fr f2 (by simp)
  refine call (qw_new _) ?_
  rintro _ w3 ⟨q, rfl, hP⟩
  refine ⟨_, rfl, call (qw_byte (x := 82) hP (by simp)) ?_⟩
  rintro _ w4 ⟨rfl, hP⟩
  have hB4 := hB.fr hP.fr (by simp)
  have f04 := f02.then_ hP.fr
  refine ⟨rfl, _, hB4.cell rfl, _, hB4.cell rfl, _, hB4.cell rfl, _, hB4.cell rfl, _, hB4.cell rfl, _, hB4.cell rfl, _, hB4.cell rfl, ?_⟩
  refine call (rbody_c h (hd.fr0 f04)) ?_
  rintro _ w5 ⟨y, rfl, hY⟩
  refine ⟨y, rfl, call (qw_bytes2 hP hY.fr hY.byt hY.new (by simp; omega)) ?_⟩
  rintro _ w6 ⟨rfl, hP6⟩
  have e82 : [] ++ [82] ++ uv (bodyBs kind key cnt cli fin has ds).length ++ bodyBs kind key cnt cli fin has ds = recPre (bodyBs kind key cnt cli fin has ds) := by simp [recPre]
  rw [e82] at hP6
  have hrl : (recPre (bodyBs kind key cnt cli fin has ds)).length ≤ 65710 := by simp [recPre]; omega
  refine ⟨rfl, call (qw_data hP6 (by omega)) ?_⟩
  rintro _ w7 ⟨z, rfl, hZ⟩
  have f07 := (f02.then_ hP6.fr).then_ hZ.fr
  have hBw7 := hBw.fr f07 (by simp)
  have hOw7 := hOw.fr0 f07
  have hls : Byt w7 ls last := hOw7.cel
  refine ⟨z, rfl, blk p, rfl, ls, hBw7.cell rfl, call (summed_c hls hZ.byt (by omega)) ?_⟩
  rintro _ w9 ⟨x, rfl, hX⟩
  have f79 := hX.fr
  have f09 := f07.then_ f79
  have hBw9 := hBw7.fr f79 (by simp)
  refine ⟨x, rfl, hBw9.sto (lt_ rfl) fun w10 hBa fa => ⟨_, hBa.cell rfl, ?_⟩⟩
  rw [wr64 (by omega) (by omega)]
  refine hBa.sto (lt_ rfl) fun w11 hBb fb => ⟨x, hBb.cell rfl, ?_⟩
  have fab : Fr [p] w9 w11 := fa.local_ fb fun _ hx => .inl hx
  have hpx : ∀ k ∈ x.blks, k ∉ [p] := fun k hk hx => by
    simp at hx
    subst hx
    exact hX.own.ne hBw9 (by decide) hk
  have hpz : ∀ k ∈ z.blks, k ∉ [p] := fun k hk hx => by
    simp at hx
    subst hx
    exact (hZ.own.fr0 f79).ne hBw9 (by decide) hk
  have hX11 : Own Ty_uint8 1 w11 x ((recSum last (bodyBs kind key cnt cli fin has ds)).map u8v) := hX.own.fr fab hpx
  have hZ11 : Own Ty_uint8 1 w11 z ((recPre (bodyBs kind key cnt cli fin has ds)).map u8v) := (hZ.own.fr0 f79).fr fab hpz
  have hsl : (recSum last (bodyBs kind key cnt cli fin has ds)).length = 4 := le4_len _
  have hzl : z.l = (recPre (bodyBs kind key cnt cli fin has ds)).length := hZ.byt.len
  have hxl : x.l = 4 := by have := hX.byt.len; rw [this]; exact le4_len _
  have f9s := f09.size
  have fabs := fab.size
  refine App.own slT_sl_uint8 hZ11 hX11.cel (one_u8 _) (by unfold maxLen; omega) (by omega) fun u w12 hU hul fU hUb => ?_
  have hzn : ∀ k ∈ z.blks, w.heap.size ≤ k := fun k hk => Nat.le_trans (f02.then_ hP6.fr).size (hZ.new k hk)
  have fall : Fr [p] w w12 := ((f09.sub (T := [p]) fun k hk => absurd hk (by simp)).local_ fab fun _ hx => .inl hx).local_ fU fun k hk => .inr (hzn k hk)
  have hpn : p ∉ z.blks := fun hx => by have := hzn p hx; have := hBw.lt; omega
  refine Rt.ok (.inr ⟨h, u, _, rfl, rfl, ⟨?_, fun k hk => ?_⟩, fall, ⟨x, ?_, hX11.fr fU fun k hk hz => ?_⟩⟩)
  · simpa using hU
  · rcases hUb k hk with h8 | h8
    · exact hzn k h8
    · omega
  · have := hBb.fr fU hpn
    simpa using this
  · have h8 := hX.new k hk
    have h9 := hZ.own.lt k hz
    omega
theorem rcount_c {p : Nat} {last : List UInt8} {n : Int} {w : World} (hR : QRW w p last n) : Calls PP F_sherdref11_Writer_Count #[.pointer (some (blk p))] w (Rt fun v w' => v = .int .i64 n ∧ w = w') := by
  obtain ⟨ls, hB, _⟩ := hR
  refine sim_sherdref11_Writer_Count _ _ _ ?_
  unfold vc_sherdref11_Writer_Count
  exact ⟨_, rfl, n, hB.cell rfl, Rt.ok ⟨rfl, rfl⟩⟩
end Go.Proofs.YtnhgnfflihoaiaaGreatDoor
