/-
  Contracts of the references' pack writer, sums, checks.
-/
import Derived.Test.YtnhgnfflihoaiaaDoorRecord2
namespace Go.Proofs.YtnhgnfflihoaiaaDoor
open Go Go.Vc

/-- A sherdref07.Writer without an error, made since w0: these bytes. -/
structure QWL (w0 w : World) (p : Nat) (bs : List UInt8) : Prop where
  fr : Fr [] w0 w
  own : ∃ s : Slc, Blk w p Ty_sherdref07_Writer #[s.v, .int .i64 0] ∧ Own Ty_uint8 1 w s (bs.map u8v) ∧ w0.heap.size ≤ p ∧ ∀ k ∈ s.blks, w0.heap.size ≤ k
theorem QWL.more {w0 w w' : World} {p : Nat} {bs : List UInt8} (h : QWL w0 w p bs) (f : Fr [] w w') : QWL w0 w' p bs := by
  obtain ⟨hf, s, hB, hO, hp, hs⟩ := h
  exact ⟨hf.then_ f, s, hB.fr f (by simp), hO.fr0 f, hp, hs⟩

theorem qw_new (w : World) : Calls PP F_sherdref07_NewWriter #[] w (Rt fun v w' => ∃ p, v = .pointer (some (blk p)) ∧ QWL w w' p []) := by
  refine sim_sherdref07_NewWriter _ _ ?_
  unfold vc_sherdref07_NewWriter
  refine New.intro fun b w1 nb => ?_
  exact Rt.ok ⟨b, rfl, nb.fr, Slc.nil, nb.blk, Own.nil _ _ _, by rw [nb.at_]; exact Nat.le_refl _, fun k hk => by simp [Slc.blks] at hk⟩

/-- The writer's own memory: its block, and its bytes' row. -/
structure QWo (w : World) (p : Nat) (s : Slc) (bs : List UInt8) : Prop where
  blk : Blk w p Ty_sherdref07_Writer #[s.v, .int .i64 0]
  own : Own Ty_uint8 1 w s (bs.map u8v)
theorem QWo.fr {w w' : World} {p : Nat} {s : Slc} {bs : List UInt8} (h : QWo w p s bs) (f : Fr [] w w') : QWo w' p s bs := ⟨h.blk.fr f (by simp), h.own.fr0 f⟩
theorem qw_lift {w0 w : World} {p f : Nat} {bs bs' : List UInt8} {args : Array Value} (h : QWL w0 w p bs)
    (k : ∀ s, QWo w p s bs → Calls PP f args w (Rt fun v w' => v = .tuple #[] ∧ ∃ s', QWo w' p s' bs' ∧ Stp p s w s' w')) : Calls PP f args w (Rt fun v w' => v = .tuple #[] ∧ QWL w0 w' p bs') := by
  obtain ⟨hf, s, hB, hO, hp, hs⟩ := h
  refine Rt.mono (k s ⟨hB, hO⟩) ?_
  rintro _ w' ⟨rfl, s', ⟨hB', hO'⟩, hS⟩
  refine ⟨rfl, hf.local_ hS.fr fun x hx => .inr ?_, s', hB', hO', hp, fun x hx => ?_⟩
  · rcases List.mem_cons.1 hx with h1 | h1
    · omega
    · exact hs x h1
  · rcases hS.new x hx with h1 | h1
    · exact hs x h1
    · exact Nat.le_trans hf.size h1

/-- Blocks of other types stay. -/
def KeepQ (w w' : World) : Prop := ∀ b T cs, T ≠ Ty_uint8 → T ≠ Ty_sherdref07_Writer → Blk w b T cs → Blk w' b T cs
theorem qw_liftK {w0 w : World} {p f : Nat} {bs bs' : List UInt8} {args : Array Value} (h : QWL w0 w p bs)
    (k : ∀ s, QWo w p s bs → Calls PP f args w (Rt fun v w' => v = .tuple #[] ∧ ∃ s', QWo w' p s' bs' ∧ Stp p s w s' w')) : Calls PP f args w (Rt fun v w' => v = .tuple #[] ∧ QWL w0 w' p bs' ∧ KeepQ w w') := by
  obtain ⟨hf, s, hB, hO, hp, hs⟩ := h
  refine Rt.mono (k s ⟨hB, hO⟩) ?_
  rintro _ w' ⟨rfl, s', ⟨hB', hO'⟩, hS⟩
  refine ⟨rfl, ⟨hf.local_ hS.fr fun x hx => .inr ?_, s', hB', hO', hp, fun x hx => ?_⟩, fun b T cs h1 h2 hb => hb.fr hS.fr fun hx => ?_⟩
  · rcases List.mem_cons.1 hx with h1 | h1
    · omega
    · exact hs x h1
  · rcases hS.new x hx with h1 | h1
    · exact hs x h1
    · exact Nat.le_trans hf.size h1
  · rcases List.mem_cons.1 hx with h3 | h3
    · exact hb.ne_ hB h2 h3
    · exact hO.ne hb (Ne.symm h1) h3

theorem qo_put {w : World} {p : Nat} {s : Slc} {bs ys : List UInt8} {b : Slc} (h : QWo w p s bs) (hb : Byt w b ys) (hm : bs.length + ys.length ≤ 140737488355328) :
    Calls PP F_sherdref07_Writer_put #[.pointer (some (blk p)), b.v] w (Rt fun v w' => v = .tuple #[] ∧ ∃ s', QWo w' p s' (bs ++ ys) ∧ Stp p s w s' w') := by
  obtain ⟨hB, hO⟩ := h
  have hsl : s.l = bs.length := Byt.len hO.cel
  have hbl := hb.len
  refine sim_sherdref07_Writer_put _ _ _ _ ?_
  unfold vc_sherdref07_Writer_put
  refine ⟨_, rfl, 0, hB.cell rfl, fun _ => ⟨s, hB.cell rfl, ?_⟩, by simp⟩
  refine App.own slT_sl_uint8 hO hb (one_u8 _) (by unfold maxLen; omega) (by omega) ?_
  intro s' w1 hO' hl hF hblk
  have hn : p ∉ s.blks := hO.ne hB (by decide)
  refine (hB.fr hF hn).sto (lt_ rfl) fun w2 hB2 hF2 => ?_
  have h2 := hO'.ne (hB.fr hF hn) (by decide)
  refine Rt.ok ⟨rfl, s', ⟨hB2, ?_⟩, ?_, fun x hx => ?_⟩
  · rw [List.map_append]
    exact hO'.fr hF2 fun k hk hx => by simp at hx; subst hx; exact h2 hk
  · exact (hF.sub fun k hk _ => List.mem_cons_of_mem p hk).local_ hF2 fun x hx => .inl (by simp at hx; simp [hx])
  · rcases hblk x hx with h1 | h1
    · exact .inl h1
    · exact .inr (by omega)
theorem qw_put {w0 w : World} {p : Nat} {bs ys : List UInt8} {b : Slc} (h : QWL w0 w p bs) (hb : Byt w b ys) (hm : bs.length + ys.length ≤ 140737488355328) :
    Calls PP F_sherdref07_Writer_put #[.pointer (some (blk p)), b.v] w (Rt fun v w' => v = .tuple #[] ∧ QWL w0 w' p (bs ++ ys)) := qw_lift h fun _ ho => qo_put ho hb hm

theorem tdiv_nat (n : Nat) (k : Nat) : (n : Int).tdiv (k : Int) = ((n / k : Nat) : Int) := (Int.ofNat_tdiv n k).symm
theorem tmod_nat (n : Nat) (k : Nat) : (n : Int).tmod (k : Int) = ((n % k : Nat) : Int) := (Int.ofNat_tmod n k).symm
theorem rform_c {n : Nat} (hn : n < 9223372036854775808) (w : World) : Calls PP F_sherdref07_Form #[.int .i64 (n : Int)] w (Rt fun v w' => ∃ s : Slc, v = s.v ∧ Made w w' s (uv n)) := by
  refine sim_sherdref07_Form _ _ _ ?_
  unfold vc_sherdref07_Form
  refine ⟨fun n' s w' => ∃ m : Nat, n' = (m : Int) ∧ m ≤ n ∧ ∃ pre, uv n = pre ++ uv m ∧ Made w w' s pre, fun n' _ _ => n'.toNat, ⟨n, rfl, Nat.le_refl _, [], rfl, Made.nil w⟩, ?_⟩
  rintro _ s w1 ⟨m, rfl, hm, pre, hu, hM⟩
  have hlen := uv_len9 hn
  rw [hu, List.length_append] at hlen
  have ed : (m : Int).tdiv 128 = ((m / 128 : Nat) : Int) := tdiv_nat m 128
  have em : (m : Int).tmod 128 = ((m % 128 : Nat) : Int) := tmod_nat m 128
  rw [ed, em, wr64 (by omega) (by omega)]
  refine ⟨fun h => ?_, fun h => ?_⟩
  · simp only [decide_eq_true_eq] at h
    have hm128 : m < 128 := by omega
    refine New.intro fun b w2 nb => ?_
    have e : wr .u8 ((m % 128 : Nat) : Int) = ((UInt8.ofNat m).toNat : Int) := by rw [Nat.mod_eq_of_lt hm128, u8_ofNat (by omega), wr8u (by omega) (by omega)]
    rw [e] at nb
    refine (hM.more nb.fr).app (Made.one hM.fr nb).byt (by simp; omega) fun s' w3 hM' _ => ?_
    refine Rt.ok ⟨s', rfl, ?_⟩
    rw [hu, uv_small hm128]
    exact hM'
  · simp only [decide_eq_false_iff_not] at h
    have hb := uv_big (n := m) (by omega)
    refine New.intro fun b w2 nb => ?_
    have e : wr .u8 (wr .u8 ((m % 128 : Nat) : Int) + 128) = ((UInt8.ofNat (m % 128 + 128)).toNat : Int) := by
      rw [wr8u (n := ((m % 128 : Nat) : Int)) (by omega) (by omega), u8_ofNat (by omega), wr8u (by omega) (by omega)]; omega
    rw [e] at nb
    refine (hM.more nb.fr).app (Made.one hM.fr nb).byt (by simp; omega) fun s' w3 hM' _ => ?_
    exact ⟨⟨_, rfl, by omega, _, by rw [hu, hb, List.append_assoc]; rfl, hM'⟩, by simp; omega⟩

theorem qo_uint {w : World} {p n : Nat} {s : Slc} {bs : List UInt8} (h : QWo w p s bs) (hn : n < 9223372036854775808) (hm : bs.length ≤ 140737488355000) :
    Calls PP F_sherdref07_Writer_Uint #[.pointer (some (blk p)), .int .i64 (n : Int)] w (Rt fun v w' => v = .tuple #[] ∧ ∃ s', QWo w' p s' (bs ++ uv n) ∧ Stp p s w s' w') := by
  have hl := uv_len9 hn
  refine sim_sherdref07_Writer_Uint _ _ _ _ ?_
  unfold vc_sherdref07_Writer_Uint
  refine ⟨fun w' => w = w', ⟨_, rfl, 0, h.blk.cell rfl, fun h => by simp at h; omega, fun _ => rfl⟩, ?_⟩
  rintro _ rfl
  refine ⟨fun _ => ?_, fun h => by simp at h⟩
  refine call (rform_c hn w) ?_
  rintro _ w1 ⟨z, rfl, hM⟩
  refine ⟨z, rfl, call (qo_put (h.fr hM.fr) hM.byt (by omega)) ?_⟩
  rintro _ w2 ⟨rfl, s', h2, hS⟩
  exact ⟨rfl, Rt.ok ⟨rfl, s', h2, (Stp.of0 hM.fr).trans hS⟩⟩
theorem qw_uint {w0 w : World} {p n : Nat} {bs : List UInt8} (h : QWL w0 w p bs) (hn : n < 9223372036854775808) (hm : bs.length ≤ 140737488355000) :
    Calls PP F_sherdref07_Writer_Uint #[.pointer (some (blk p)), .int .i64 (n : Int)] w (Rt fun v w' => v = .tuple #[] ∧ QWL w0 w' p (bs ++ uv n)) := qw_lift h fun _ ho => qo_uint ho hn hm
theorem qw_uintK {w0 w : World} {p n : Nat} {bs : List UInt8} (h : QWL w0 w p bs) (hn : n < 9223372036854775808) (hm : bs.length ≤ 140737488355000) :
    Calls PP F_sherdref07_Writer_Uint #[.pointer (some (blk p)), .int .i64 (n : Int)] w (Rt fun v w' => v = .tuple #[] ∧ QWL w0 w' p (bs ++ uv n) ∧ KeepQ w w') := qw_liftK h fun _ ho => qo_uint ho hn hm
theorem qw_byte {w0 w : World} {p : Nat} {bs : List UInt8} {x : UInt8} (h : QWL w0 w p bs) (hm : bs.length ≤ 140737488355000) :
    Calls PP F_sherdref07_Writer_Byte #[.pointer (some (blk p)), u8v x] w (Rt fun v w' => v = .tuple #[] ∧ QWL w0 w' p (bs ++ [x])) := by
  refine sim_sherdref07_Writer_Byte _ _ _ _ ?_
  unfold vc_sherdref07_Writer_Byte
  refine New.intro fun b w1 nb => ?_
  refine call (qw_put (h.more nb.fr) (Made.one h.fr nb).byt (by simp; omega)) ?_
  rintro _ w2 ⟨rfl, h2⟩
  exact ⟨rfl, Rt.ok ⟨rfl, h2⟩⟩
theorem qw_bool {w0 w : World} {p : Nat} {bs : List UInt8} {x : Bool} (h : QWL w0 w p bs) (hm : bs.length ≤ 140737488355000) :
    Calls PP F_sherdref07_Writer_Bool #[.pointer (some (blk p)), .bool x] w (Rt fun v w' => v = .tuple #[] ∧ QWL w0 w' p (bs ++ [if x then 1 else 0])) := by
  refine sim_sherdref07_Writer_Bool _ _ _ _ ?_
  unfold vc_sherdref07_Writer_Bool
  refine ⟨fun hx => ?_, fun hx => ?_⟩
  · subst hx
    refine New.intro fun b w1 nb => call (qw_put (h.more nb.fr) (Made.one (x := 1) h.fr nb).byt (by simp; omega)) ?_
    rintro _ w2 ⟨rfl, h2⟩
    exact ⟨rfl, Rt.ok ⟨rfl, h2⟩⟩
  · subst hx
    refine New.intro fun b w1 nb => call (qw_put (h.more nb.fr) (Made.one (x := 0) h.fr nb).byt (by simp; omega)) ?_
    rintro _ w2 ⟨rfl, h2⟩
    exact ⟨rfl, Rt.ok ⟨rfl, h2⟩⟩
/-- The bytes lie outside of the writer's memory. -/
theorem qo_bytes {w : World} {p : Nat} {s : Slc} {bs ys : List UInt8} {b : Slc} (h : QWo w p s bs) (hb : Byt w b ys) (hd : ∀ k ∈ b.blks, k ∉ p :: s.blks) (hm : bs.length + ys.length ≤ 140737488355000) :
    Calls PP F_sherdref07_Writer_Bytes #[.pointer (some (blk p)), b.v] w (Rt fun v w' => v = .tuple #[] ∧ ∃ s', QWo w' p s' (bs ++ uv ys.length ++ ys) ∧ Stp p s w s' w') := by
  have hl := uv_len9 (n := ys.length) (by omega)
  refine sim_sherdref07_Writer_Bytes _ _ _ _ ?_
  unfold vc_sherdref07_Writer_Bytes
  rw [hb.len]
  refine call (qo_uint h (by omega) (by omega)) ?_
  rintro _ w1 ⟨rfl, s1, h1, hS⟩
  refine ⟨rfl, call (qo_put h1 (Cel.fr hb hS.fr hd) (by simp; omega)) ?_⟩
  rintro _ w2 ⟨rfl, s2, h2, hS2⟩
  exact ⟨rfl, Rt.ok ⟨rfl, s2, h2, hS.trans hS2⟩⟩
theorem qw_bytes {w0 w : World} {p : Nat} {bs ys : List UInt8} {b : Slc} (h : QWL w0 w p bs) (hb : Byt w0 b ys) (hm : bs.length + ys.length ≤ 140737488355000) :
    Calls PP F_sherdref07_Writer_Bytes #[.pointer (some (blk p)), b.v] w (Rt fun v w' => v = .tuple #[] ∧ QWL w0 w' p (bs ++ uv ys.length ++ ys)) := by
  obtain ⟨hf, s, hB, hO, hp, hs⟩ := h
  by_cases hz : ys = []
  · subst hz
    -- nothing is read
    have hl := uv_len9 (n := ([] : List UInt8).length) (by decide)
    refine sim_sherdref07_Writer_Bytes _ _ _ _ ?_
    unfold vc_sherdref07_Writer_Bytes
    rw [hb.len]
    refine call (qw_uint ⟨hf, s, hB, hO, hp, hs⟩ (by decide) (by omega)) ?_
    rintro _ w1 ⟨rfl, h1⟩
    refine ⟨rfl, call (qw_put h1 (hb.fr0 h1.fr) (by simp; simp at hm hl; omega)) ?_⟩
    rintro _ w2 ⟨rfl, h2⟩
    exact ⟨rfl, Rt.ok ⟨rfl, h2⟩⟩
  · refine qw_lift ⟨hf, s, hB, hO, hp, hs⟩ fun s' ho => ?_
    have e : s'.v = s.v := by
      have h1 := ho.blk
      unfold Blk at h1 hB
      rw [hB] at h1
      simp at h1
      obtain ⟨a1, l1, c1⟩ := s
      obtain ⟨a2, l2, c2⟩ := s'
      simp at h1 ⊢
      exact ⟨h1.1.symm, h1.2.1.symm, h1.2.2.symm⟩
    have e2 : s'.blks = s.blks := by rw [← ownBlock_eq, ← ownBlock_eq, e]
    refine qo_bytes ho (hb.fr0 hf) (fun k hk hx => ?_) hm
    have hlt : k < w0.heap.size := Cel.lt hb (by simpa using hz) k hk
    rw [e2] at hx
    rcases List.mem_cons.1 hx with h1 | h1
    · omega
    · have := hs k h1; omega
theorem QWL.step {w0 w w' : World} {p : Nat} {s s' : Slc} {bs : List UInt8} (hf : Fr [] w0 w) (hp : w0.heap.size ≤ p) (hs : ∀ k ∈ s.blks, w0.heap.size ≤ k) (h : QWo w' p s' bs) (S : Stp p s w s' w') : QWL w0 w' p bs := by
  refine ⟨hf.local_ S.fr fun x hx => .inr ?_, s', h.blk, h.own, hp, fun x hx => ?_⟩
  · rcases List.mem_cons.1 hx with h1 | h1
    · omega
    · exact hs x h1
  · rcases S.new x hx with h1 | h1
    · exact hs x h1
    · exact Nat.le_trans hf.size h1
/-- Bytes that were made behind the writer's last step. -/
theorem qw_bytes2 {w0 w1 w : World} {p : Nat} {bs ys : List UInt8} {b : Slc} (h : QWL w0 w1 p bs) (f : Fr [] w1 w) (hb : Byt w b ys) (hn : ∀ k ∈ b.blks, w1.heap.size ≤ k) (hm : bs.length + ys.length ≤ 140737488355000) :
    Calls PP F_sherdref07_Writer_Bytes #[.pointer (some (blk p)), b.v] w (Rt fun v w' => v = .tuple #[] ∧ QWL w0 w' p (bs ++ uv ys.length ++ ys)) := by
  obtain ⟨hf, s, hB, hO, hp, hs⟩ := h
  refine Rt.mono (qo_bytes (QWo.fr ⟨hB, hO⟩ f) hb (fun k hk hx => ?_) hm) ?_
  · have := hn k hk
    rcases List.mem_cons.1 hx with h1 | h1
    · have := hB.lt; omega
    · have := hO.lt k h1; omega
  · rintro _ w' ⟨rfl, s', h2, S⟩
    exact ⟨rfl, QWL.step (hf.then_ f) hp hs h2 S⟩
theorem qo_text {w : World} {p : Nat} {s : Slc} {bs : List UInt8} {t : ByteArray} (h : QWo w p s bs) (hm : bs.length + t.size ≤ 140737488355000) :
    Calls PP F_sherdref07_Writer_Text #[.pointer (some (blk p)), .string t] w (Rt fun v w' => v = .tuple #[] ∧ ∃ s', QWo w' p s' (bs ++ uv t.size ++ t.data.toList) ∧ Stp p s w s' w') := by
  refine sim_sherdref07_Writer_Text _ _ _ _ ?_
  unfold vc_sherdref07_Writer_Text
  refine ToBytes.rule und_string slT_sl_uint8.ut und_uint8 fun z w1 hz hf hzb => ?_
  have hsz : t.data.toList.length = t.size := by simp
  refine call (qo_bytes (h.fr hf) hz (fun k hk hx => ?_) (by omega)) ?_
  · have := hzb k hk
    rcases List.mem_cons.1 hx with h1 | h1
    · have := h.blk.lt; omega
    · have := h.own.lt k h1; omega
  · rintro _ w2 ⟨rfl, s', h2, hS⟩
    rw [hsz] at h2
    exact ⟨rfl, Rt.ok ⟨rfl, s', h2, (Stp.of0 hf).trans hS⟩⟩
theorem qw_text {w0 w : World} {p : Nat} {bs : List UInt8} {t : ByteArray} (h : QWL w0 w p bs) (hm : bs.length + t.size ≤ 140737488355000) :
    Calls PP F_sherdref07_Writer_Text #[.pointer (some (blk p)), .string t] w (Rt fun v w' => v = .tuple #[] ∧ QWL w0 w' p (bs ++ uv t.size ++ t.data.toList)) := qw_lift h fun _ ho => qo_text ho hm
end Go.Proofs.YtnhgnfflihoaiaaDoor
