/-
  Contracts of package pack's writer, of the reference's, and of the sums.
-/
import Derived.Test.YtflcdgkckfcofaaGreatDoorPure
import Derived.Test.YtflcdgkckfcofaaGreatDoorRecAll
namespace Go.Proofs.YtflcdgkckfcofaaGreatDoor
open Go Go.Vc

structure PWL (w0 w : World) (p : Nat) (bs : List UInt8) : Prop where
  fr : Fr [] w0 w
  own : ∃ s : Slc, Blk w p Ty_pack_Writer #[.int .i64 0, s.v] ∧ Own Ty_uint8 1 w s (bs.map u8v) ∧ w0.heap.size ≤ p ∧ ∀ k ∈ s.blks, w0.heap.size ≤ k
theorem PWL.more {w0 w w' : World} {p : Nat} {bs : List UInt8} (h : PWL w0 w p bs) (f : Fr [] w w') : PWL w0 w' p bs := by
  obtain ⟨hf, s, hB, hO, hp, hs⟩ := h
  exact ⟨hf.then_ f, s, hB.fr f (by simp), hO.fr0 f, hp, hs⟩

theorem pw_new (w : World) : Calls PP F_pack_NewWriter #[] w (Rt fun v w' => ∃ p, v = .pointer (some (blk p)) ∧ PWL w w' p []) := by
  refine sim_pack_NewWriter _ _ ?_
  unfold vc_pack_NewWriter
  refine New.intro fun b w1 nb => ?_
  exact Rt.ok ⟨b, rfl, nb.fr, Slc.nil, nb.blk, Own.nil _ _ _, by rw [nb.at_]; exact Nat.le_refl _, fun k hk => by simp [Slc.blks] at hk⟩

structure PWo (w : World) (p : Nat) (s : Slc) (bs : List UInt8) : Prop where
  blk : Blk w p Ty_pack_Writer #[.int .i64 0, s.v]
  own : Own Ty_uint8 1 w s (bs.map u8v)
theorem PWo.fr {w w' : World} {p : Nat} {s : Slc} {bs : List UInt8} (h : PWo w p s bs) (f : Fr [] w w') : PWo w' p s bs := ⟨h.blk.fr f (by simp), h.own.fr0 f⟩
structure Stp (p : Nat) (s : Slc) (w : World) (s' : Slc) (w' : World) : Prop where
  fr : Fr (p :: s.blks) w w'
  new : ∀ x ∈ s'.blks, x ∈ s.blks ∨ w.heap.size ≤ x
theorem Stp.trans {p : Nat} {s s1 s2 : Slc} {w w1 w2 : World} (h : Stp p s w s1 w1) (k : Stp p s1 w1 s2 w2) : Stp p s w s2 w2 := by
  refine ⟨h.fr.local_ k.fr fun x hx => ?_, fun x hx => ?_⟩
  · rcases List.mem_cons.1 hx with h1 | h1
    · exact .inl (by rw [h1]; simp)
    · rcases h.new x h1 with h2 | h2
      · exact .inl (List.mem_cons_of_mem _ h2)
      · exact .inr h2
  · rcases k.new x hx with h1 | h1
    · exact h.new x h1
    · exact .inr (Nat.le_trans h.fr.size h1)
theorem Stp.of0 {p : Nat} {s : Slc} {w w' : World} (f : Fr [] w w') : Stp p s w s w' := ⟨f.sub fun k hk => absurd hk (by simp), fun _ hx => .inl hx⟩
theorem pw_lift {w0 w : World} {p f : Nat} {bs bs' : List UInt8} {args : Array Value} (h : PWL w0 w p bs)
    (k : ∀ s, PWo w p s bs → Calls PP f args w (Rt fun v w' => v = .tuple #[] ∧ ∃ s', PWo w' p s' bs' ∧ Stp p s w s' w')) : Calls PP f args w (Rt fun v w' => v = .tuple #[] ∧ PWL w0 w' p bs') := by
  obtain ⟨hf, s, hB, hO, hp, hs⟩ := h
  refine Rt.mono (k s ⟨hB, hO⟩) ?_
  rintro _ w' ⟨rfl, s', ⟨hB', hO'⟩, hS⟩
  refine ⟨rfl, hf.local_ hS.fr fun x hx => .inr ?_, s', hB', hO', hp, fun x hx => ?_⟩
  · rcases List.mem_cons.1 hx with h1 | h1
    · omega
    · exact hs x h1
  · rcases hS.new x hx with h1 | h1
    · exact hs x h1
    · exact Nat.le_trans hf.size h1

def Keep (w w' : World) : Prop := ∀ b T cs, T ≠ Ty_uint8 → T ≠ Ty_pack_Writer → Blk w b T cs → Blk w' b T cs
theorem pw_liftK {w0 w : World} {p f : Nat} {bs bs' : List UInt8} {args : Array Value} (h : PWL w0 w p bs)
    (k : ∀ s, PWo w p s bs → Calls PP f args w (Rt fun v w' => v = .tuple #[] ∧ ∃ s', PWo w' p s' bs' ∧ Stp p s w s' w')) : Calls PP f args w (Rt fun v w' => v = .tuple #[] ∧ PWL w0 w' p bs' ∧ Keep w w') := by
  obtain ⟨hf, s, hB, hO, hp, hs⟩ := h
  refine Rt.mono (k s ⟨hB, hO⟩) ?_
  rintro _ w' ⟨rfl, s', ⟨hB', hO'⟩, hS⟩
  refine ⟨rfl, ⟨hf.local_ hS.fr fun x hx => .inr ?_, s', hB', hO', hp, fun x hx => ?_⟩, fun b T cs h1 h2 hb => hb.fr hS.fr fun hx => ?_⟩
  · rcases List.mem_cons.1 hx with h1 | h1
    · omega
    · exact hs x h1
  · rcases hS.new x hx with h1 | h1
    · exact hs x h1
    · exact Nat.le_trans hf.size h1
  · rcases List.mem_cons.1 hx with h3 | h3
    · exact hb.ne_ hB h2 h3
    · exact hO.ne hb (Ne.symm h1) h3

theorem po_put {w : World} {p : Nat} {s : Slc} {bs ys : List UInt8} {b : Slc} (h : PWo w p s bs) (hb : Byt w b ys) (hm : bs.length + ys.length ≤ 140737488355328) :
    Calls PP F_pack_Writer_put #[.pointer (some (blk p)), b.v] w (Rt fun v w' => v = .tuple #[] ∧ ∃ s', PWo w' p s' (bs ++ ys) ∧ Stp p s w s' w') := by
  obtain ⟨hB, hO⟩ := h
  have hsl : s.l = bs.length := Byt.len hO.cel
  have hbl := hb.len
  refine sim_pack_Writer_put _ _ _ _ ?_
  unfold vc_pack_Writer_put
  refine ⟨true, fun _ => ⟨_, rfl, 0, hB.cell2 rfl, rfl⟩, by simp, fun _ => ⟨_, rfl, s, hB.cell rfl, ?_⟩, by simp⟩
  refine App.own slT_sl_uint8 hO hb (one_u8 _) (by unfold maxLen; omega) (by omega) ?_
  intro s' w1 hO' hl hF hblk
  have hn : p ∉ s.blks := hO.ne hB (by decide)
  refine (hB.fr hF hn).sto (lt_ rfl) fun w2 hB2 hF2 => ?_
  have h2 := hO'.ne (hB.fr hF hn) (by decide)
  refine Rt.ok ⟨rfl, s', ⟨hB2, ?_⟩, ?_, fun x hx => ?_⟩
  · rw [List.map_append]
    exact hO'.fr hF2 fun k hk hx => by simp at hx; subst hx; exact h2 hk
  · exact (hF.sub fun k hk _ => List.mem_cons_of_mem p hk).local_ hF2 fun x hx => .inl (by simp at hx; simp [hx])
  · rcases hblk x hx with h1 | h1
    · exact .inl h1
    · exact .inr (by omega)
theorem pw_put {w0 w : World} {p : Nat} {bs ys : List UInt8} {b : Slc} (h : PWL w0 w p bs) (hb : Byt w b ys) (hm : bs.length + ys.length ≤ 140737488355328) :
    Calls PP F_pack_Writer_put #[.pointer (some (blk p)), b.v] w (Rt fun v w' => v = .tuple #[] ∧ PWL w0 w' p (bs ++ ys)) := pw_lift h fun _ ho => po_put ho hb hm

structure Made (w0 w : World) (s : Slc) (bs : List UInt8) : Prop where
  fr : Fr [] w0 w
  own : Own Ty_uint8 1 w s (bs.map u8v)
  new : ∀ k ∈ s.blks, w0.heap.size ≤ k
theorem Made.byt {w0 w : World} {s : Slc} {bs : List UInt8} (h : Made w0 w s bs) : Byt w s bs := h.own.cel
theorem Made.nil (w : World) : Made w w Slc.nil [] := ⟨Fr.refl _ _, Own.nil _ _ _, fun k hk => by simp [Slc.blks] at hk⟩
theorem Made.more {w0 w w' : World} {s : Slc} {bs : List UInt8} (h : Made w0 w s bs) (f : Fr [] w w') : Made w0 w' s bs := ⟨h.fr.then_ f, h.own.fr0 f, h.new⟩
theorem Made.since {w0 w1 w : World} {s : Slc} {bs : List UInt8} (h : Made w1 w s bs) (f : Fr [] w0 w1) : Made w0 w s bs := ⟨f.then_ h.fr, h.own, fun k hk => Nat.le_trans f.size (h.new k hk)⟩
theorem Made.app {w0 w : World} {s y : Slc} {bs ys : List UInt8} {ty : Nat} {K : Slc → World → Prop} (h : Made w0 w s bs) (hy : Byt w y ys) (hm : bs.length + ys.length ≤ 140737488355328)
    (k : ∀ s' w', Made w0 w' s' (bs ++ ys) → s'.l = bs.length + ys.length → K s' w') : App PP Ty_sl_uint8 Ty_sl_uint8 ty w s.v y.v K := by
  have hsl : s.l = bs.length := Byt.len h.own.cel
  have hyl := hy.len
  refine App.own slT_sl_uint8 h.own hy (one_u8 _) (by unfold maxLen; omega) (by omega) ?_
  intro s' w1 hO hl hF hblk
  refine k s' w1 ⟨h.fr.local_ hF fun x hx => .inr (h.new x hx), by rw [List.map_append]; exact hO, fun x hx => ?_⟩ (by omega)
  rcases hblk x hx with h1 | h1
  · exact h.new x h1
  · rw [h1]; exact h.fr.size
theorem Made.one {w0 w w1 : World} {b : Nat} {x : UInt8} (f : Fr [] w0 w) (h : NewBlk w #[u8v x] Ty_uint8 b w1) : Made w0 w1 (Slc.mk (some (blk b)) 1 1) [x] :=
  ⟨f.then_ h.fr, Own.made h.blk (by simp) (by unfold maxLen; omega), fun k hk => by simp [Slc.blks] at hk; rw [hk, h.at_]; exact f.size⟩
theorem Made.row {w0 w w1 : World} {b n : Nat} {l : List UInt8} {cs : Array Value} (f : Fr [] w0 w) (h : NewBlk w cs Ty_uint8 b w1) (hc : cs = (l.map u8v).toArray) (hn : n = l.length) (hm : n ≤ 1000) : Made w0 w1 (Slc.mk (some (blk b)) n n) l := by
  subst hc
  exact ⟨f.then_ h.fr, Own.made h.blk (by simp [hn]) (by unfold maxLen; omega), fun k hk => by simp [Slc.blks] at hk; rw [hk, h.at_]; exact f.size⟩

theorem form_c {n : Nat} (hn : n < 9223372036854775808) (w : World) : Calls PP F_pack_form #[.int .i64 (n : Int)] w (Rt fun v w' => ∃ s : Slc, v = s.v ∧ Made w w' s (uv n)) := by
  refine sim_pack_form _ _ _ ?_
  unfold vc_pack_form
  refine ⟨fun n' s w' => ∃ m : Nat, n' = (m : Int) ∧ m < 128 ∧ ∃ pre, uv n = pre ++ uv m ∧ Made w w' s pre, ⟨fun n' s w' => ∃ m : Nat, n' = (m : Int) ∧ m ≤ n ∧ ∃ pre, uv n = pre ++ uv m ∧ Made w w' s pre, fun n' _ _ => n'.toNat, ⟨n, rfl, Nat.le_refl _, [], rfl, Made.nil w⟩, ?_⟩, ?_⟩
  · rintro _ s w1 ⟨m, rfl, hm, pre, hu, hM⟩
    have hlen := uv_len9 hn
    rw [hu, List.length_append] at hlen
    refine ⟨fun h => ?_, fun h => ⟨m, rfl, by simp at h; omega, pre, hu, hM⟩⟩
    simp only [decide_eq_true_eq] at h
    have hb := uv_big (n := m) (by omega)
    refine New.intro fun b w2 nb => ?_
    rw [form_byte] at nb
    have e7 : shrI .i64 (m : Int) 7 = ((m / 128 : Nat) : Int) := shr64 7 (by omega)
    refine (hM.more nb.fr).app (Made.one hM.fr nb).byt (by simp; omega) fun s' w3 hM' _ => ?_
    rw [e7]
    exact ⟨⟨_, rfl, by omega, _, by rw [hu, hb, List.append_assoc]; rfl, hM'⟩, by simp; omega⟩
  · rintro _ s w1 ⟨m, rfl, hm, pre, hu, hM⟩
    have hlen := uv_len9 hn
    rw [hu, List.length_append] at hlen
    refine New.intro fun b w2 nb => ?_
    have e : wr .u8 (m : Int) = ((UInt8.ofNat m).toNat : Int) := by rw [u8_ofNat (by omega), wr8u (by omega) (by omega)]
    rw [e] at nb
    refine (hM.more nb.fr).app (Made.one hM.fr nb).byt (by simp; omega) fun s' w3 hM' _ => ?_
    refine Rt.ok ⟨s', rfl, ?_⟩
    rw [hu, uv_small hm]
    exact hM'

theorem po_uint {w : World} {p n : Nat} {s : Slc} {bs : List UInt8} (h : PWo w p s bs) (hn : n < 9223372036854775808) (hm : bs.length ≤ 140737488355000) :
    Calls PP F_pack_Writer_Uint #[.pointer (some (blk p)), .int .i64 (n : Int)] w (Rt fun v w' => v = .tuple #[] ∧ ∃ s', PWo w' p s' (bs ++ uv n) ∧ Stp p s w s' w') := by
  have hl := uv_len9 hn
  refine sim_pack_Writer_Uint _ _ _ _ ?_
  unfold vc_pack_Writer_Uint
  refine ⟨fun h => by simp at h; omega, fun _ => ?_⟩
  refine call (form_c hn w) ?_
  rintro _ w1 ⟨z, rfl, hM⟩
  refine ⟨z, rfl, call (po_put (h.fr hM.fr) hM.byt (by omega)) ?_⟩
  rintro _ w2 ⟨rfl, s', h2, hS⟩
  exact ⟨rfl, Rt.ok ⟨rfl, s', h2, (Stp.of0 hM.fr).trans hS⟩⟩
theorem pw_uint {w0 w : World} {p n : Nat} {bs : List UInt8} (h : PWL w0 w p bs) (hn : n < 9223372036854775808) (hm : bs.length ≤ 140737488355000) :
    Calls PP F_pack_Writer_Uint #[.pointer (some (blk p)), .int .i64 (n : Int)] w (Rt fun v w' => v = .tuple #[] ∧ PWL w0 w' p (bs ++ uv n)) := pw_lift h fun _ ho => po_uint ho hn hm
theorem pw_uintK {w0 w : World} {p n : Nat} {bs : List UInt8} (h : PWL w0 w p bs) (hn : n < 9223372036854775808) (hm : bs.length ≤ 140737488355000) :
    Calls PP F_pack_Writer_Uint #[.pointer (some (blk p)), .int .i64 (n : Int)] w (Rt fun v w' => v = .tuple #[] ∧ PWL w0 w' p (bs ++ uv n) ∧ Keep w w') := pw_liftK h fun _ ho => po_uint ho hn hm
theorem pw_byte {w0 w : World} {p : Nat} {bs : List UInt8} {x : UInt8} (h : PWL w0 w p bs) (hm : bs.length ≤ 140737488355000) :
    Calls PP F_pack_Writer_Byte #[.pointer (some (blk p)), u8v x] w (Rt fun v w' => v = .tuple #[] ∧ PWL w0 w' p (bs ++ [x])) := by
  refine sim_pack_Writer_Byte _ _ _ _ ?_
  unfold vc_pack_Writer_Byte
  refine New.intro fun b w1 nb => ?_
  refine call (pw_put (h.more nb.fr) (Made.one h.fr nb).byt (by simp; omega)) ?_
  rintro _ w2 ⟨rfl, h2⟩
  exact ⟨rfl, Rt.ok ⟨rfl, h2⟩⟩
theorem pw_bool {w0 w : World} {p : Nat} {bs : List UInt8} {x : Bool} (h : PWL w0 w p bs) (hm : bs.length ≤ 140737488355000) :
    Calls PP F_pack_Writer_Bool #[.pointer (some (blk p)), .bool x] w (Rt fun v w' => v = .tuple #[] ∧ PWL w0 w' p (bs ++ [if x then 1 else 0])) := by
  refine sim_pack_Writer_Bool _ _ _ _ ?_
  unfold vc_pack_Writer_Bool
  refine ⟨fun hx => ?_, fun hx => ?_⟩
  · subst hx
    refine New.intro fun b w1 nb => call (pw_put (h.more nb.fr) (Made.one (x := 1) h.fr nb).byt (by simp; omega)) ?_
    rintro _ w2 ⟨rfl, h2⟩
    exact ⟨rfl, Rt.ok ⟨rfl, h2⟩⟩
  · subst hx
    refine New.intro fun b w1 nb => call (pw_put (h.more nb.fr) (Made.one (x := 0) h.fr nb).byt (by simp; omega)) ?_
    rintro _ w2 ⟨rfl, h2⟩
    exact ⟨rfl, Rt.ok ⟨rfl, h2⟩⟩
theorem po_bytes {w : World} {p : Nat} {s : Slc} {bs ys : List UInt8} {b : Slc} (h : PWo w p s bs) (hb : Byt w b ys) (hd : ∀ k ∈ b.blks, k ∉ p :: s.blks) (hm : bs.length + ys.length ≤ 140737488355000) :
    Calls PP F_pack_Writer_Bytes #[.pointer (some (blk p)), b.v] w (Rt fun v w' => v = .tuple #[] ∧ ∃ s', PWo w' p s' (bs ++ uv ys.length ++ ys) ∧ Stp p s w s' w') := by
  have hl := uv_len9 (n := ys.length) (by omega)
  refine sim_pack_Writer_Bytes _ _ _ _ ?_
  unfold vc_pack_Writer_Bytes
  rw [hb.len]
  refine call (po_uint h (by omega) (by omega)) ?_
  rintro _ w1 ⟨rfl, s1, h1, hS⟩
  refine ⟨rfl, call (po_put h1 (Cel.fr hb hS.fr hd) (by simp; omega)) ?_⟩
  rintro _ w2 ⟨rfl, s2, h2, hS2⟩
  exact ⟨rfl, Rt.ok ⟨rfl, s2, h2, hS.trans hS2⟩⟩
theorem pw_bytes {w0 w : World} {p : Nat} {bs ys : List UInt8} {b : Slc} (h : PWL w0 w p bs) (hb : Byt w0 b ys) (hm : bs.length + ys.length ≤ 140737488355000) :
    Calls PP F_pack_Writer_Bytes #[.pointer (some (blk p)), b.v] w (Rt fun v w' => v = .tuple #[] ∧ PWL w0 w' p (bs ++ uv ys.length ++ ys)) := by
  obtain ⟨hf, s, hB, hO, hp, hs⟩ := h
  by_cases hz : ys = []
  · subst hz
    -- nothing is read
    have hl := uv_len9 (n := ([] : List UInt8).length) (by decide)
    refine sim_pack_Writer_Bytes _ _ _ _ ?_
    unfold vc_pack_Writer_Bytes
    rw [hb.len]
    refine call (pw_uint ⟨hf, s, hB, hO, hp, hs⟩ (by decide) (by omega)) ?_
    rintro _ w1 ⟨rfl, h1⟩
    refine ⟨rfl, call (pw_put h1 (hb.fr0 h1.fr) (by simp; simp at hm hl; omega)) ?_⟩
    rintro _ w2 ⟨rfl, h2⟩
    exact ⟨rfl, Rt.ok ⟨rfl, h2⟩⟩
  · refine pw_lift ⟨hf, s, hB, hO, hp, hs⟩ fun s' ho => ?_
    have e : s'.v = s.v := by
      have h1 := ho.blk
      unfold Blk at h1 hB
      rw [hB] at h1
      simp at h1
      obtain ⟨a1, l1, c1⟩ := s
      obtain ⟨a2, l2, c2⟩ := s'
      simp at h1 ⊢
      exact ⟨h1.1.symm, h1.2.1.symm, h1.2.2.symm⟩
    have e2 : s'.blks = s.blks := by rw [← ownBlock_eq, ← ownBlock_eq, e]
    refine po_bytes ho (hb.fr0 hf) (fun k hk hx => ?_) hm
    have hlt : k < w0.heap.size := Cel.lt hb (by simpa using hz) k hk
    rw [e2] at hx
    rcases List.mem_cons.1 hx with h1 | h1
    · omega
    · have := hs k h1; omega
theorem PWL.step {w0 w w' : World} {p : Nat} {s s' : Slc} {bs : List UInt8} (hf : Fr [] w0 w) (hp : w0.heap.size ≤ p) (hs : ∀ k ∈ s.blks, w0.heap.size ≤ k) (h : PWo w' p s' bs) (S : Stp p s w s' w') : PWL w0 w' p bs := by
  refine ⟨hf.local_ S.fr fun x hx => .inr ?_, s', h.blk, h.own, hp, fun x hx => ?_⟩
  · rcases List.mem_cons.1 hx with h1 | h1
    · omega
    · exact hs x h1
  · rcases S.new x hx with h1 | h1
    · exact hs x h1
    · exact Nat.le_trans hf.size h1
theorem pw_bytes2 {w0 w1 w : World} {p : Nat} {bs ys : List UInt8} {b : Slc} (h : PWL w0 w1 p bs) (f : Fr [] w1 w) (hb : Byt w b ys) (hn : ∀ k ∈ b.blks, w1.heap.size ≤ k) (hm : bs.length + ys.length ≤ 140737488355000) :
    Calls PP F_pack_Writer_Bytes #[.pointer (some (blk p)), b.v] w (Rt fun v w' => v = .tuple #[] ∧ PWL w0 w' p (bs ++ uv ys.length ++ ys)) := by
  obtain ⟨hf, s, hB, hO, hp, hs⟩ := h
  refine Rt.mono (po_bytes (PWo.fr ⟨hB, hO⟩ f) hb (fun k hk hx => ?_) hm) ?_
  · have := hn k hk
    rcases List.mem_cons.1 hx with h1 | h1
    · have := hB.lt; omega
    · have := hO.lt k h1; omega
  · rintro _ w' ⟨rfl, s', h2, S⟩
    exact ⟨rfl, PWL.step (hf.then_ f) hp hs h2 S⟩
theorem po_text {w : World} {p : Nat} {s : Slc} {bs : List UInt8} {t : ByteArray} (h : PWo w p s bs) (hm : bs.length + t.size ≤ 140737488355000) :
    Calls PP F_pack_Writer_Text #[.pointer (some (blk p)), .string t] w (Rt fun v w' => v = .tuple #[] ∧ ∃ s', PWo w' p s' (bs ++ uv t.size ++ t.data.toList) ∧ Stp p s w s' w') := by
  refine sim_pack_Writer_Text _ _ _ _ ?_
  unfold vc_pack_Writer_Text
  refine ToBytes.rule und_string slT_sl_uint8.ut und_uint8 fun z w1 hz hf hzb => ?_
  have hsz : t.data.toList.length = t.size := by simp
  refine call (po_bytes (h.fr hf) hz (fun k hk hx => ?_) (by omega)) ?_
  · have := hzb k hk
    rcases List.mem_cons.1 hx with h1 | h1
    · have := h.blk.lt; omega
    · have := h.own.lt k h1; omega
  · rintro _ w2 ⟨rfl, s', h2, hS⟩
    rw [hsz] at h2
    exact ⟨rfl, Rt.ok ⟨rfl, s', h2, (Stp.of0 hf).trans hS⟩⟩
theorem pw_text {w0 w : World} {p : Nat} {bs : List UInt8} {t : ByteArray} (h : PWL w0 w p bs) (hm : bs.length + t.size ≤ 140737488355000) :
    Calls PP F_pack_Writer_Text #[.pointer (some (blk p)), .string t] w (Rt fun v w' => v = .tuple #[] ∧ PWL w0 w' p (bs ++ uv t.size ++ t.data.toList)) := pw_lift h fun _ ho => po_text ho hm
end Go.Proofs.YtflcdgkckfcofaaGreatDoor
