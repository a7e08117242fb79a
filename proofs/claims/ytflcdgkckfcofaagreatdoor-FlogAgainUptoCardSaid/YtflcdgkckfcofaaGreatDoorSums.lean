/-
  Contracts of slices.Clone, Concat, Grow over bytes, of package sum, of the four bytes of a sum, and of the rest of pack's writer.
-/
import Derived.Test.YtflcdgkckfcofaaGreatDoorPack
namespace Go.Proofs.YtflcdgkckfcofaaGreatDoor
open Go Go.Vc

theorem clone_c {w : World} {s : Slc} {bs : List UInt8} (h : Byt w s bs) (hm : bs.length ≤ 140737488355328) :
    Calls PP F_slices_Clone #[s.v] w (Rt fun v w' => ∃ s' : Slc, v = s'.v ∧ Made w w' s' bs) := by
  refine sim_slices_Clone _ _ _ ?_
  unfold vc_slices_Clone
  refine ⟨fun hn => ?_, fun hn => ?_⟩
  · have : bs = [] := by
      cases bs with
      | nil => rfl
      | cons b r => obtain ⟨p, hp, _⟩ := h.get (i := 0) (by simp); rw [hp] at hn; cases hn
    subst this
    exact Rt.ok ⟨_, rfl, Made.nil w⟩
  · refine New.intro fun b w1 nb => ?_
    refine (Made.row (l := []) (Fr.refl _ _) nb rfl rfl (by decide)).app (h.fr0 nb.fr) (by simp; omega) fun s' w2 hM _ => ?_
    exact Rt.ok ⟨s', rfl, hM⟩

theorem grow_c {n : Nat} (hn : n ≤ 140737488355328) (w : World) : Calls PP F_slices_Grow #[Slc.nil.v, .int .i64 (n : Int)] w (Rt fun v w' => ∃ s' : Slc, v = s'.v ∧ Made w w' s' []) := by
  refine sim_slices_Grow _ _ _ _ ?_
  unfold vc_slices_Grow
  refine ⟨fun w' => w = w', ⟨fun h => by simp at h; omega, fun _ => rfl⟩, ?_⟩
  rintro _ rfl
  have e : wr .i64 ((n : Int) - wr .i64 (((Slc.nil.c : Nat) : Int) - ((Slc.nil.l : Nat) : Int))) = (n : Int) := by
    rw [wr64 (n := ((Slc.nil.c : Nat) : Int) - ((Slc.nil.l : Nat) : Int)) (by simp) (by simp)]; simp; exact wr64 (by omega) (by omega)
  rw [e]
  refine ⟨fun s' w' => Made w w' s' [], ⟨fun h => ?_, fun h => Made.nil w⟩, fun s' w' hM => Rt.ok ⟨s', rfl, hM⟩⟩
  simp only [decide_eq_true_eq] at h
  refine ⟨by simp, by simp, by simp, ?_⟩
  have e2 : Slc.nil.cut 1 (Int.toNat 0) (Int.toNat ((Slc.nil.c : Nat) : Int)) = Slc.nil := rfl
  rw [e2]
  refine App.zeros slT_sl_uint8 und_int (by omega) (by omega) (by omega) fun b c cur w1 hnc hc hsz hB hf hb => ?_
  refine ⟨by simp, by simp, by simp, ?_⟩
  exact ⟨hf, Own.cut0 hB hc hsz, fun k hk => by
    simp only [Slc.cut, Slc.blks] at hk
    split at hk
    · rename_i p hp
      simp at hk
      subst hk
      split at hp <;> simp at hp <;> rw [← hp] <;> simp [block_add, hb]
    · simp at hk⟩

def Parts (w : World) (s : Slc) (bss : List (List UInt8)) : Prop := ∃ ss : List Slc, Cel w s 1 (ss.map Slc.v) ∧ ss.length = bss.length ∧ ∀ i (h : i < ss.length) (h' : i < bss.length), Byt w ss[i] bss[i]
theorem Parts.len {w : World} {s : Slc} {bss : List (List UInt8)} (h : Parts w s bss) : s.l = bss.length := by
  obtain ⟨ss, hc, hl, _⟩ := h
  have := hc.len
  simp at this
  omega
theorem Parts.get {w : World} {s : Slc} {bss : List (List UInt8)} (h : Parts w s bss) {i : Nat} (hi : i < bss.length) : ∃ p x, s.a = some p ∧ w.cell? (p.add i) = some (Slc.v x) ∧ Byt w x bss[i] := by
  obtain ⟨ss, hc, hl, hb⟩ := h
  obtain ⟨p, hp, hcell⟩ := hc.get (i := i) (by simp; omega)
  exact ⟨p, ss[i], hp, by simpa using hcell, hb i (by omega) hi⟩
theorem Parts.fr0 {w w' : World} {s : Slc} {bss : List (List UInt8)} (h : Parts w s bss) (f : Fr [] w w') : Parts w' s bss := by
  obtain ⟨ss, hc, hl, hb⟩ := h
  exact ⟨ss, hc.fr0 f, hl, fun i h1 h2 => (hb i h1 h2).fr0 f⟩
theorem Parts.one {w w1 : World} {x : Slc} {bs : List UInt8} {b : Nat} (h : Byt w x bs) (nb : NewBlk w #[x.v] Ty_sl_uint8 b w1) : Parts w1 (Slc.mk (some (blk b)) 1 1) [bs] := by
  refine ⟨[x], Cel.block (l := [x.v]) nb.blk rfl (by simp) (Nat.le_refl _), rfl, fun i h1 h2 => ?_⟩
  obtain rfl : i = 0 := by simp at h1; omega
  exact h.fr0 nb.fr
theorem Parts.two {w w1 : World} {x y : Slc} {bs cs : List UInt8} {b : Nat} (h : Byt w x bs) (h2 : Byt w y cs) (nb : NewBlk w #[x.v, y.v] Ty_sl_uint8 b w1) : Parts w1 (Slc.mk (some (blk b)) 2 2) [bs, cs] := by
  refine ⟨[x, y], Cel.block (l := [x.v, y.v]) nb.blk rfl (by simp) (Nat.le_refl _), rfl, fun i h1 h2' => ?_⟩
  have : i = 0 ∨ i = 1 := by simp at h1; omega
  rcases this with rfl | rfl
  · exact h.fr0 nb.fr
  · exact h2.fr0 nb.fr

theorem concat_c {w : World} {s : Slc} {bss : List (List UInt8)} (h : Parts w s bss) (hm : bss.flatten.length ≤ 140737488355328) (hk : bss.length ≤ 140737488355328) :
    Calls PP F_slices_Concat #[s.v] w (Rt fun v w' => ∃ s' : Slc, v = s'.v ∧ Made w w' s' bss.flatten) := by
  have hsl := h.len
  have hle : ∀ k, (bss.take k).flatten.length ≤ bss.flatten.length := fun k => flat_le bss k
  have hstep : ∀ k (hk : k < bss.length), (bss.take (k + 1)).flatten = (bss.take k).flatten ++ bss[k] := fun k hk => flat_step bss k hk
  refine sim_slices_Concat _ _ _ ?_
  unfold vc_slices_Concat
  refine ⟨fun z i w' => w = w' ∧ ∃ k : Nat, i = (k : Int) ∧ k ≤ bss.length ∧ z = ((bss.take k).flatten.length : Int), fun _ i _ => bss.length - i.toNat, ⟨rfl, 0, rfl, by omega, by simp⟩, ?_⟩
  rintro _ _ _ ⟨rfl, k, rfl, hkl, rfl⟩
  refine ⟨fun hlt => ?_, fun hge => ?_⟩
  · simp only [decide_eq_true_eq, hsl] at hlt
    have hlt' : k < bss.length := by omega
    obtain ⟨p, x, hp, hc, hx⟩ := h.get hlt'
    have hs1 := hstep k hlt'
    have hl1 := hle (k + 1)
    rw [hs1, List.length_append] at hl1
    refine ⟨fun z w' => w = w' ∧ z = ((bss.take (k + 1)).flatten.length : Int), ⟨p, hp, by omega, by omega, x, by simpa using hc, ?_, ?_⟩, ?_⟩
    · intro hneg
      rw [hx.len, wr64 (by omega) (by omega)] at hneg
      simp at hneg
      omega
    · intro _
      refine ⟨rfl, ?_⟩
      rw [hx.len, wr64 (by omega) (by omega), hs1, List.length_append]
      omega
    · rintro _ _ ⟨rfl, rfl⟩
      rw [wr64 (by omega) (by omega)]
      exact ⟨⟨rfl, k + 1, rfl, by omega, rfl⟩, by dsimp only; omega⟩
  · simp only [decide_eq_false_iff_not, hsl] at hge
    have hkk : k = bss.length := by omega
    subst hkk
    rw [List.take_length]
    refine call (grow_c hm w) ?_
    rintro _ w1 ⟨s1, rfl, hM1⟩
    refine ⟨s1, rfl, fun s' i w' => ∃ k : Nat, i = (k : Int) ∧ k ≤ bss.length ∧ Made w w' s' (bss.take k).flatten, fun _ i _ => bss.length - i.toNat, ⟨0, rfl, by omega, hM1⟩, ?_⟩
    rintro s2 _ w2 ⟨k, rfl, hkl2, hM⟩
    refine ⟨fun hlt => ?_, fun hge => ?_⟩
    · simp only [decide_eq_true_eq, hsl] at hlt
      have hlt' : k < bss.length := by omega
      obtain ⟨p, x, hp, hc, hx⟩ := (h.fr0 hM.fr).get hlt'
      have hs1 := hstep k hlt'
      have hl1 := hle (k + 1)
      rw [hs1, List.length_append] at hl1
      refine ⟨p, hp, by omega, by omega, x, by simpa using hc, hM.app hx (by omega) fun s3 w3 hM3 _ => ?_⟩
      rw [wr64 (by omega) (by omega)]
      exact ⟨⟨k + 1, rfl, by omega, by rw [hs1]; exact hM3⟩, by dsimp only; omega⟩
    · simp only [decide_eq_false_iff_not, hsl] at hge
      have hkk : k = bss.length := by omega
      subst hkk
      rw [List.take_length] at hM
      exact Rt.ok ⟨s2, rfl, hM⟩

def GT (w : World) : Prop := ∀ i, i < 16 → w.cell? ((blk G_sum_steps).add i) = some (.int .u32 ((tab i).toNat : Int))
theorem GT.fr {S : List Nat} {w w' : World} (h : GT w) (f : Fr S w w') (hS : G_sum_steps ∉ S) : GT w' := fun i hi => f.cell (h i hi) (by rw [block_add]; exact hS)
theorem GT.fr0 {w w' : World} (h : GT w) (f : Fr [] w w') : GT w' := h.fr f (by simp)
theorem GT.pos {w : World} (h : GT w) : G_sum_steps < w.heap.size := by
  have := World.block_lt_of_cell? w _ (h 0 (by omega))
  rwa [block_add] at this
theorem and15 (x : BitVec 32) : andI .u32 (x.toNat : Int) 15 = ((x &&& 15#32).toNat : Int) := and32 x 15#32
theorem lt16 (x : BitVec 32) : (x &&& 15#32).toNat < 16 := by
  rw [BitVec.toNat_and]; exact Nat.lt_of_le_of_lt Nat.and_le_right (by decide)

theorem step_c {w : World} (h : GT w) (c : BitVec 32) (b : UInt8) : Calls PP F_sum_step #[.int .u32 (c.toNat : Int), u8v b] w (Rt fun v w' => v = .int .u32 ((crcB c b).toNat : Int) ∧ w = w') := by
  refine sim_sum_step _ _ _ _ ?_
  unfold vc_sum_step
  have e4 : ∀ x : BitVec 32, shrI .u32 (x.toNat : Int) 4 = ((x >>> 4).toNat : Int) := fun x => shr32 x 4 (by omega)
  rw [wr32_u8, xor32, and15, e4]
  have l1 := lt16 (c ^^^ BitVec.ofNat 32 b.toNat)
  refine ⟨by omega, by omega, _, by rw [Nat.mul_one, Int.toNat_natCast]; exact h _ l1, ?_⟩
  rw [xor32, and15, e4]
  refine ⟨by omega, by have := lt16 (tab ((c ^^^ BitVec.ofNat 32 b.toNat) &&& 15#32).toNat ^^^ ((c ^^^ BitVec.ofNat 32 b.toNat) >>> 4)); omega, _, by rw [Nat.mul_one, Int.toNat_natCast]; exact h _ (lt16 _), ?_⟩
  rw [xor32]
  exact Rt.ok ⟨by rw [crcB_tab], rfl⟩

theorem of_c {w : World} {s : Slc} {bss : List (List UInt8)} (hG : GT w) (h : Parts w s bss) (hm : bss.flatten.length ≤ 140737488355328) (hk : bss.length ≤ 140737488355328) :
    Calls PP F_sum_Of #[s.v] w (Rt fun v w' => v = .int .u32 ((crc bss.flatten).toNat : Int) ∧ w = w') := by
  have hsl := h.len
  refine sim_sum_Of _ _ _ ?_
  unfold vc_sum_Of
  refine ⟨fun x i w' => w = w' ∧ ∃ k : Nat, i = (k : Int) ∧ k ≤ bss.length ∧ x = ((crcL (BitVec.allOnes 32) (bss.take k).flatten).toNat : Int), fun _ i _ => bss.length - i.toNat, ⟨rfl, 0, rfl, by omega, by simp [crcL]⟩, ?_⟩
  rintro _ _ _ ⟨rfl, k, rfl, hkl, rfl⟩
  refine ⟨fun hlt => ?_, fun hge => ?_⟩
  · simp only [decide_eq_true_eq, hsl] at hlt
    have hlt' : k < bss.length := by omega
    obtain ⟨p, x, hp, hc, hx⟩ := h.get hlt'
    have hs1 := flat_step bss k hlt'
    have hl1 := flat_le bss (k + 1)
    rw [hs1, List.length_append] at hl1
    have hxl := hx.len
    refine ⟨fun z w' => w = w' ∧ z = ((crcL (BitVec.allOnes 32) (bss.take (k + 1)).flatten).toNat : Int), ⟨p, hp, by omega, by omega, x, by simpa using hc,
      fun z i w' => w = w' ∧ ∃ j : Nat, i = (j : Int) ∧ j ≤ bss[k].length ∧ z = ((crcL (BitVec.allOnes 32) ((bss.take k).flatten ++ bss[k].take j)).toNat : Int), fun _ i _ => bss[k].length - i.toNat, ⟨rfl, 0, rfl, by omega, by simp⟩, ?_⟩, ?_⟩
    · rintro _ _ _ ⟨rfl, j, rfl, hjl, rfl⟩
      refine ⟨fun hj => ?_, fun hj => ?_⟩
      · simp only [decide_eq_true_eq, hxl] at hj
        have hj' : j < bss[k].length := by omega
        obtain ⟨q, hq, hcell⟩ := hx.get hj'
        refine ⟨q, hq, by omega, by omega, _, by simpa using hcell, call (step_c hG _ _) ?_⟩
        rintro _ _ ⟨rfl, rfl⟩
        refine ⟨_, rfl, ?_⟩
        rw [wr64 (by omega) (by omega)]
        refine ⟨⟨rfl, j + 1, rfl, by omega, ?_⟩, by dsimp only; omega⟩
        rw [List.take_succ_eq_append_getElem hj', ← List.append_assoc, crcL_append _ _ [_]]
        rfl
      · simp only [decide_eq_false_iff_not, hxl] at hj
        have : j = bss[k].length := by omega
        subst this
        exact ⟨rfl, by rw [hs1, List.take_length]⟩
    · rintro _ _ ⟨rfl, rfl⟩
      rw [wr64 (by omega) (by omega)]
      exact ⟨⟨rfl, k + 1, rfl, by omega, rfl⟩, by dsimp only; omega⟩
  · simp only [decide_eq_false_iff_not, hsl] at hge
    have hkk : k = bss.length := by omega
    subst hkk
    rw [List.take_length, not32]
    exact Rt.ok ⟨rfl, rfl⟩

theorem four_c (c : BitVec 32) (w : World) : Calls PP F_record_four #[.int .u32 (c.toNat : Int)] w (Rt fun v w' => ∃ s : Slc, v = s.v ∧ Made w w' s (le4 c)) := by
  refine sim_record_four _ _ _ ?_
  unfold vc_record_four
  have e0 : wr .u8 (c.toNat : Int) = ((UInt8.ofNat (c.toNat % 256)).toNat : Int) := wr8_byte _
  have e1 := le4_byte c 8 (by omega)
  have e2 := le4_byte c 16 (by omega)
  have e3 := le4_byte c 24 (by omega)
  refine New.intro fun b w1 nb => Rt.ok ⟨_, rfl, Made.row (l := le4 c) (Fr.refl _ _) nb ?_ rfl (by decide)⟩
  rw [e0]
  rw [show ((8 : Nat) : Int) = 8 from rfl] at e1
  rw [show ((16 : Nat) : Int) = 16 from rfl] at e2
  rw [show ((24 : Nat) : Int) = 24 from rfl] at e3
  rw [e1, e2, e3]
  rfl

theorem pw_data {w0 w : World} {p : Nat} {bs : List UInt8} (h : PWL w0 w p bs) (hm : bs.length ≤ 140737488355328) :
    Calls PP F_pack_Writer_Data #[.pointer (some (blk p))] w (Rt fun v w' => ∃ s : Slc, v = s.v ∧ Made w w' s bs) := by
  obtain ⟨hf, s, hB, hO, hp, hs⟩ := h
  refine sim_pack_Writer_Data _ _ _ ?_
  unfold vc_pack_Writer_Data
  refine ⟨false, fun _ => ⟨_, rfl, 0, hB.cell2 rfl, by simp⟩, by simp, by simp, fun _ => ⟨_, rfl, s, hB.cell rfl, call (clone_c (bs := bs) hO.cel hm) ?_⟩⟩
  rintro _ w1 ⟨s1, rfl, hM⟩
  exact ⟨s1, rfl, Rt.ok ⟨s1, rfl, hM⟩⟩
end Go.Proofs.YtflcdgkckfcofaaGreatDoor
