/-
  Bytes that are there to be read, as a part; what is appended to the bytes of a string. Nothing of any program stands here.
-/
import Derived.Test.YteoeboeaanjehaaDoorSep
import Derived.ArgAppend
import Derived.Deep.Upon
import Derived.Laws.Append
import Derived.Lib.ConvBytes
namespace Go.Vc
open Go Go.Vc.Asn
theorem byt_loc {w w' : World} {d : Slc} {bs : List UInt8} (h : Byt w d bs) (hb : ∀ k ∈ d.blks, w'.heap[k]? = w.heap[k]?) : Byt w' d bs :=
  ⟨Cel.len h, Cel.cap h, fun i v hv => by
    obtain ⟨p, hp, hc⟩ := Cel.at_ h i v hv
    refine ⟨p, hp, (World.cell?_of_block (hb _ ?_)).trans hc⟩
    rw [block_add]
    unfold Slc.blks
    rw [hp]
    simp⟩
/-- Bytes to be read. -/
def Asn.rdp (d : Slc) (bs : List UInt8) : Asn where
  p w S := (∀ k, S k ↔ k ∈ d.blks) ∧ (∀ k ∈ d.blks, k < w.heap.size) ∧ Byt w d bs
  loc := by
    rintro w w' S ⟨h1, h2, h3⟩ h
    have hb : ∀ k ∈ d.blks, w'.heap[k]? = w.heap[k]? := fun k hk => h k ((h1 k).2 hk)
    refine ⟨h1, fun k hk => ?_, byt_loc h3 hb⟩
    have e := hb k hk
    rw [Array.getElem?_eq_getElem (h2 k hk)] at e
    exact (Array.getElem?_eq_some_iff.1 e).1
  lt := by
    rintro w S ⟨h1, h2, h3⟩ k hk
    exact h2 k ((h1 k).1 hk)
theorem Hp.rdp {w0 w : World} {F : Asn} {d : Slc} {bs : List UInt8} (H : Hp w0 w (star (Asn.rdp d bs) F)) : Byt w d bs := by
  obtain ⟨_, S, _, S1, S2, _, _, ⟨_, _, h⟩, _⟩ := H
  exact h
theorem rdp_of {e : Nat} {d : Slc} {bs : List UInt8} : Ent (Asn.own e 1 d (bs.map u8v)) (Asn.rdp d bs) := by
  rintro w S ⟨h1, h2⟩
  exact ⟨h1, h2.lt, h2.cel⟩
/-- The row that a conversion of a string made. -/
def Asn.btA (e : Nat) (d : Slc) (bs : List UInt8) : Asn where
  p w S := (∀ k, S k ↔ k ∈ d.blks) ∧ ∃ (g : Nat) (cur : Array Value), d.a = some (Vc.blk g) ∧ w.heap[g]? = some (.cells cur e (cur.size, cur.size + 1)) ∧ cur.size = d.c ∧ d.l = bs.length ∧ d.l ≤ d.c ∧ d.c ≤ maxLen ∧ cur.toList.take d.l = bs.map u8v
  loc := by
    rintro w w' S ⟨h1, g, cur, h2, h3, r⟩ h
    exact ⟨h1, g, cur, h2, (h g ((h1 g).2 (by unfold Slc.blks; rw [h2]; simp))).trans h3, r⟩
  lt := by
    rintro w S ⟨h1, g, cur, h2, h3, r⟩ k hk
    have := (h1 k).1 hk
    unfold Slc.blks at this
    rw [h2] at this
    simp at this
    rw [this]
    exact (Array.getElem?_eq_some_iff.1 h3).1
section
variable {P : Program} {w0 w : World} {A F : Asn} {t1 t2 e : Nat}
theorem Hp.toBytes {s : ByteArray} {K : Slc → World → Prop} (h1 : P.underlying t1 = some .string) (h2 : P.underlying t2 = some (.slice e)) (h3 : P.underlying e = some (.int .u8)) (hm : s.size ≤ maxLen) (H : Hp w0 w A)
    (k : ∀ z w', Hp w0 w' (star (Asn.btA e z s.data.toList) A) → z.l = s.size → K z w') : ToBytes P t1 t2 w (.string s) K := by
  refine ⟨⟨some (Vc.blk w.heap.size), s.size, grownCap w s.size 0 e⟩, _, Lib.run_convert_string_bytes (P := P) w t1 t2 e s h1 h2 h3, k _ _ (H.beside ⟨?_, fun x => x = w.heap.size, fun x hx => by rw [hx]; exact Nat.le_refl _, fun x => by simp [Slc.blks], w.heap.size, _, rfl, Lib.bytesWorld_at_new w e s, ?_, ?_, ?_, ?_, ?_⟩) rfl⟩
  · exact ⟨by simp [Lib.bytesWorld, World.freeze]; rfl, by simp [Lib.bytesWorld, World.freeze], by simp [Lib.bytesWorld, World.freeze]; rfl, by rw [Lib.bytesWorld_size]; omega, fun k hk _ => Lib.bytesWorld_at_old w e s k hk⟩
  · have := grownCap_ge w s.size 0 e
    simp [Lib.bytesCells]
    have h : s.data.size = s.size := rfl
    omega
  · simp
  · exact grownCap_ge w s.size 0 e
  · exact grownCap_le_maxLen w s.size 0 e hm
  · apply List.ext_getElem?
    intro i
    rw [List.getElem?_take]
    have hsz : s.data.size = s.size := rfl
    by_cases hi : i < s.size
    · rw [if_pos hi]
      simp only [Lib.bytesCells, Array.toList_append, Array.toList_map]
      rw [List.getElem?_append_left (by simp; omega)]
    · rw [if_neg hi, List.getElem?_eq_none (by simp; omega)]
theorem Hp.appB {t ty : Nat} {z : Value} (T : SlT P t e 1 1 z) {s y : Slc} {bs ys : List UInt8} {K : Slc → World → Prop} (H : Hp w0 w (star (Asn.btA e s bs) F)) (hy : Byt w y ys) (hm : s.l + y.l ≤ 140737488355328) (hy0 : ys ≠ [])
    (k : ∀ s' w', Hp w0 w' (star (Asn.rdp s' (bs ++ ys)) F) → s'.l = s.l + y.l → K s' w') : App P t t ty w s.v y.v K := by
  have H0 := H
  obtain ⟨_, S, _, S1, S2, _, _, ⟨hS, g, cur, ha, hg, hc, hl, hlc, hcm, ht⟩, _⟩ := H0
  obtain ⟨a, l, c⟩ := s
  simp only at ha hl hlc hc hcm ht hm
  subst ha
  subst hl
  have hyl := hy.len
  obtain ⟨ad, hya⟩ : ∃ ad, y.a = some ad := by
    obtain ⟨p, hp, _⟩ := hy.get (List.length_pos_iff.2 hy0)
    exact ⟨p, hp⟩
  have hnews : ∀ j u, (ys.map u8v)[j]? = some u → w.cell? (ad.add j) = some u := by
    intro j u hu
    obtain ⟨p, hp, hcc⟩ := Cel.at_ hy j u hu
    rw [hya] at hp
    injection hp with hp
    rw [hp]
    exact hcc
  have hyv : y.v = .slice (some ad) y.l y.c := by simp only [Slc.v, hya]
  cases hi : P.info? e with
  | none => have := T.info; rw [hi] at this; simp at this
  | some i =>
    have hinfo := T.info
    rw [hi] at hinfo
    simp only [Option.map_some, Option.some.injEq, Prod.mk.injEq] at hinfo
    obtain ⟨hz, hs, hby⟩ := hinfo
    have hcell : ∀ j, w.cell? ⟨g, j, none⟩ = cur[j]? := fun j => cell_of_row w g j cur e _ hg
    have hold : ∀ j (hj : j < bs.length), cur[j]? = some (u8v (bs[j]'(by omega))) := fun j hj => by
      have := congrArg (fun q => q[j]?) ht
      simp only [List.getElem?_take, if_pos hj, Array.getElem?_toList, List.getElem?_map] at this
      rw [this, List.getElem?_eq_getElem (by omega)]
      rfl
    have hlt : g < w.heap.size := (Array.getElem?_eq_some_iff.1 hg).1
    have hss : ∀ (vs : List Value) (o : Nat) (w : World), (w.setCells g o vs).heap.size = w.heap.size := by
      intro vs
      induction vs with
      | nil => intro o w; rfl
      | cons v r ih => intro o w; exact (ih (o + 1) _).trans (by simp [World.setCell])
    by_cases hroom : bs.length + y.l ≤ c
    · have hr := run_append_room_cells (P := P) (w := w) t ty e i T.ut hi g 0 bs.length c ad y.l y.c (ys.map u8v) (by rw [hs, List.length_map, hyl]; simp) hnews (one_u8 _) hroom (fun j hj => by
        rw [hs, hcell, Array.getElem?_eq_getElem (by simp at hj; omega)]; rfl) (fun j hj => by
        rw [hs]
        simp only [World.frozen?, hg]
        simp at hj
        simp only [Bool.and_eq_false_iff, decide_eq_false_iff_not]
        left
        omega)
      rw [hs, Nat.zero_add, Nat.mul_one] at hr
      refine ⟨⟨some (Vc.blk g), bs.length + y.l, c⟩, _, by rw [hyv]; exact hr, ?_⟩
      refine k _ _ (H.step fun S _ hp => ⟨[g], S, fun k hk => (hp.1 k).2 (by simpa [Slc.blks] using hk), ⟨World.os_setCells w g bs.length _, ?_, World.output_setCells w g bs.length _, Nat.le_of_eq (hss _ _ _).symm, fun k hk hn => World.heap_setCells_other w g bs.length _ hk (by simpa using hn)⟩, ⟨hp.1, fun k hk => ?_, ?_, ?_, ?_⟩, fun k hk => .inl hk⟩) rfl
      · have : ∀ (vs : List Value) (o : Nat) (w : World), (w.setCells g o vs).tape = w.tape := by
          intro vs
          induction vs with
          | nil => intro o w; rfl
          | cons v r ih => intro o w; exact ih (o + 1) _
        exact this _ _ _
      · simp [Slc.blks] at hk; subst hk; rw [hss]; exact hlt
      · simp; omega
      · exact hroom
      · intro j v hv
        refine ⟨_, rfl, ?_⟩
        rw [blk_add]
        have hin : ∀ q, q < (ys.map u8v).length → (w.cell? ⟨g, bs.length + q, none⟩).isSome = true := fun q hq => by
          rw [hcell, Array.getElem?_eq_getElem (by simp at hq; omega)]; rfl
        rw [List.map_append] at hv
        by_cases hj : j < bs.length
        · rw [World.cell?_setCells_out g _ _ _ _ (fun _ _ => .inl hj), hcell, hold j hj]
          rw [List.getElem?_append_left (by simp; omega)] at hv
          rw [← hv]
          simp [List.getElem?_eq_getElem (show j < bs.length by omega)]
        · rw [List.getElem?_append_right (by simp; omega)] at hv
          simp only [List.length_map] at hv
          have hj2 := (List.getElem?_eq_some_iff.1 hv).1
          have := World.cell?_setCells_in g _ bs.length w hin (j - bs.length) hj2
          rw [show bs.length + (j - bs.length) = j by omega] at this
          rw [this, ← hv, List.getElem?_eq_getElem]
    · have hr := run_append_grow (P := P) w t ty e i z T.ut hi hz (Vc.blk g) bs.length c (bs.map u8v) (by rw [hs]; simp) (fun j v hv => by
        rw [blk_add, hcell]
        have hj : j < bs.length := by have := (List.getElem?_eq_some_iff.1 hv).1; simp at this; omega
        rw [hold j hj, ← hv, List.getElem?_map, List.getElem?_eq_getElem hj]
        rfl) ad y.l y.c (ys.map u8v) (by rw [hs]; simp; omega) hnews (by omega) (by simp only [maxLen] at hcm; omega) (growslice_fits (by omega) (by rw [hby]; omega))
      refine ⟨⟨some (Vc.blk w.heap.size), bs.length + y.l, grownCap w (bs.length + y.l) c e⟩, _, by rw [hyv]; exact hr, ?_⟩
      refine k _ _ (H.step fun S _ hp => ⟨[], fun k => k = w.heap.size, by simp, ⟨rfl, rfl, rfl, by simp, fun k hk _ => RowKit.Below.heap_alloc w.drew _ k hk⟩, ⟨fun k => by simp [Slc.blks], fun k hk => ?_, ?_, ?_, ?_⟩, fun k hk => .inr (by omega)⟩) rfl
      · simp [Slc.blks] at hk; subst hk; simp
      · simp; omega
      · exact grownCap_ge w (bs.length + y.l) c e
      · intro j v hv
        refine ⟨_, rfl, ?_⟩
        rw [blk_add, cell_of_row _ w.heap.size j _ e (0, 0) (heap_alloc_new w.drew _)]
        rw [List.map_append] at hv
        have hj := (List.getElem?_eq_some_iff.1 hv).1
        rw [Array.getElem?_append, if_pos (by simp at hj ⊢; exact hj)]
        simpa using hv
/-- []byte of a row of one's own: its mark turns. -/
theorem Hp.cvB {t b n c : Nat} {bs : List UInt8} {K : World → Prop} (h2 : P.underlying t = some (.slice e)) (h3 : P.underlying e = some (.int .u8)) (hne : bs ≠ []) (H : Hp w0 w (star (Asn.own e 1 ⟨some (Vc.blk b), n, c⟩ (bs.map u8v)) F))
    (k : ∀ w', Hp w0 w' (star (Asn.rdp ⟨some (Vc.blk b), n, c⟩ bs) F) → K w') : CvB P t w (Slc.v ⟨some (Vc.blk b), n, c⟩) K := by
  have hO := H.isOwn (s := ⟨some (Vc.blk b), n, c⟩)
  obtain ⟨g, cur, ha, hB, h4, h5, h6, h7⟩ := hO.some_ (by simpa using hne)
  have hg : b = g := by injection ha with ha; injection ha
  subst hg
  have hB : w.heap[b]? = some (.cells cur e (0, 0)) := hB
  have hlt : b < w.heap.size := (Array.getElem?_eq_some_iff.1 hB).1
  have hsh : w.shape? b = some (e, cur.size) := by simp [World.shape?, hB]
  have hat : (w.freeze ⟨b, cur.size, none⟩ 1).heap[b]? = some (.cells cur e (cur.size, cur.size + 1)) := by
    simp [World.freeze, Array.getElem?_modify, hB]
  have hoth : ∀ k, k ≠ b → (w.freeze ⟨b, cur.size, none⟩ 1).heap[k]? = w.heap[k]? := fun k hk => by
    simp [World.freeze, Array.getElem?_modify, Ne.symm hk]
  refine ⟨w.freeze ⟨b, cur.size, none⟩ 1, ?_, k _ (H.step fun S _ hp => ⟨[b], S, fun x hx => (hp.1 x).2 (by simpa [Slc.blks] using hx), ⟨by simp [World.freeze], by simp [World.freeze], by simp [World.freeze], by simp [World.freeze], fun x _ hx => hoth x (by simpa using hx)⟩, ⟨hp.1, fun x hx => ?_, ?_, ?_, fun i v hv => ?_⟩, fun x hx => .inl hx⟩)⟩
  · simp only [Slc.v, Vc.blk, convert, Sem.run_bind, run_underlying h2, run_underlying h3, Result.andThen, beq_self_eq_true]
    simp [markStringish, hsh, Result.andThen]
  · simp [Slc.blks] at hx; subst hx; simpa [World.freeze] using hlt
  · exact hO.1
  · exact h4
  · refine ⟨_, rfl, ?_⟩
    rw [blk_add, cell_of_row _ b i cur e _ hat]
    have := congrArg (fun l => l[i]?) h7
    simp only [Nat.mul_one, List.getElem?_take, Array.getElem?_toList] at this
    have hi : i < n := by
      have h8 := (List.getElem?_eq_some_iff.1 hv).1
      have h9 := hO.1
      simp at h8 h9
      omega
    rw [if_pos hi] at this
    rw [this, hv]
end
end Go.Vc
