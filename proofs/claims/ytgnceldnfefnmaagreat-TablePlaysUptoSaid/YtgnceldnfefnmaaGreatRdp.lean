/-
  Bytes that are there to be read, as a part; what is appended to the bytes of a string. Nothing of any program stands here.
-/
import Derived.Test.YtgnceldnfefnmaaGreatSep
import Derived.ArgAppend
import Derived.Deep.Upon
import Derived.Laws.Append
import Derived.Lib.ConvBytes
namespace Go.Vc
open Go Go.Vc.Asn
theorem byt_loc {w w' : World} {d : Slc} {bs : List UInt8} (h : Byt w d bs) (hb : ∀ k ∈ d.blks, w'.heap[k]? = w.heap[k]?) : Byt w' d bs :=
  ⟨Cel.len h, Cel.cap h, fun i v hv => by
    obtain ⟨p, hp, hc⟩ := Cel.at_ h i v hv
    refine ⟨p, hp, (World.cell?_of_block (hb _ ?_)).trans hc⟩
    rw [block_add]
    unfold Slc.blks
    rw [hp]
    simp⟩
def Asn.rdp (d : Slc) (bs : List UInt8) : Asn where
  p w S := (∀ k, S k ↔ k ∈ d.blks) ∧ (∀ k ∈ d.blks, k < w.heap.size) ∧ Byt w d bs
  loc := by
    rintro w w' S ⟨h1, h2, h3⟩ h
    have hb : ∀ k ∈ d.blks, w'.heap[k]? = w.heap[k]? := fun k hk => h k ((h1 k).2 hk)
    refine ⟨h1, fun k hk => ?_, byt_loc h3 hb⟩
    have e := hb k hk
    rw [Array.getElem?_eq_getElem (h2 k hk)] at e
    exact (Array.getElem?_eq_some_iff.1 e).1
  lt := by
    rintro w S ⟨h1, h2, h3⟩ k hk
    exact h2 k ((h1 k).1 hk)
theorem Hp.rdp {w0 w : World} {F : Asn} {d : Slc} {bs : List UInt8} (H : Hp w0 w (star (Asn.rdp d bs) F)) : Byt w d bs := by
  obtain ⟨_, S, _, S1, S2, _, _, ⟨_, _, h⟩, _⟩ := H
  exact h
section
variable {P : Program} {w0 w : World} {A F : Asn} {t1 t2 e : Nat}
theorem Hp.cvB {t b n c : Nat} {bs : List UInt8} {K : World → Prop} (h2 : P.underlying t = some (.slice e)) (h3 : P.underlying e = some (.int .u8)) (hne : bs ≠ []) (H : Hp w0 w (star (Asn.own e 1 ⟨some (Vc.blk b), n, c⟩ (bs.map u8v)) F))
    (k : ∀ w', Hp w0 w' (star (Asn.rdp ⟨some (Vc.blk b), n, c⟩ bs) F) → K w') : CvB P t w (Slc.v ⟨some (Vc.blk b), n, c⟩) K := by
  have hO := H.isOwn (s := ⟨some (Vc.blk b), n, c⟩)
  obtain ⟨g, cur, ha, hB, h4, h5, h6, h7⟩ := hO.some_ (by simpa using hne)
  have hg : b = g := by injection ha with ha; injection ha
  subst hg
  have hB : w.heap[b]? = some (.cells cur e (0, 0)) := hB
  have hlt : b < w.heap.size := (Array.getElem?_eq_some_iff.1 hB).1
  have hsh : w.shape? b = some (e, cur.size) := by simp [World.shape?, hB]
  have hat : (w.freeze ⟨b, cur.size, none⟩ 1).heap[b]? = some (.cells cur e (cur.size, cur.size + 1)) := by
    simp [World.freeze, Array.getElem?_modify, hB]
  have hoth : ∀ k, k ≠ b → (w.freeze ⟨b, cur.size, none⟩ 1).heap[k]? = w.heap[k]? := fun k hk => by
    simp [World.freeze, Array.getElem?_modify, Ne.symm hk]
  refine ⟨w.freeze ⟨b, cur.size, none⟩ 1, ?_, k _ (H.step fun S _ hp => ⟨[b], S, fun x hx => (hp.1 x).2 (by simpa [Slc.blks] using hx), ⟨by simp [World.freeze], by simp [World.freeze], by simp [World.freeze], by simp [World.freeze], fun x _ hx => hoth x (by simpa using hx)⟩, ⟨hp.1, fun x hx => ?_, ?_, ?_, fun i v hv => ?_⟩, fun x hx => .inl hx⟩)⟩
  · simp only [Slc.v, Vc.blk, convert, Sem.run_bind, run_underlying h2, run_underlying h3, Result.andThen, beq_self_eq_true]
    simp [markStringish, hsh, Result.andThen]
  · simp [Slc.blks] at hx; subst hx; simpa [World.freeze] using hlt
  · exact hO.1
  · exact h4
  · refine ⟨_, rfl, ?_⟩
    rw [blk_add, cell_of_row _ b i cur e _ hat]
    have := congrArg (fun l => l[i]?) h7
    simp only [Nat.mul_one, List.getElem?_take, Array.getElem?_toList] at this
    have hi : i < n := by
      have h8 := (List.getElem?_eq_some_iff.1 hv).1
      have h9 := hO.1
      simp at h8 h9
      omega
    rw [if_pos hi] at this
    rw [this, hv]
end
end Go.Vc
