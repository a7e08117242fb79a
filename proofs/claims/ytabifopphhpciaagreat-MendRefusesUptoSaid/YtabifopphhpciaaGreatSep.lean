/-
  Memory that a run has made for itself, part by part: each part has blocks of its own, so a step on one leaves the others. A contract names the parts that it takes; the rest is found by the search for instances. Nothing of any program stands here.
-/
import Derived.Test.YtabifopphhpciaaGreatOwn
namespace Go.Vc
open Go

/-- A part of the memory: what holds of a world and of the blocks that the part has. -/
structure Asn where
  p : World → (Nat → Prop) → Prop
  loc : ∀ {w w' : World} {S : Nat → Prop}, p w S → (∀ k, S k → w'.heap[k]? = w.heap[k]?) → p w' S
  lt : ∀ {w : World} {S : Nat → Prop}, p w S → ∀ k, S k → k < w.heap.size
namespace Asn
def emp : Asn := ⟨fun _ S => ∀ k, ¬ S k, fun h _ => h, fun h k hk => absurd hk (h k)⟩
def star (A B : Asn) : Asn where
  p w S := ∃ S1 S2 : Nat → Prop, (∀ k, S k ↔ S1 k ∨ S2 k) ∧ (∀ k, S1 k → ¬ S2 k) ∧ A.p w S1 ∧ B.p w S2
  loc := by
    rintro w w' S ⟨S1, S2, h1, h2, ha, hb⟩ h
    exact ⟨S1, S2, h1, h2, A.loc ha fun k hk => h k ((h1 k).2 (.inl hk)), B.loc hb fun k hk => h k ((h1 k).2 (.inr hk))⟩
  lt := by
    rintro w S ⟨S1, S2, h1, h2, ha, hb⟩ k hk
    rcases (h1 k).1 hk with h | h
    · exact A.lt ha k h
    · exact B.lt hb k h
def bk (g : Nat) (t : TypeId) (cs : Array Value) : Asn where
  p w S := (∀ k, S k ↔ k = g) ∧ Blk w g t cs
  loc := by
    rintro w w' S ⟨h1, h2⟩ h
    exact ⟨h1, (h g ((h1 g).2 rfl)).trans h2⟩
  lt := by
    rintro w S ⟨h1, h2⟩ k hk
    rw [(h1 k).1 hk]; exact h2.lt
theorem own_loc {e size : Nat} {w w' : World} {s : Slc} {cs : List Value} (h : Own e size w s cs) (hb : ∀ k ∈ s.blks, w'.heap[k]? = w.heap[k]?) : Own e size w' s cs := by
  refine ⟨h.1, ?_⟩
  rcases h.2 with h1 | ⟨g, cap, cur, h1, h2, h3, r⟩
  · exact .inl h1
  · refine .inr ⟨g, cap, cur, h1, h2, ?_, r⟩
    rw [hb g (by injection h1 with h4; unfold Slc.blks; rw [h4]; simp)]
    exact h3
def own (e size : Nat) (s : Slc) (cs : List Value) : Asn where
  p w S := (∀ k, S k ↔ k ∈ s.blks) ∧ Own e size w s cs
  loc := by
    rintro w w' S ⟨h1, h2⟩ h
    exact ⟨h1, own_loc h2 fun k hk => h k ((h1 k).2 hk)⟩
  lt := by
    rintro w S ⟨h1, h2⟩ k hk
    exact h2.lt k ((h1 k).1 hk)
/-- A part with what is known ahead of it. -/
def lift (φ : Prop) (A : Asn) : Asn := ⟨fun w S => φ ∧ A.p w S, fun h k => ⟨h.1, A.loc h.2 k⟩, fun h => A.lt h.2⟩
def ex {α : Type} (f : α → Asn) : Asn := ⟨fun w S => ∃ x, (f x).p w S, fun ⟨x, h⟩ k => ⟨x, (f x).loc h k⟩, fun ⟨x, h⟩ => (f x).lt h⟩
/-- An object of some kind: D is how its memory is. -/
def obj {α : Type} (D : Nat → α → Asn) (p : Nat) (x : α) : Asn := D p x
/-- A list of parts. -/
def all {α : Type} (f : α → Asn) : List α → Asn
  | [] => emp
  | x :: r => star (f x) (all f r)

/-- A gives B. -/
def Ent (A B : Asn) : Prop := ∀ w S, A.p w S → B.p w S
theorem Ent.refl (A : Asn) : Ent A A := fun _ _ h => h
theorem Ent.trans {A B C : Asn} (h : Ent A B) (k : Ent B C) : Ent A C := fun w S x => k w S (h w S x)
theorem Ent.star {A A' B B' : Asn} (h : Ent A A') (k : Ent B B') : Ent (star A B) (star A' B') := by
  rintro w S ⟨S1, S2, h1, h2, ha, hb⟩
  exact ⟨S1, S2, h1, h2, h _ _ ha, k _ _ hb⟩
theorem comm {A B : Asn} : Ent (star A B) (star B A) := by
  rintro w S ⟨S1, S2, h1, h2, ha, hb⟩
  exact ⟨S2, S1, fun k => (h1 k).trans Or.comm, fun k h h' => h2 k h' h, hb, ha⟩
theorem assoc {A B C : Asn} : Ent (star (star A B) C) (star A (star B C)) := by
  rintro w S ⟨S1, S2, h1, h2, ⟨T1, T2, g1, g2, ha, hb⟩, hc⟩
  refine ⟨T1, fun k => T2 k ∨ S2 k, fun k => ?_, fun k hk h => ?_, ha, T2, S2, fun k => Iff.rfl, fun k hk => h2 k ((g1 k).2 (.inr hk)), hb, hc⟩
  · rw [h1 k, g1 k, or_assoc]
  · rcases h with h | h
    · exact g2 k hk h
    · exact h2 k ((g1 k).2 (.inl hk)) h
theorem assoc' {A B C : Asn} : Ent (star A (star B C)) (star (star A B) C) := by
  rintro w S ⟨S1, S2, h1, h2, ha, T1, T2, g1, g2, hb, hc⟩
  refine ⟨fun k => S1 k ∨ T1 k, T2, fun k => ?_, fun k hk h => ?_, ⟨S1, T1, fun k => Iff.rfl, fun k hk h => h2 k hk ((g1 k).2 (.inl h)), ha, hb⟩, hc⟩
  · rw [h1 k, g1 k, or_assoc]
  · rcases hk with hk | hk
    · exact h2 k hk ((g1 k).2 (.inr h))
    · exact g2 k hk h
theorem left {A B C : Asn} : Ent (star A (star B C)) (star B (star A C)) := assoc'.trans ((Ent.star comm (Ent.refl C)).trans assoc)
theorem emp_r {A : Asn} : Ent A (star A emp) := fun w S h => ⟨S, fun _ => False, fun k => by simp, fun k _ h => h, h, fun _ h => h⟩
theorem emp_l {A : Asn} : Ent A (star emp A) := emp_r.trans comm
theorem emp_l' {A : Asn} : Ent (star emp A) A := by
  rintro w S ⟨S1, S2, h1, h2, ha, hb⟩
  have : S = S2 := funext fun k => propext ((h1 k).trans ⟨fun h => h.elim (fun h => absurd h (ha k)) id, .inr⟩)
  rw [this]; exact hb
theorem emp_r' {A : Asn} : Ent (star A emp) A := comm.trans emp_l'
end Asn
open Asn

/-- The run has these parts (all made since w0); what was there then is as it was. -/
structure Hp (w0 w : World) (A : Asn) : Prop where
  fr : Fr [] w0 w
  has : ∃ S : Nat → Prop, (∀ k, S k → w0.heap.size ≤ k) ∧ A.p w S

/-! ## The search -/
class Take (P A : Asn) (F : outParam Asn) : Prop where
  e : Ent A (star P F)
instance (priority := 2000) take_here (P F : Asn) : Take P (star P F) F := ⟨Ent.refl _⟩
instance (priority := 1500) take_assoc (P X Y Z F : Asn) [h : Take P (star X (star Y Z)) F] : Take P (star (star X Y) Z) F := ⟨assoc.trans h.e⟩
instance (priority := 1000) take_there (P B A F : Asn) [h : Take P A F] : Take P (star B A) (star B F) := ⟨(Ent.star (Ent.refl B) h.e).trans left⟩
instance (priority := 500) take_last (P : Asn) : Take P P emp := ⟨emp_r⟩
class TakeB (b : Nat) (A : Asn) (t : outParam TypeId) (cs : outParam (Array Value)) (F : outParam Asn) : Prop where
  e : Ent A (star (bk b t cs) F)
instance (priority := 2000) takeB_here (b : Nat) (t : TypeId) (cs : Array Value) (F : Asn) : TakeB b (star (bk b t cs) F) t cs F := ⟨Ent.refl _⟩
instance (priority := 1500) takeB_assoc (b : Nat) (t : TypeId) (cs : Array Value) (X Y Z F : Asn) [h : TakeB b (star X (star Y Z)) t cs F] : TakeB b (star (star X Y) Z) t cs F := ⟨assoc.trans h.e⟩
instance (priority := 1000) takeB_there (b : Nat) (t : TypeId) (cs : Array Value) (B A F : Asn) [h : TakeB b A t cs F] : TakeB b (star B A) t cs (star B F) := ⟨(Ent.star (Ent.refl B) h.e).trans left⟩
instance (priority := 500) takeB_last (b : Nat) (t : TypeId) (cs : Array Value) : TakeB b (bk b t cs) t cs emp := ⟨emp_r⟩
class TakeS (s : Slc) (A : Asn) (e : outParam Nat) (size : outParam Nat) (cs : outParam (List Value)) (F : outParam Asn) : Prop where
  e : Ent A (star (own e size s cs) F)
instance (priority := 2000) takeS_here (s : Slc) (e size : Nat) (cs : List Value) (F : Asn) : TakeS s (star (own e size s cs) F) e size cs F := ⟨Ent.refl _⟩
instance (priority := 1500) takeS_assoc (s : Slc) (e size : Nat) (cs : List Value) (X Y Z F : Asn) [h : TakeS s (star X (star Y Z)) e size cs F] : TakeS s (star (star X Y) Z) e size cs F := ⟨assoc.trans h.e⟩
instance (priority := 1000) takeS_there (s : Slc) (e size : Nat) (cs : List Value) (B A F : Asn) [h : TakeS s A e size cs F] : TakeS s (star B A) e size cs (star B F) := ⟨(Ent.star (Ent.refl B) h.e).trans left⟩
instance (priority := 500) takeS_last (s : Slc) (e size : Nat) (cs : List Value) : TakeS s (own e size s cs) e size cs emp := ⟨emp_r⟩
class TakeO {α : Type} (D : Nat → α → Asn) (p : Nat) (A : Asn) (x : outParam α) (F : outParam Asn) : Prop where
  e : Ent A (star (obj D p x) F)
instance (priority := 2000) takeO_here {α : Type} (D : Nat → α → Asn) (p : Nat) (x : α) (F : Asn) : TakeO D p (star (obj D p x) F) x F := ⟨Ent.refl _⟩
instance (priority := 1500) takeO_assoc {α : Type} (D : Nat → α → Asn) (p : Nat) (x : α) (X Y Z F : Asn) [h : TakeO D p (star X (star Y Z)) x F] : TakeO D p (star (star X Y) Z) x F := ⟨assoc.trans h.e⟩
instance (priority := 1000) takeO_there {α : Type} (D : Nat → α → Asn) (p : Nat) (x : α) (B A F : Asn) [h : TakeO D p A x F] : TakeO D p (star B A) x (star B F) := ⟨(Ent.star (Ent.refl B) h.e).trans left⟩
instance (priority := 500) takeO_last {α : Type} (D : Nat → α → Asn) (p : Nat) (x : α) : TakeO D p (obj D p x) x emp := ⟨emp_r⟩

section
variable {w0 w w' : World} {A B F P : Asn}
theorem Hp.ent (H : Hp w0 w A) (h : Ent A B) : Hp w0 w B := ⟨H.fr, let ⟨S, h1, h2⟩ := H.has; ⟨S, h1, h _ _ h2⟩⟩
theorem Hp.take (P : Asn) [h : Take P A F] (H : Hp w0 w A) : Hp w0 w (star P F) := H.ent h.e
theorem Hp.blk (b : Nat) {t : TypeId} {cs : Array Value} [h : TakeB b A t cs F] (H : Hp w0 w A) : Hp w0 w (star (bk b t cs) F) := H.ent h.e
theorem Hp.own (s : Slc) {e size : Nat} {cs : List Value} [h : TakeS s A e size cs F] (H : Hp w0 w A) : Hp w0 w (star (Asn.own e size s cs) F) := H.ent h.e
theorem Hp.obj {α : Type} (D : Nat → α → Asn) (p : Nat) {x : α} [h : TakeO D p A x F] (H : Hp w0 w A) : Hp w0 w (star (Asn.obj D p x) F) := H.ent h.e
/-- An object opened, and closed. -/
theorem Hp.open_ {α : Type} {D : Nat → α → Asn} {p : Nat} {x : α} (H : Hp w0 w (star (Asn.obj D p x) F)) : Hp w0 w (star (D p x) F) := H
theorem Hp.start (w : World) : Hp w w emp := ⟨Fr.refl _ _, fun _ => False, fun _ h => h.elim, fun _ h => h⟩
theorem Hp.fr0 (H : Hp w0 w A) (f : Fr [] w w') : Hp w0 w' A := by
  obtain ⟨S, h1, h2⟩ := H.has
  exact ⟨H.fr.then_ f, S, h1, A.loc h2 fun k hk => f.block k (A.lt h2 k hk) (by simp)⟩
theorem Hp.drew (H : Hp w0 w A) (n : Nat) : Hp w0 (w.drewN n) A := by
  obtain ⟨S, h1, h2⟩ := H.has
  exact ⟨H.fr.drewN n, S, h1, A.loc h2 fun k hk => rfl⟩
theorem Hp.drop (H : Hp w0 w (star P F)) : Hp w0 w F := by
  obtain ⟨S, h1, S1, S2, g1, g2, ha, hb⟩ := H.has
  exact ⟨H.fr, S2, fun k hk => h1 k ((g1 k).2 (.inr hk)), hb⟩
theorem Hp.ex {α : Type} {f : α → Asn} (H : Hp w0 w (star (Asn.ex f) F)) : ∃ x, Hp w0 w (star (f x) F) := by
  obtain ⟨fr, S, h1, S1, S2, g1, g2, ⟨x, ha⟩, hb⟩ := H
  exact ⟨x, fr, S, h1, S1, S2, g1, g2, ha, hb⟩
theorem Hp.exI {α : Type} {f : α → Asn} (x : α) (H : Hp w0 w (star (f x) F)) : Hp w0 w (star (Asn.ex f) F) := by
  obtain ⟨fr, S, h1, S1, S2, g1, g2, ha, hb⟩ := H
  exact ⟨fr, S, h1, S1, S2, g1, g2, ⟨x, ha⟩, hb⟩
theorem Hp.lift {φ : Prop} (H : Hp w0 w (star (Asn.lift φ P) F)) : φ ∧ Hp w0 w (star P F) := by
  obtain ⟨fr, S, h1, S1, S2, g1, g2, ⟨h, ha⟩, hb⟩ := H
  exact ⟨h, fr, S, h1, S1, S2, g1, g2, ha, hb⟩
theorem Hp.liftI {φ : Prop} (h : φ) (H : Hp w0 w (star P F)) : Hp w0 w (star (Asn.lift φ P) F) := by
  obtain ⟨fr, S, h1, S1, S2, g1, g2, ha, hb⟩ := H
  exact ⟨fr, S, h1, S1, S2, g1, g2, ⟨h, ha⟩, hb⟩
theorem Hp.assoc {X Y Z : Asn} (H : Hp w0 w (star (star X Y) Z)) : Hp w0 w (star X (star Y Z)) := H.ent Asn.assoc
theorem Hp.assoc' {X Y Z : Asn} (H : Hp w0 w (star X (star Y Z))) : Hp w0 w (star (star X Y) Z) := H.ent Asn.assoc'
theorem Hp.swap {X Y Z : Asn} (H : Hp w0 w (star X (star Y Z))) : Hp w0 w (star Y (star X Z)) := H.ent Asn.left
/-- From a world between. -/
theorem Hp.from {w1 : World} (f : Fr [] w0 w1) (H : Hp w1 w A) : Hp w0 w A := ⟨f.then_ H.fr, let ⟨S, h1, h2⟩ := H.has; ⟨S, fun k hk => Nat.le_trans f.size (h1 k hk), h2⟩⟩
/-- A part that a callee has made since w1 beside those that were there. -/
theorem Hp.beside {w1 : World} (H : Hp w0 w1 F) (K : Hp w1 w P) : Hp w0 w (star P F) := by
  have hF := H.fr0 K.fr
  obtain ⟨S, h1, h2⟩ := H.has
  obtain ⟨T, k1, k2⟩ := K.has
  refine ⟨hF.fr, fun k => T k ∨ S k, fun k hk => ?_, T, S, fun k => Iff.rfl, fun k hk hs => ?_, k2, F.loc h2 fun k hk => K.fr.block k (F.lt h2 k hk) (by simp)⟩
  · rcases hk with hk | hk
    · exact Nat.le_trans H.fr.size (k1 k hk)
    · exact h1 k hk
  · have := k1 k hk
    have := F.lt h2 k hs
    omega
theorem Hp.join {w1 : World} (H : Hp w0 w1 F) (K : Hp w1 w (star P Asn.emp)) : Hp w0 w (star P F) := H.beside (K.ent emp_r')
/-- A step that turns only the blocks of one part. -/
theorem Hp.step {P' : Asn} (H : Hp w0 w (star P F)) (h : ∀ S, (∀ k, S k → w0.heap.size ≤ k) → P.p w S → ∃ (l : List Nat) (S' : Nat → Prop), (∀ k ∈ l, S k) ∧ Fr l w w' ∧ P'.p w' S' ∧ ∀ k, S' k → S k ∨ w.heap.size ≤ k) : Hp w0 w' (star P' F) := by
  obtain ⟨fr, S, h1, S1, S2, g1, g2, ha, hb⟩ := H
  obtain ⟨l, S', k1, k2, k3, k4⟩ := h S1 (fun k hk => h1 k ((g1 k).2 (.inl hk))) ha
  refine ⟨fr.local_ k2 fun k hk => .inr (h1 k ((g1 k).2 (.inl (k1 k hk)))), fun k => S' k ∨ S2 k, fun k hk => ?_, S', S2, fun k => Iff.rfl, fun k hk hs => ?_, k3, F.loc hb fun k hk => k2.block k (F.lt hb k hk) fun hx => g2 k (k1 k hx) hk⟩
  · rcases hk with hk | hk
    · rcases k4 k hk with h | h
      · exact h1 k ((g1 k).2 (.inl h))
      · exact Nat.le_trans fr.size h
    · exact h1 k ((g1 k).2 (.inr hk))
  · rcases k4 k hk with h | h
    · exact g2 k h hs
    · have := F.lt hb k hs
      omega
end

/-! ## The steps -/
section
variable {w0 w : World} {A F : Asn}
theorem Hp.new (H : Hp w0 w A) {cs : Array Value} {t : TypeId} {K : Nat → World → Prop} (k : ∀ b w', Hp w0 w' (star (bk b t cs) A) → K b w') : New w cs t K :=
  New.intro fun b w' nb => k b w' (H.beside ⟨nb.fr, fun x => x = b, fun x hx => by rw [hx, nb.at_]; exact Nat.le_refl _, fun _ => Iff.rfl, nb.blk⟩)
section
variable {b : Nat} {t : TypeId} {cs : Array Value} [h : TakeB b A t cs F]
include h
theorem Hp.isBlk (H : Hp w0 w A) : Blk w b t cs := by
  obtain ⟨_, S, _, S1, S2, _, _, ⟨_, ha⟩, _⟩ := H.blk b
  exact ha
theorem Hp.cell (H : Hp w0 w A) {i : Nat} {v : Value} (hv : cs[i]? = some v) : w.cell? ((Vc.blk b).add i) = some v := H.isBlk.cell hv
theorem Hp.cell2 (H : Hp w0 w A) {i j : Nat} {v : Value} (hv : cs[i + j]? = some v) : w.cell? (((Vc.blk b).add i).add j) = some v := H.isBlk.cell2 hv
theorem Hp.cell3 (H : Hp w0 w A) {i j l : Nat} {v : Value} (hv : cs[i + j + l]? = some v) : w.cell? ((((Vc.blk b).add i).add j).add l) = some v := H.isBlk.cell3 hv
theorem Hp.set {w' : World} {cs' : Array Value} (H : Hp w0 w A) (hB : Blk w' b t cs') (f : Fr [b] w w') : Hp w0 w' (star (bk b t cs') F) :=
  (H.blk b).step fun S hS hp => ⟨[b], S, fun k hk => (hp.1 k).2 (by simpa using hk), f, ⟨hp.1, hB⟩, fun k hk => .inl hk⟩
theorem Hp.sto (H : Hp w0 w A) {i : Nat} (hi : i < cs.size) {v : Value} {K : World → Prop} (k : ∀ w', Hp w0 w' (star (bk b t (cs.setIfInBounds i v)) F) → K w') : Sto w ((Vc.blk b).add i) v K :=
  H.isBlk.sto hi fun w' hB f => k w' (H.set hB f)
theorem Hp.sto2 (H : Hp w0 w A) {i j : Nat} (hi : i + j < cs.size) {v : Value} {K : World → Prop} (k : ∀ w', Hp w0 w' (star (bk b t (cs.setIfInBounds (i + j) v)) F) → K w') : Sto w (((Vc.blk b).add i).add j) v K :=
  H.isBlk.sto2 hi fun w' hB f => k w' (H.set hB f)
theorem Hp.stoAll (H : Hp w0 w A) {vs : List Value} (hs : vs.length = cs.size) {K : World → Prop} (k : ∀ w', Hp w0 w' (star (bk b t vs.toArray) F) → K w') : StoN (Vc.blk b) 0 vs w K :=
  H.isBlk.stoAll hs fun w' hB f => k w' (H.set hB f)
end
section
variable {s : Slc} {e size : Nat} {cs : List Value} [h : TakeS s A e size cs F]
include h
theorem Hp.isOwn (H : Hp w0 w A) : Own e size w s cs := by
  obtain ⟨_, S, _, S1, S2, _, _, ⟨_, ha⟩, _⟩ := H.own s
  exact ha
theorem Hp.cel (H : Hp w0 w A) : Cel w s size cs := H.isOwn.cel
theorem Hp.app {P : Program} {t bytes ty : Nat} {z : Value} (T : SlT P t e size bytes z) {y : Slc} {ys : List Value} {K : Slc → World → Prop} (H : Hp w0 w A) (hy : Cel w y size ys)
    (h1 : ∀ u ∈ ys, u.oneCell' = true) (hm : s.l + y.l ≤ maxLen) (hb : (s.l + y.l) * bytes ≤ 140737488355328)
    (k : ∀ s' w', Hp w0 w' (star (Asn.own e size s' (cs ++ ys)) F) → s'.l = s.l + y.l → K s' w') : App P t t ty w s.v y.v K :=
  App.own T H.isOwn hy h1 hm hb fun s' w' hO hl f hblk => k s' w' ((H.own s).step fun S hS hp => ⟨s.blks, fun x => x ∈ s'.blks, fun k hk => (hp.1 k).2 hk, f, ⟨fun _ => Iff.rfl, hO⟩, fun k hk => by
    rcases hblk k hk with h | h
    · exact .inl ((hp.1 k).2 h)
    · exact .inr (by omega)⟩) hl
theorem Hp.stoS (H : Hp w0 w A) {i : Nat} (hi : i < cs.length) {p : Addr} (hp : s.a = some p) {v : Value} {K : World → Prop} (k : ∀ w', Hp w0 w' (star (Asn.own e size s (cs.set i v)) F) → K w') : Sto w (p.add i) v K :=
  H.isOwn.sto hi hp fun w' hO f => k w' ((H.own s).step fun S _hS hq => ⟨s.blks, S, fun k hk => (hq.1 k).2 hk, f, ⟨hq.1, hO⟩, fun _k hk => .inl hk⟩)
end
/-- A new row. -/
theorem Hp.row (H : Hp w0 w A) {e n : Nat} {b : Nat} {w' : World} {l : List Value} {size : Nat} {cs : Array Value} (nb : NewBlk w cs e b w') (hc : cs = l.toArray) (hn : n * size = l.length) (hm : n ≤ maxLen) : Hp w0 w' (star (Asn.own e size ⟨some (Vc.blk b), n, n⟩ l) A) :=
  H.beside ⟨nb.fr, fun x => x = b, fun x hx => by rw [hx, nb.at_]; exact Nat.le_refl _, fun x => by simp [Slc.blks], by subst hc; exact Own.made nb.blk hn hm⟩
theorem Hp.newRow (H : Hp w0 w A) {e n size : Nat} (l : List Value) {cs : Array Value} {K : Nat → World → Prop} (hc : cs = l.toArray) (hn : n * size = l.length) (hm : n ≤ maxLen) (k : ∀ b w', Hp w0 w' (star (Asn.own e size ⟨some (Vc.blk b), n, n⟩ l) A) → K b w') : New w cs e K :=
  New.intro fun b w' nb => k b w' (H.row nb hc hn hm)
theorem Hp.nilRow (H : Hp w0 w A) (e size : Nat) : Hp w0 w (star (Asn.own e size Slc.nil []) A) := by
  obtain ⟨fr, S, h1, h2⟩ := H
  exact ⟨fr, S, h1, fun _ => False, S, fun k => by simp, fun k h => h.elim, ⟨fun k => by simp [Slc.blks], Own.nil _ _ _⟩, h2⟩
end
theorem StoN.two {p : Addr} {v1 v2 : Value} {w : World} {K : World → Prop} (h : Sto w (p.add 0) v1 fun w' => Sto w' (p.add 1) v2 K) : StoN p 0 [v1, v2] w K := h
theorem ToStrD.rule {P : Program} {t1 t2 e : Nat} {w : World} {s : Slc} {bs : List UInt8} {K : ByteArray → Prop} (h1 : P.underlying t1 = some (.slice e)) (h2 : P.underlying t2 = some .string) (h3 : P.underlying e = some (.int .u8)) (hb : Byt w s bs) (k : K ⟨bs.toArray⟩) : ToStrD P t1 t2 w s.v K :=
  ⟨⟨bs.toArray⟩, fun n => by
    obtain ⟨z, hr, rfl⟩ := ToStr.rule (K := fun z => z = ⟨bs.toArray⟩) h1 h2 h3 (hb.fr0 ((Hp.start w).drew n).fr) rfl
    exact hr, k⟩
end Go.Vc
