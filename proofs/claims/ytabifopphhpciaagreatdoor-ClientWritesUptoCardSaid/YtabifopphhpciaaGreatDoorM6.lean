/-
  The conditions give the machine's calls; printed by vcgen.py.
-/
import Derived.Test.YtabifopphhpciaaGreatDoorRecVc
import Derived.Test.YtabifopphhpciaaGreatDoorM5
import Derived.Test.YtabifopphhpciaaGreatDoorM1
import Derived.Maps.RangeRun
import Derived.MapKept
import Derived.Shelf.SlMaps.Clone
import Derived.Sort.Row
import Derived.Sort.Grow
import Derived.Sort.EncStr
import Derived.Shelf.Sort.Plain
import Derived.Shelf.Slices.In.SortNone
import Derived.Ground.NamesProg
import Derived.Test.YtabifopphhpciaaGreatDoorProg
import Derived.Shelf.SlGeneric
import Derived.Ground.SlmcProg
namespace Go.Proofs.YtabifopphhpciaaGreatDoor
open Go Go.Vc
open Go.Vc.Ex
set_option maxRecDepth 100000
set_option maxHeartbeats 4000000
theorem sim_slices_IndexFunc_byte_byte_147 (s1 : Slc) (f2 : Value) (w : World) (Q : Ending → World → Prop) (h : vc_slices_IndexFunc_byte_byte_147 s1 f2 w Q) : Calls PP F_slices_IndexFunc_byte_byte_147 #[(Slc.v s1), f2] w Q := exo (vs := [.l (.c s1), .l (.v f2)]) (nx := 0) (by kernel_rfl) rfl h

theorem sim_code_Code_Decode (c1 : Option Addr) (p2 : Slc) (w : World) (Q : Ending → World → Prop) (h : vc_code_Code_Decode c1 p2 w Q) : Calls PP F_code_Code_Decode #[(.pointer c1), (Slc.v p2)] w Q := exo (vs := [.l (.p 0 c1), .l (.c p2)]) (nx := 1) (by kernel_rfl) rfl h

theorem sim_stripe_why (w1 : ByteArray) (e2 : Int) (w : World) (Q : Ending → World → Prop) (h : vc_stripe_why w1 e2 w Q) : Calls PP F_stripe_why #[(.string w1), (.int .i64 e2)] w Q := exo (vs := [.l (.s w1), .l (.i .i64 false e2)]) (nx := 0) (by kernel_rfl) rfl h

theorem sim_stripe_number (e1 : Value) (w : World) (Q : Ending → World → Prop) (h : vc_stripe_number e1 w Q) : Calls PP F_stripe_number #[e1] w Q := exo (vs := [.l (.v e1)]) (nx := 0) (by kernel_rfl) rfl h

theorem sim_stripe_whole (r1 : Slc) (w : World) (Q : Ending → World → Prop) (h : vc_stripe_whole r1 w Q) : Calls PP F_stripe_whole #[(Slc.v r1)] w Q := exo (vs := [.l (.c r1)]) (nx := 0) (by kernel_rfl) rfl h

theorem sim_code_Code_refused (c1 : Option Addr) (p2 : Slc) (w : World) (Q : Ending → World → Prop) (h : vc_code_Code_refused c1 p2 w Q) : Calls PP F_code_Code_refused #[(.pointer c1), (Slc.v p2)] w Q := exo (vs := [.l (.p 0 c1), .l (.c p2)]) (nx := 1) (by kernel_rfl) rfl h

theorem sim_matrix_New (f1 : Option Addr) (r2 : Slc) (w : World) (Q : Ending → World → Prop) (h : vc_matrix_New f1 r2 w Q) : Calls PP F_matrix_New #[(.pointer f1), (Slc.v r2)] w Q := exo (vs := [.l (.p 0 f1), .l (.c r2)]) (nx := 1) (by kernel_rfl) rfl h

theorem sim_slices_Equal (s1 s2 : Slc) (w : World) (Q : Ending → World → Prop) (h : vc_slices_Equal s1 s2 w Q) : Calls PP F_slices_Equal #[(Slc.v s1), (Slc.v s2)] w Q := exo (vs := [.l (.c s1), .l (.c s2)]) (nx := 0) (by kernel_rfl) rfl h

theorem sim_slices_Concat (s1 : Slc) (w : World) (Q : Ending → World → Prop) (h : vc_slices_Concat s1 w Q) : Calls PP F_slices_Concat #[(Slc.v s1)] w Q := exo (vs := [.l (.c s1)]) (nx := 0) (by kernel_rfl) rfl h

theorem sim_slices_ContainsFunc_byte_byte (s1 : Slc) (f2 : Value) (w : World) (Q : Ending → World → Prop) (h : vc_slices_ContainsFunc_byte_byte s1 f2 w Q) : Calls PP F_slices_ContainsFunc_byte_byte #[(Slc.v s1), f2] w Q := exo (vs := [.l (.c s1), .l (.v f2)]) (nx := 0) (by kernel_rfl) rfl h

theorem sim_stripe_whole_c1 (b1 : Int) (w : World) (Q : Ending → World → Prop) (h : vc_stripe_whole_c1 b1 w Q) : Calls PP F_stripe_whole_c1 #[(.int .u8 b1)] w Q := exo (vs := [.l (.i .u8 false b1)]) (nx := 0) (by kernel_rfl) rfl h

theorem sim_slices_Clone (s1 : Slc) (w : World) (Q : Ending → World → Prop) (h : vc_slices_Clone s1 w Q) : Calls PP F_slices_Clone #[(Slc.v s1)] w Q := exo (vs := [.l (.c s1)]) (nx := 0) (by kernel_rfl) rfl h

theorem sim_slices_ContainsFunc_api_Part_api_Part (s1 : Slc) (f2 : Value) (w : World) (Q : Ending → World → Prop) (h : vc_slices_ContainsFunc_api_Part_api_Part s1 f2 w Q) : Calls PP F_slices_ContainsFunc_api_Part_api_Part #[(Slc.v s1), f2] w Q := exo (vs := [.l (.c s1), .l (.v f2)]) (nx := 0) (by kernel_rfl) rfl h

theorem sim_code_Code_refused_c1 (I1 : Int) (D2 : Slc) (c3 : Addr) (w : World) (Q : Ending → World → Prop) (h : vc_code_Code_refused_c1 I1 D2 c3 w Q) : Calls PP F_code_Code_refused_c1 #[(.agg #[(.int .i64 I1), (Slc.v D2)]), (.pointer (some c3))] w Q := exo (vs := [.g [.i .i64 false I1, .c D2], .l (.a none c3)]) (nx := 0) (by kernel_rfl) rfl h

theorem sim_matrix_New_c1 (r1 : Slc) (c2 : Addr) (w : World) (Q : Ending → World → Prop) (h : vc_matrix_New_c1 r1 c2 w Q) : Calls PP F_matrix_New_c1 #[(Slc.v r1), (.pointer (some c2))] w Q := exo (vs := [.l (.c r1), .l (.a none c2)]) (nx := 0) (by kernel_rfl) rfl h

theorem sim_slices_Grow (s1 : Slc) (n2 : Int) (w : World) (Q : Ending → World → Prop) (h : vc_slices_Grow s1 n2 w Q) : Calls PP F_slices_Grow #[(Slc.v s1), (.int .i64 n2)] w Q := exo (vs := [.l (.c s1), .l (.i .i64 false n2)]) (nx := 0) (by kernel_rfl) rfl h

theorem sim_slices_IndexFunc_byte_byte (s1 : Slc) (f2 : Value) (w : World) (Q : Ending → World → Prop) (h : vc_slices_IndexFunc_byte_byte s1 f2 w Q) : Calls PP F_slices_IndexFunc_byte_byte #[(Slc.v s1), f2] w Q := exo (vs := [.l (.c s1), .l (.v f2)]) (nx := 0) (by kernel_rfl) rfl h

theorem sim_slices_IndexFunc_api_Part_api_Part (s1 : Slc) (f2 : Value) (w : World) (Q : Ending → World → Prop) (h : vc_slices_IndexFunc_api_Part_api_Part s1 f2 w Q) : Calls PP F_slices_IndexFunc_api_Part_api_Part #[(Slc.v s1), f2] w Q := exo (vs := [.l (.c s1), .l (.v f2)]) (nx := 0) (by kernel_rfl) rfl h

theorem sim_stripe_refusal_Unwrap (r1 : Option Addr) (w : World) (Q : Ending → World → Prop) (h : vc_stripe_refusal_Unwrap r1 w Q) : Calls PP F_stripe_refusal_Unwrap #[(.pointer r1)] w Q := exo (vs := [.l (.p 0 r1)]) (nx := 1) (by kernel_rfl) rfl h
end Go.Proofs.YtabifopphhpciaaGreatDoor


namespace Go.Vc
open Go
section
variable {P : Program} {e size : Nat} {w w' : World} {s s' : Slc} {cs ds : List Value}
theorem Own.some_ (h : Own e size w s cs) (hz : cs ≠ []) : ∃ g cur, s.a = some (blk g) ∧ Blk w g e cur ∧ s.l ≤ s.c ∧ s.c ≤ maxLen ∧ cur.size = s.c * size ∧ cur.toList.take (s.l * size) = cs := by
  rcases h.2 with ⟨_, h2⟩ | ⟨g, cap, cur, h1, _, h3, h4, h5, h6, h7⟩
  · exact absurd (List.eq_nil_of_length_eq_zero (by rw [h.1, h2]; simp)) hz
  · injection h1 with h8 h9 h10
    subst h10
    exact ⟨g, cur, h8, h3, h4, h5, h6, h7⟩
theorem Own.sto (h : Own e size w s cs) {i : Nat} (hi : i < cs.length) {p : Addr} (hp : s.a = some p) {v : Value} {K : World → Prop} (k : ∀ w', Own e size w' s (cs.set i v) → Fr s.blks w w' → K w') : Sto w (p.add i) v K := by
  obtain ⟨g, cur, h1, h2, h3, h4, h5, h6⟩ := h.some_ (by intro h0; rw [h0] at hi; simp at hi)
  rw [h1] at hp
  injection hp with hp
  subst hp
  have hc : i < cur.size := by
    have := congrArg List.length h6
    simp at this
    omega
  refine h2.sto hc fun w' hB hF => k w' ⟨by rw [List.length_set]; exact h.1, .inr ⟨g, s.c, _, by simp only [Slc.v, h1], Nat.zero_le _, hB, h3, h4, by simpa using h5, ?_⟩⟩ ?_
  · rw [Array.toList_setIfInBounds, ← h6, List.take_set]
  · unfold Slc.blks
    rw [h1]
    exact hF
theorem Own.apart {e' size' : Nat} (h : Own e size w s cs) (h' : Own e' size' w s' ds) (hne : e ≠ e') : ∀ k ∈ s.blks, k ∉ s'.blks := by
  intro k hk hk'
  rcases h.2 with ⟨h1, _⟩ | ⟨g, cap, cur, h1, _, h3, _⟩
  · injection h1 with h8
    unfold Slc.blks at hk; rw [h8] at hk; simp at hk
  · injection h1 with h8
    unfold Slc.blks at hk; rw [h8] at hk; simp at hk
    subst hk
    exact h'.ne (t := e) h3 (Ne.symm hne) hk'
theorem Own.ahead {n : Nat} (h : Own e size w s cs) (ha : s'.a = s.a) (hc : s'.c = s.c) (hl : s'.l = n) (hn : n ≤ s.l) : Own e size w s' (cs.take (n * size)) := by
  subst hl
  obtain ⟨a, l, c⟩ := s
  obtain ⟨a', l', c'⟩ := s'
  simp only at ha hc hn
  subst ha hc
  have hlen := h.1
  simp only at hlen
  have hm : l' * size ≤ l * size := Nat.mul_le_mul_right _ hn
  refine ⟨by simp; omega, ?_⟩
  rcases h.2 with ⟨h1, h2⟩ | ⟨g, cap, cur, h1, h2, h3, h4, h5, h6, h7⟩
  · injection h1 with h8 h9 h10
    simp only at h2 h8 h10
    have : l' = 0 := by omega
    subst this h8 h10
    exact .inl ⟨rfl, rfl⟩
  · injection h1 with h8 h9 h10
    subst h10
    simp only at h8
    subst h8
    refine .inr ⟨g, _, cur, rfl, h2, h3, by simp only at h4; simp only; omega, h5, h6, ?_⟩
    simp only at h7 ⊢
    rw [← h7, List.take_take, Nat.min_eq_left hm]
end
end Go.Vc
namespace Go.Vc
open Go
theorem Blk.stoN {g : Nat} {t : TypeId} {K : World → Prop} : ∀ (l : List Value) (i : Nat) (cs : Array Value) (w : World), Blk w g t cs → i + l.length = cs.size → (∀ w', Blk w' g t (cs.toList.take i ++ l).toArray → Fr [g] w w' → K w') → StoN (Vc.blk g) i l w K
  | [], i, cs, w, h, hi, k => by
    refine k w ?_ (Fr.refl _ _)
    rw [List.append_nil, List.take_of_length_le (by simp at hi; simp; omega)]
    exact h
  | v :: r, i, cs, w, h, hi, k => by
    simp at hi
    refine ⟨by rw [h.cell (v := cs[i]) (Array.getElem?_eq_getElem (by omega))]; rfl, h.frz i, ?_⟩
    refine Blk.stoN r (i + 1) _ _ (h.set i v) (by simp; omega) fun w' hB hF => k w' ?_ ?_
    · have e : (cs.setIfInBounds i v).toList.take (i + 1) ++ r = cs.toList.take i ++ v :: r := by
        rw [Array.toList_setIfInBounds, List.take_succ_eq_append_getElem (by simp; omega), List.take_set_of_le (Nat.le_refl _)]
        simp
      rw [e] at hB
      exact hB
    · have := Fr.set w ((Vc.blk g).add i) v
      rw [show ((Vc.blk g).add i).block = g by rw [blk_add]] at this
      exact this.local_ hF fun _ hx => .inl hx
theorem Blk.stoAll {g : Nat} {t : TypeId} {cs : Array Value} {w : World} {l : List Value} {K : World → Prop} (h : Blk w g t cs) (hl : l.length = cs.size) (k : ∀ w', Blk w' g t l.toArray → Fr [g] w w' → K w') : StoN (Vc.blk g) 0 l w K :=
  Blk.stoN l 0 cs w h (by omega) fun w' hB hF => k w' (by simpa using hB) hF
end Go.Vc
namespace Go.Vc
open Go
section
variable {w w' : World} {g : Nat} {t : TypeId} {cs : Array Value} {S : List Nat}
end
end Go.Vc

namespace Go.Vc
open Go

structure Asn where
  p : World → (Nat → Prop) → Prop
  loc : ∀ {w w' : World} {S : Nat → Prop}, p w S → (∀ k, S k → w'.heap[k]? = w.heap[k]?) → p w' S
  lt : ∀ {w : World} {S : Nat → Prop}, p w S → ∀ k, S k → k < w.heap.size
namespace Asn
def emp : Asn := ⟨fun _ S => ∀ k, ¬ S k, fun h _ => h, fun h k hk => absurd hk (h k)⟩
def star (A B : Asn) : Asn where
  p w S := ∃ S1 S2 : Nat → Prop, (∀ k, S k ↔ S1 k ∨ S2 k) ∧ (∀ k, S1 k → ¬ S2 k) ∧ A.p w S1 ∧ B.p w S2
  loc := by
    rintro w w' S ⟨S1, S2, h1, h2, ha, hb⟩ h
    exact ⟨S1, S2, h1, h2, A.loc ha fun k hk => h k ((h1 k).2 (.inl hk)), B.loc hb fun k hk => h k ((h1 k).2 (.inr hk))⟩
  lt := by
    rintro w S ⟨S1, S2, h1, h2, ha, hb⟩ k hk
    rcases (h1 k).1 hk with h | h
    · exact A.lt ha k h
    · exact B.lt hb k h
def bk (g : Nat) (t : TypeId) (cs : Array Value) : Asn where
  p w S := (∀ k, S k ↔ k = g) ∧ Blk w g t cs
  loc := by
    rintro w w' S ⟨h1, h2⟩ h
    exact ⟨h1, (h g ((h1 g).2 rfl)).trans h2⟩
  lt := by
    rintro w S ⟨h1, h2⟩ k hk
    rw [(h1 k).1 hk]; exact h2.lt
theorem own_loc {e size : Nat} {w w' : World} {s : Slc} {cs : List Value} (h : Own e size w s cs) (hb : ∀ k ∈ s.blks, w'.heap[k]? = w.heap[k]?) : Own e size w' s cs := by
  refine ⟨h.1, ?_⟩
  rcases h.2 with h1 | ⟨g, cap, cur, h1, h2, h3, r⟩
  · exact .inl h1
  · refine .inr ⟨g, cap, cur, h1, h2, ?_, r⟩
    rw [hb g (by injection h1 with h4; unfold Slc.blks; rw [h4]; simp)]
    exact h3
def own (e size : Nat) (s : Slc) (cs : List Value) : Asn where
  p w S := (∀ k, S k ↔ k ∈ s.blks) ∧ Own e size w s cs
  loc := by
    rintro w w' S ⟨h1, h2⟩ h
    exact ⟨h1, own_loc h2 fun k hk => h k ((h1 k).2 hk)⟩
  lt := by
    rintro w S ⟨h1, h2⟩ k hk
    exact h2.lt k ((h1 k).1 hk)
def ex {α : Type} (f : α → Asn) : Asn := ⟨fun w S => ∃ x, (f x).p w S, fun ⟨x, h⟩ k => ⟨x, (f x).loc h k⟩, fun ⟨x, h⟩ => (f x).lt h⟩
def obj {α : Type} (D : Nat → α → Asn) (p : Nat) (x : α) : Asn := D p x
def all {α : Type} (f : α → Asn) : List α → Asn
  | [] => emp
  | x :: r => star (f x) (all f r)

def Ent (A B : Asn) : Prop := ∀ w S, A.p w S → B.p w S
theorem Ent.refl (A : Asn) : Ent A A := fun _ _ h => h
theorem Ent.trans {A B C : Asn} (h : Ent A B) (k : Ent B C) : Ent A C := fun w S x => k w S (h w S x)
theorem Ent.star {A A' B B' : Asn} (h : Ent A A') (k : Ent B B') : Ent (star A B) (star A' B') := by
  rintro w S ⟨S1, S2, h1, h2, ha, hb⟩
  exact ⟨S1, S2, h1, h2, h _ _ ha, k _ _ hb⟩
theorem comm {A B : Asn} : Ent (star A B) (star B A) := by
  rintro w S ⟨S1, S2, h1, h2, ha, hb⟩
  exact ⟨S2, S1, fun k => (h1 k).trans Or.comm, fun k h h' => h2 k h' h, hb, ha⟩
theorem assoc {A B C : Asn} : Ent (star (star A B) C) (star A (star B C)) := by
  rintro w S ⟨S1, S2, h1, h2, ⟨T1, T2, g1, g2, ha, hb⟩, hc⟩
  refine ⟨T1, fun k => T2 k ∨ S2 k, fun k => ?_, fun k hk h => ?_, ha, T2, S2, fun k => Iff.rfl, fun k hk => h2 k ((g1 k).2 (.inr hk)), hb, hc⟩
  · rw [h1 k, g1 k, or_assoc]
  · rcases h with h | h
    · exact g2 k hk h
    · exact h2 k ((g1 k).2 (.inl hk)) h
theorem assoc' {A B C : Asn} : Ent (star A (star B C)) (star (star A B) C) := by
  rintro w S ⟨S1, S2, h1, h2, ha, T1, T2, g1, g2, hb, hc⟩
  refine ⟨fun k => S1 k ∨ T1 k, T2, fun k => ?_, fun k hk h => ?_, ⟨S1, T1, fun k => Iff.rfl, fun k hk h => h2 k hk ((g1 k).2 (.inl h)), ha, hb⟩, hc⟩
  · rw [h1 k, g1 k, or_assoc]
  · rcases hk with hk | hk
    · exact h2 k hk ((g1 k).2 (.inr h))
    · exact g2 k hk h
theorem left {A B C : Asn} : Ent (star A (star B C)) (star B (star A C)) := assoc'.trans ((Ent.star comm (Ent.refl C)).trans assoc)
theorem emp_r {A : Asn} : Ent A (star A emp) := fun w S h => ⟨S, fun _ => False, fun k => by simp, fun k _ h => h, h, fun _ h => h⟩
theorem emp_l {A : Asn} : Ent A (star emp A) := emp_r.trans comm
theorem emp_l' {A : Asn} : Ent (star emp A) A := by
  rintro w S ⟨S1, S2, h1, h2, ha, hb⟩
  have : S = S2 := funext fun k => propext ((h1 k).trans ⟨fun h => h.elim (fun h => absurd h (ha k)) id, .inr⟩)
  rw [this]; exact hb
theorem emp_r' {A : Asn} : Ent (star A emp) A := comm.trans emp_l'
end Asn
open Asn

structure Hp (w0 w : World) (A : Asn) : Prop where
  fr : Fr [] w0 w
  has : ∃ S : Nat → Prop, (∀ k, S k → w0.heap.size ≤ k) ∧ A.p w S

/-! ## The search -/
class Take (P A : Asn) (F : outParam Asn) : Prop where
  e : Ent A (star P F)
instance (priority := 2000) take_here (P F : Asn) : Take P (star P F) F := ⟨Ent.refl _⟩
instance (priority := 1500) take_assoc (P X Y Z F : Asn) [h : Take P (star X (star Y Z)) F] : Take P (star (star X Y) Z) F := ⟨assoc.trans h.e⟩
instance (priority := 1000) take_there (P B A F : Asn) [h : Take P A F] : Take P (star B A) (star B F) := ⟨(Ent.star (Ent.refl B) h.e).trans left⟩
instance (priority := 500) take_last (P : Asn) : Take P P emp := ⟨emp_r⟩
class TakeB (b : Nat) (A : Asn) (t : outParam TypeId) (cs : outParam (Array Value)) (F : outParam Asn) : Prop where
  e : Ent A (star (bk b t cs) F)
instance (priority := 2000) takeB_here (b : Nat) (t : TypeId) (cs : Array Value) (F : Asn) : TakeB b (star (bk b t cs) F) t cs F := ⟨Ent.refl _⟩
instance (priority := 1500) takeB_assoc (b : Nat) (t : TypeId) (cs : Array Value) (X Y Z F : Asn) [h : TakeB b (star X (star Y Z)) t cs F] : TakeB b (star (star X Y) Z) t cs F := ⟨assoc.trans h.e⟩
instance (priority := 1000) takeB_there (b : Nat) (t : TypeId) (cs : Array Value) (B A F : Asn) [h : TakeB b A t cs F] : TakeB b (star B A) t cs (star B F) := ⟨(Ent.star (Ent.refl B) h.e).trans left⟩
instance (priority := 500) takeB_last (b : Nat) (t : TypeId) (cs : Array Value) : TakeB b (bk b t cs) t cs emp := ⟨emp_r⟩
class TakeS (s : Slc) (A : Asn) (e : outParam Nat) (size : outParam Nat) (cs : outParam (List Value)) (F : outParam Asn) : Prop where
  e : Ent A (star (own e size s cs) F)
instance (priority := 2000) takeS_here (s : Slc) (e size : Nat) (cs : List Value) (F : Asn) : TakeS s (star (own e size s cs) F) e size cs F := ⟨Ent.refl _⟩
instance (priority := 1500) takeS_assoc (s : Slc) (e size : Nat) (cs : List Value) (X Y Z F : Asn) [h : TakeS s (star X (star Y Z)) e size cs F] : TakeS s (star (star X Y) Z) e size cs F := ⟨assoc.trans h.e⟩
instance (priority := 1000) takeS_there (s : Slc) (e size : Nat) (cs : List Value) (B A F : Asn) [h : TakeS s A e size cs F] : TakeS s (star B A) e size cs (star B F) := ⟨(Ent.star (Ent.refl B) h.e).trans left⟩
instance (priority := 500) takeS_last (s : Slc) (e size : Nat) (cs : List Value) : TakeS s (own e size s cs) e size cs emp := ⟨emp_r⟩
class TakeO {α : Type} (D : Nat → α → Asn) (p : Nat) (A : Asn) (x : outParam α) (F : outParam Asn) : Prop where
  e : Ent A (star (obj D p x) F)
instance (priority := 2000) takeO_here {α : Type} (D : Nat → α → Asn) (p : Nat) (x : α) (F : Asn) : TakeO D p (star (obj D p x) F) x F := ⟨Ent.refl _⟩
instance (priority := 1500) takeO_assoc {α : Type} (D : Nat → α → Asn) (p : Nat) (x : α) (X Y Z F : Asn) [h : TakeO D p (star X (star Y Z)) x F] : TakeO D p (star (star X Y) Z) x F := ⟨assoc.trans h.e⟩
instance (priority := 1000) takeO_there {α : Type} (D : Nat → α → Asn) (p : Nat) (x : α) (B A F : Asn) [h : TakeO D p A x F] : TakeO D p (star B A) x (star B F) := ⟨(Ent.star (Ent.refl B) h.e).trans left⟩
instance (priority := 500) takeO_last {α : Type} (D : Nat → α → Asn) (p : Nat) (x : α) : TakeO D p (obj D p x) x emp := ⟨emp_r⟩

section
variable {w0 w w' : World} {A B F P : Asn}
theorem Hp.ent (H : Hp w0 w A) (h : Ent A B) : Hp w0 w B := ⟨H.fr, let ⟨S, h1, h2⟩ := H.has; ⟨S, h1, h _ _ h2⟩⟩
theorem Hp.take (P : Asn) [h : Take P A F] (H : Hp w0 w A) : Hp w0 w (star P F) := H.ent h.e
theorem Hp.blk (b : Nat) {t : TypeId} {cs : Array Value} [h : TakeB b A t cs F] (H : Hp w0 w A) : Hp w0 w (star (bk b t cs) F) := H.ent h.e
theorem Hp.own (s : Slc) {e size : Nat} {cs : List Value} [h : TakeS s A e size cs F] (H : Hp w0 w A) : Hp w0 w (star (Asn.own e size s cs) F) := H.ent h.e
theorem Hp.obj {α : Type} (D : Nat → α → Asn) (p : Nat) {x : α} [h : TakeO D p A x F] (H : Hp w0 w A) : Hp w0 w (star (Asn.obj D p x) F) := H.ent h.e
theorem Hp.start (w : World) : Hp w w emp := ⟨Fr.refl _ _, fun _ => False, fun _ h => h.elim, fun _ h => h⟩
theorem Hp.fr0 (H : Hp w0 w A) (f : Fr [] w w') : Hp w0 w' A := by
  obtain ⟨S, h1, h2⟩ := H.has
  exact ⟨H.fr.then_ f, S, h1, A.loc h2 fun k hk => f.block k (A.lt h2 k hk) (by simp)⟩
theorem Hp.drew (H : Hp w0 w A) (n : Nat) : Hp w0 (w.drewN n) A := by
  obtain ⟨S, h1, h2⟩ := H.has
  exact ⟨H.fr.drewN n, S, h1, A.loc h2 fun k hk => rfl⟩
theorem Hp.drop (H : Hp w0 w (star P F)) : Hp w0 w F := by
  obtain ⟨S, h1, S1, S2, g1, g2, ha, hb⟩ := H.has
  exact ⟨H.fr, S2, fun k hk => h1 k ((g1 k).2 (.inr hk)), hb⟩
theorem Hp.ex {α : Type} {f : α → Asn} (H : Hp w0 w (star (Asn.ex f) F)) : ∃ x, Hp w0 w (star (f x) F) := by
  obtain ⟨fr, S, h1, S1, S2, g1, g2, ⟨x, ha⟩, hb⟩ := H
  exact ⟨x, fr, S, h1, S1, S2, g1, g2, ha, hb⟩
theorem Hp.exI {α : Type} {f : α → Asn} (x : α) (H : Hp w0 w (star (f x) F)) : Hp w0 w (star (Asn.ex f) F) := by
  obtain ⟨fr, S, h1, S1, S2, g1, g2, ha, hb⟩ := H
  exact ⟨fr, S, h1, S1, S2, g1, g2, ⟨x, ha⟩, hb⟩
theorem Hp.assoc {X Y Z : Asn} (H : Hp w0 w (star (star X Y) Z)) : Hp w0 w (star X (star Y Z)) := H.ent Asn.assoc
theorem Hp.assoc' {X Y Z : Asn} (H : Hp w0 w (star X (star Y Z))) : Hp w0 w (star (star X Y) Z) := H.ent Asn.assoc'
theorem Hp.swap {X Y Z : Asn} (H : Hp w0 w (star X (star Y Z))) : Hp w0 w (star Y (star X Z)) := H.ent Asn.left
theorem Hp.from {w1 : World} (f : Fr [] w0 w1) (H : Hp w1 w A) : Hp w0 w A := ⟨f.then_ H.fr, let ⟨S, h1, h2⟩ := H.has; ⟨S, fun k hk => Nat.le_trans f.size (h1 k hk), h2⟩⟩
theorem Hp.beside {w1 : World} (H : Hp w0 w1 F) (K : Hp w1 w P) : Hp w0 w (star P F) := by
  have hF := H.fr0 K.fr
  obtain ⟨S, h1, h2⟩ := H.has
  obtain ⟨T, k1, k2⟩ := K.has
  refine ⟨hF.fr, fun k => T k ∨ S k, fun k hk => ?_, T, S, fun k => Iff.rfl, fun k hk hs => ?_, k2, F.loc h2 fun k hk => K.fr.block k (F.lt h2 k hk) (by simp)⟩
  · rcases hk with hk | hk
    · exact Nat.le_trans H.fr.size (k1 k hk)
    · exact h1 k hk
  · have := k1 k hk
    have := F.lt h2 k hs
    omega
theorem Hp.join {w1 : World} (H : Hp w0 w1 F) (K : Hp w1 w (star P Asn.emp)) : Hp w0 w (star P F) := H.beside (K.ent emp_r')
theorem Hp.step {P' : Asn} (H : Hp w0 w (star P F)) (h : ∀ S, (∀ k, S k → w0.heap.size ≤ k) → P.p w S → ∃ (l : List Nat) (S' : Nat → Prop), (∀ k ∈ l, S k) ∧ Fr l w w' ∧ P'.p w' S' ∧ ∀ k, S' k → S k ∨ w.heap.size ≤ k) : Hp w0 w' (star P' F) := by
  obtain ⟨fr, S, h1, S1, S2, g1, g2, ha, hb⟩ := H
  obtain ⟨l, S', k1, k2, k3, k4⟩ := h S1 (fun k hk => h1 k ((g1 k).2 (.inl hk))) ha
  refine ⟨fr.local_ k2 fun k hk => .inr (h1 k ((g1 k).2 (.inl (k1 k hk)))), fun k => S' k ∨ S2 k, fun k hk => ?_, S', S2, fun k => Iff.rfl, fun k hk hs => ?_, k3, F.loc hb fun k hk => k2.block k (F.lt hb k hk) fun hx => g2 k (k1 k hx) hk⟩
  · rcases hk with hk | hk
    · rcases k4 k hk with h | h
      · exact h1 k ((g1 k).2 (.inl h))
      · exact Nat.le_trans fr.size h
    · exact h1 k ((g1 k).2 (.inr hk))
  · rcases k4 k hk with h | h
    · exact g2 k h hs
    · have := F.lt hb k hs
      omega
end

/-! ## The steps -/
section
variable {w0 w : World} {A F : Asn}
theorem Hp.new (H : Hp w0 w A) {cs : Array Value} {t : TypeId} {K : Nat → World → Prop} (k : ∀ b w', Hp w0 w' (star (bk b t cs) A) → K b w') : New w cs t K :=
  New.intro fun b w' nb => k b w' (H.beside ⟨nb.fr, fun x => x = b, fun x hx => by rw [hx, nb.at_]; exact Nat.le_refl _, fun _ => Iff.rfl, nb.blk⟩)
section
variable {b : Nat} {t : TypeId} {cs : Array Value} [h : TakeB b A t cs F]
include h
theorem Hp.isBlk (H : Hp w0 w A) : Blk w b t cs := by
  obtain ⟨_, S, _, S1, S2, _, _, ⟨_, ha⟩, _⟩ := H.blk b
  exact ha
theorem Hp.cell (H : Hp w0 w A) {i : Nat} {v : Value} (hv : cs[i]? = some v) : w.cell? ((Vc.blk b).add i) = some v := H.isBlk.cell hv
theorem Hp.cell2 (H : Hp w0 w A) {i j : Nat} {v : Value} (hv : cs[i + j]? = some v) : w.cell? (((Vc.blk b).add i).add j) = some v := H.isBlk.cell2 hv
theorem Hp.set {w' : World} {cs' : Array Value} (H : Hp w0 w A) (hB : Blk w' b t cs') (f : Fr [b] w w') : Hp w0 w' (star (bk b t cs') F) :=
  (H.blk b).step fun S hS hp => ⟨[b], S, fun k hk => (hp.1 k).2 (by simpa using hk), f, ⟨hp.1, hB⟩, fun k hk => .inl hk⟩
theorem Hp.sto (H : Hp w0 w A) {i : Nat} (hi : i < cs.size) {v : Value} {K : World → Prop} (k : ∀ w', Hp w0 w' (star (bk b t (cs.setIfInBounds i v)) F) → K w') : Sto w ((Vc.blk b).add i) v K :=
  H.isBlk.sto hi fun w' hB f => k w' (H.set hB f)
theorem Hp.sto2 (H : Hp w0 w A) {i j : Nat} (hi : i + j < cs.size) {v : Value} {K : World → Prop} (k : ∀ w', Hp w0 w' (star (bk b t (cs.setIfInBounds (i + j) v)) F) → K w') : Sto w (((Vc.blk b).add i).add j) v K :=
  H.isBlk.sto2 hi fun w' hB f => k w' (H.set hB f)
theorem Hp.stoAll (H : Hp w0 w A) {vs : List Value} (hs : vs.length = cs.size) {K : World → Prop} (k : ∀ w', Hp w0 w' (star (bk b t vs.toArray) F) → K w') : StoN (Vc.blk b) 0 vs w K :=
  H.isBlk.stoAll hs fun w' hB f => k w' (H.set hB f)
end
section
variable {s : Slc} {e size : Nat} {cs : List Value} [h : TakeS s A e size cs F]
include h
theorem Hp.isOwn (H : Hp w0 w A) : Own e size w s cs := by
  obtain ⟨_, S, _, S1, S2, _, _, ⟨_, ha⟩, _⟩ := H.own s
  exact ha
theorem Hp.cel (H : Hp w0 w A) : Cel w s size cs := H.isOwn.cel
theorem Hp.app {P : Program} {t bytes ty : Nat} {z : Value} (T : SlT P t e size bytes z) {y : Slc} {ys : List Value} {K : Slc → World → Prop} (H : Hp w0 w A) (hy : Cel w y size ys)
    (h1 : ∀ u ∈ ys, u.oneCell' = true) (hm : s.l + y.l ≤ maxLen) (hb : (s.l + y.l) * bytes ≤ 140737488355328)
    (k : ∀ s' w', Hp w0 w' (star (Asn.own e size s' (cs ++ ys)) F) → s'.l = s.l + y.l → K s' w') : App P t t ty w s.v y.v K :=
  App.own T H.isOwn hy h1 hm hb fun s' w' hO hl f hblk => k s' w' ((H.own s).step fun S hS hp => ⟨s.blks, fun x => x ∈ s'.blks, fun k hk => (hp.1 k).2 hk, f, ⟨fun _ => Iff.rfl, hO⟩, fun k hk => by
    rcases hblk k hk with h | h
    · exact .inl ((hp.1 k).2 h)
    · exact .inr (by omega)⟩) hl
theorem Hp.stoS (H : Hp w0 w A) {i : Nat} (hi : i < cs.length) {p : Addr} (hp : s.a = some p) {v : Value} {K : World → Prop} (k : ∀ w', Hp w0 w' (star (Asn.own e size s (cs.set i v)) F) → K w') : Sto w (p.add i) v K :=
  H.isOwn.sto hi hp fun w' hO f => k w' ((H.own s).step fun S _hS hq => ⟨s.blks, S, fun k hk => (hq.1 k).2 hk, f, ⟨hq.1, hO⟩, fun _k hk => .inl hk⟩)
end
theorem Hp.row (H : Hp w0 w A) {e n : Nat} {b : Nat} {w' : World} {l : List Value} {size : Nat} {cs : Array Value} (nb : NewBlk w cs e b w') (hc : cs = l.toArray) (hn : n * size = l.length) (hm : n ≤ maxLen) : Hp w0 w' (star (Asn.own e size ⟨some (Vc.blk b), n, n⟩ l) A) :=
  H.beside ⟨nb.fr, fun x => x = b, fun x hx => by rw [hx, nb.at_]; exact Nat.le_refl _, fun x => by simp [Slc.blks], by subst hc; exact Own.made nb.blk hn hm⟩
theorem Hp.newRow (H : Hp w0 w A) {e n size : Nat} (l : List Value) {cs : Array Value} {K : Nat → World → Prop} (hc : cs = l.toArray) (hn : n * size = l.length) (hm : n ≤ maxLen) (k : ∀ b w', Hp w0 w' (star (Asn.own e size ⟨some (Vc.blk b), n, n⟩ l) A) → K b w') : New w cs e K :=
  New.intro fun b w' nb => k b w' (H.row nb hc hn hm)
theorem Hp.nilRow (H : Hp w0 w A) (e size : Nat) : Hp w0 w (star (Asn.own e size Slc.nil []) A) := by
  obtain ⟨fr, S, h1, h2⟩ := H
  exact ⟨fr, S, h1, fun _ => False, S, fun k => by simp, fun k h => h.elim, ⟨fun k => by simp [Slc.blks], Own.nil _ _ _⟩, h2⟩
end
theorem StoN.two {p : Addr} {v1 v2 : Value} {w : World} {K : World → Prop} (h : Sto w (p.add 0) v1 fun w' => Sto w' (p.add 1) v2 K) : StoN p 0 [v1, v2] w K := h
theorem ToStrD.rule {P : Program} {t1 t2 e : Nat} {w : World} {s : Slc} {bs : List UInt8} {K : ByteArray → Prop} (h1 : P.underlying t1 = some (.slice e)) (h2 : P.underlying t2 = some .string) (h3 : P.underlying e = some (.int .u8)) (hb : Byt w s bs) (k : K ⟨bs.toArray⟩) : ToStrD P t1 t2 w s.v K :=
  ⟨⟨bs.toArray⟩, fun n => by
    obtain ⟨z, hr, rfl⟩ := ToStr.rule (K := fun z => z = ⟨bs.toArray⟩) h1 h2 h3 (hb.fr0 ((Hp.start w).drew n).fr) rfl
    exact hr, k⟩
end Go.Vc

namespace Go.Vc
structure Tg where
  n : Int
  c : Int
deriving DecidableEq
def Tg.zero : Tg := ⟨0, 0⟩
abbrev Tg.cells (t : Tg) : List Value := [.int .i64 t.n, .int .i64 t.c]
abbrev Tg.v (t : Tg) : Value := .agg #[.int .i64 t.n, .int .i64 t.c]
def Tg.proper (t : Tg) : Bool := decide (1 ≤ t.n) && decide (t.n ≤ 4611686018427387903) && decide (1 ≤ t.c) && decide (t.c ≤ 65535)
def Tg.valid (t : Tg) : Bool := decide (t = Tg.zero) || t.proper
def cmpI (x y : Int) : Int := if x < y then -1 else if y < x then 1 else 0
def Tg.cmp (a b : Tg) : Int := if cmpI a.n b.n ≠ 0 then cmpI a.n b.n else cmpI a.c b.c
def Tg.max (a b : Tg) : Tg := if 0 < b.cmp a then b else a
theorem cmpI_cases (x y : Int) : (x < y ∧ cmpI x y = -1) ∨ (y < x ∧ cmpI x y = 1) ∨ (x = y ∧ cmpI x y = 0) := by
  unfold cmpI
  by_cases h : x < y
  · exact .inl ⟨h, if_pos h⟩
  · by_cases k : y < x
    · exact .inr (.inl ⟨k, by rw [if_neg h, if_pos k]⟩)
    · exact .inr (.inr ⟨by omega, by rw [if_neg h, if_neg k]⟩)
def Tg.next (t : Tg) (used client : Int) : Tg :=
  let m := if t.n ≤ used + 1 then used + 1 else t.n
  ⟨if m = t.n ∧ client ≤ t.c then m + 1 else m, client⟩
end Go.Vc
namespace Go.Proofs.YtabifopphhpciaaGreatDoor
open Go Go.Vc Go.Vc.Asn
section
variable {w0 w : World} {F : Asn} {s : Slc} {t u : Tg}
theorem nw {cs : Array Value} {e : TypeId} {K : Nat → World → Prop} {w : World} (k : ∀ b w', Hp w w' (star (bk b e cs) emp) → Fr [] w w' → K b w') : New w cs e K := (Hp.start w).new fun b w' H => k b w' H H.fr
theorem zero_c : Calls PP F_tag_Zero #[t.v] w (Rt fun v w' => v = .bool (decide (t = Tg.zero)) ∧ Fr [] w w') := by
  refine sim_tag_Zero _ _ _ _ ?_
  unfold vc_tag_Zero
  refine nw fun b w1 _ f => Rt.ok ⟨?_, f⟩
  obtain ⟨n, c⟩ := t
  simp [Tg.zero]
theorem proper_c : Calls PP F_tag_proper #[t.v] w (Rt fun v w' => v = .bool t.proper ∧ Fr [] w w') := by
  refine sim_tag_proper _ _ _ _ ?_
  unfold vc_tag_proper
  exact nw fun b w1 _ f => Rt.ok ⟨rfl, f⟩
theorem valid_c : Calls PP F_tag_Valid #[t.v] w (Rt fun v w' => v = .bool t.valid ∧ Fr [] w w') := by
  refine sim_tag_Valid _ _ _ _ ?_
  unfold vc_tag_Valid
  refine nw fun b w1 H f => call (zero_c (t := t)) ?_
  rintro _ w2 ⟨rfl, f2⟩
  refine ⟨_, rfl, fun x w' => x = t.valid ∧ Fr [] w w', ⟨fun h => ?_, fun h => ?_⟩, ?_⟩
  · have H2 := H.fr0 f2
    refine ⟨_, H2.cell (b := b) (i := 0) rfl, _, H2.cell (b := b) (i := 1) rfl, call (proper_c (t := t)) ?_⟩
    rintro _ w3 ⟨rfl, f3⟩
    refine ⟨_, rfl, ?_, f.then_ (f2.then_ f3)⟩
    unfold Tg.valid
    rw [h, Bool.false_or]
  · refine ⟨?_, f.then_ f2⟩
    unfold Tg.valid
    rw [h, Bool.true_or]
  · rintro _ w3 ⟨rfl, f3⟩
    exact Rt.ok ⟨rfl, f3⟩
theorem nan64_c {x : Int} : Calls PP F_cmp_isNaN_int64 #[.int .i64 x] w (Rt fun v w' => v = .bool false ∧ w' = w) := by
  refine sim_cmp_isNaN_int64 _ _ _ ?_
  unfold vc_cmp_isNaN_int64
  exact Rt.ok ⟨by simp, rfl⟩
theorem nan_c {x : Int} : Calls PP F_cmp_isNaN_int #[.int .i64 x] w (Rt fun v w' => v = .bool false ∧ w' = w) := by
  refine sim_cmp_isNaN_int _ _ _ ?_
  unfold vc_cmp_isNaN_int
  exact Rt.ok ⟨by simp, rfl⟩
theorem cmp64_c {x y : Int} : Calls PP F_cmp_Compare_int64 #[.int .i64 x, .int .i64 y] w (Rt fun v w' => v = .int .i64 (cmpI x y) ∧ w' = w) := by
  refine sim_cmp_Compare_int64 _ _ _ _ ?_
  unfold vc_cmp_Compare_int64
  refine call nan64_c ?_
  rintro _ _ ⟨rfl, rfl⟩
  refine ⟨_, rfl, call nan64_c ?_⟩
  rintro _ _ ⟨rfl, rfl⟩
  refine ⟨_, rfl, fun h => absurd h (by simp), fun _ => ⟨fun h => absurd h (by simp), fun _ => ⟨fun h => ?_, fun h => ⟨fun k => ?_, fun k => ?_⟩⟩⟩⟩ <;> refine Rt.ok ⟨?_, rfl⟩ <;> rcases cmpI_cases x y with ⟨h1, h2⟩ | ⟨h1, h2⟩ | ⟨h1, h2⟩ <;> rw [h2] <;> simp at h <;> first | (simp at k; omega) | omega | rfl
theorem cmpi_c {x y : Int} : Calls PP F_cmp_Compare_int #[.int .i64 x, .int .i64 y] w (Rt fun v w' => v = .int .i64 (cmpI x y) ∧ w' = w) := by
  refine sim_cmp_Compare_int _ _ _ _ ?_
  unfold vc_cmp_Compare_int
  refine call nan_c ?_
  rintro _ _ ⟨rfl, rfl⟩
  refine ⟨_, rfl, call nan_c ?_⟩
  rintro _ _ ⟨rfl, rfl⟩
  refine ⟨_, rfl, fun h => absurd h (by simp), fun _ => ⟨fun h => absurd h (by simp), fun _ => ⟨fun h => ?_, fun h => ⟨fun k => ?_, fun k => ?_⟩⟩⟩⟩ <;> refine Rt.ok ⟨?_, rfl⟩ <;> rcases cmpI_cases x y with ⟨h1, h2⟩ | ⟨h1, h2⟩ | ⟨h1, h2⟩ <;> rw [h2] <;> simp at h <;> first | (simp at k; omega) | omega | rfl
theorem tcmp_c : Calls PP F_tag_Compare #[t.v, u.v] w (Rt fun v w' => v = .int .i64 (t.cmp u) ∧ Fr [] w w') := by
  refine sim_tag_Compare _ _ _ _ _ _ ?_
  unfold vc_tag_Compare
  refine nw fun b w1 H f => H.new fun b2 w2 H => call cmp64_c ?_
  rintro _ _ ⟨rfl, rfl⟩
  have f2 := H.fr
  refine ⟨_, rfl, fun h => Rt.ok ⟨?_, f2⟩, fun h => ⟨_, H.cell (b := b) (i := 1) rfl, _, H.cell (b := b2) (i := 1) rfl, call cmpi_c ?_⟩⟩
  · unfold Tg.cmp
    rw [if_pos (by simpa using h)]
  · rintro _ _ ⟨rfl, rfl⟩
    refine ⟨_, rfl, Rt.ok ⟨?_, f2⟩⟩
    unfold Tg.cmp
    rw [if_neg (by simpa using h)]
theorem tnext_c {used cl : Int} (hv : t.valid = true) (hu : 0 ≤ used) (hu2 : used ≤ 4611686018427387903) (hc : 1 ≤ cl) (hc2 : cl ≤ 65535) :
    Calls PP F_tag_Next #[t.v, .int .i64 used, .int .i64 cl] w (Rt fun v w' => v = (if 4611686018427387903 < (t.next used cl).n then .tuple #[Tg.zero.v, .int .i64 42] else .tuple #[(t.next used cl).v, .int .i64 0]) ∧ Fr [] w w') := by
  have hn : 0 ≤ t.n ∧ t.n ≤ 4611686018427387903 := by
    unfold Tg.valid Tg.proper at hv
    simp only [Bool.or_eq_true, Bool.and_eq_true, decide_eq_true_eq] at hv
    rcases hv with h | h
    · rw [h]; decide
    · omega
  refine sim_tag_Next _ _ _ _ _ _ ?_
  unfold vc_tag_Next
  refine nw fun b w1 H f => H.new fun b2 w2 H => call (valid_c (t := t)) ?_
  rintro _ w3 ⟨rfl, f3⟩
  rw [hv]
  have H := H.fr0 f3
  refine ⟨_, rfl, fun h => absurd h (by simp), fun _ => ⟨fun h => ?_, fun _ => ?_⟩⟩
  · simp at h; omega
  refine ⟨_, H.cell (b := b) (i := 0) rfl, fun c w' => c = (t.next used cl).n ∧ w' = w3, ⟨_, H.cell (b := b) (i := 0) rfl, ?_⟩, ?_⟩
  · have em : maxI t.n (wr .i64 (used + 1)) = if t.n ≤ used + 1 then used + 1 else t.n := by
      rw [wr64 (by omega) (by omega)]
      unfold maxI
      split <;> split <;> omega
    rw [em]
    have e : (t.next used cl).n = if (if t.n ≤ used + 1 then used + 1 else t.n) = t.n ∧ cl ≤ t.c then (if t.n ≤ used + 1 then used + 1 else t.n) + 1 else (if t.n ≤ used + 1 then used + 1 else t.n) := rfl
    rw [e]
    generalize hm : (if t.n ≤ used + 1 then used + 1 else t.n) = m
    have hm2 : m ≤ 4611686018427387904 := by rw [← hm]; split <;> omega
    have hm0 : 0 ≤ m := by rw [← hm]; split <;> omega
    refine ⟨decide (m = t.n) && decide (cl ≤ t.c), fun h => ⟨_, H.cell (b := b) (i := 1) rfl, ?_⟩, fun h => ?_, fun h => ⟨?_, rfl⟩, fun h => ⟨?_, rfl⟩⟩
    · rw [h, Bool.true_and]
    · rw [h, Bool.false_and]
    · simp only [Bool.and_eq_true, decide_eq_true_eq] at h
      rw [if_pos h, wr64 (by omega) (by omega)]
    · rw [if_neg]
      intro hh
      simp [hh.1, hh.2] at h
  · rintro c w4 ⟨rfl, rfl⟩
    refine ⟨fun h => ?_, fun h => ?_⟩
    · simp only [decide_eq_true_eq] at h
      refine H.stoAll (b := b2) rfl fun w5 H => ⟨_, H.cell (b := b2) (i := 0) rfl, _, H.cell (b := b2) (i := 1) rfl, Rt.ok ⟨?_, H.fr⟩⟩
      rw [if_pos h]
      rfl
    · simp only [decide_eq_false_iff_not] at h
      refine H.stoAll (b := b2) (by rfl) fun w5 H => ⟨_, H.cell (b := b2) (i := 0) rfl, _, H.cell (b := b2) (i := 1) rfl, Rt.ok ⟨?_, H.fr⟩⟩
      rw [if_neg h]
      rfl
structure _root_.Go.Vc.Cfg where
  N : Int
  K : Int
  D : Int
deriving DecidableEq
abbrev _root_.Go.Vc.Cfg.cells (c : Cfg) : List Value := [.int .i64 c.N, .int .i64 c.K, .int .i64 c.D]
abbrev _root_.Go.Vc.Cfg.v (c : Cfg) : Value := .agg #[.int .i64 c.N, .int .i64 c.K, .int .i64 c.D]
structure _root_.Go.Vc.Cfg.Ok (c : Cfg) : Prop where
  k1 : 1 ≤ c.K
  kn : c.K ≤ c.N
  n : c.N ≤ 255
  d0 : 0 ≤ c.D
  d1 : c.D ≤ 4611686018427387903
variable {c : Cfg}
theorem check_c (h : c.Ok) : Calls PP F_quorum_Check #[c.v] w (Rt fun v w' => v = .int .i64 0 ∧ Fr [] w w') := by
  obtain ⟨h1, h2, h3, h4, h5⟩ := h
  refine sim_quorum_Check _ _ _ _ _ ?_
  unfold vc_quorum_Check
  refine nw fun b w1 _ f => ⟨fun h => ?_, fun _ => Rt.ok ⟨rfl, f⟩⟩
  simp only [Bool.or_eq_true, decide_eq_true_eq] at h
  omega
theorem size_q (h : c.Ok) : Calls PP F_quorum_Size #[c.v] w (Rt fun v w' => v = .tuple #[.int .i64 ((c.N + c.K + 1) / 2), .int .i64 0] ∧ Fr [] w w') := by
  refine sim_quorum_Size _ _ _ _ _ ?_
  unfold vc_quorum_Size
  refine nw fun b w1 H f => call (check_c h) ?_
  rintro _ w2 ⟨rfl, f2⟩
  have H := H.fr0 f2
  refine ⟨_, rfl, fun h => absurd h (by decide), fun _ => ⟨_, H.cell (b := b) (i := 0) rfl, _, H.cell (b := b) (i := 1) rfl, Rt.ok ⟨?_, H.fr⟩⟩⟩
  obtain ⟨h1, h2, h3, h4, h5⟩ := h
  rw [wr64 (n := c.N + c.K) (by omega) (by omega), wr64 (n := c.N + c.K + 1) (by omega) (by omega), Int.tdiv_eq_ediv_of_nonneg (by omega), wr64 (by omega) (by omega)]
end
end Go.Proofs.YtabifopphhpciaaGreatDoor

namespace Go.Vc
open Go Go.Vc.Asn

/-! ## Keys -/
structure KeyT (P : Program) (kt : TypeId) {κ : Type} [DecidableEq κ] (ec : κ → Value) : Prop where
  chk : ∀ (em : Bool) (k : κ) (w : World), (Instr.checkKey em 10000 kt (ec k)).run P w = .ok () w
  find : ∀ (k : κ) (l : List MapEntry) (ks : List κ), l.map (·.key) = ks.map ec → ∀ w, (Instr.findKey kt (ec k) l).run P w = .ok ((ks.findIdx? (fun x => decide (x = k))).bind fun i => (l[i]?).map fun e => (i, e.val)) w
  same : ∀ k, Instr.sameBits 10000 (ec k) (ec k) = true
theorem run_findNow' {P : Program} {kt : TypeId} {d : TypeDesc} {κ : Type} [DecidableEq κ] {ec : κ → Value} {k : κ} (hd : P.underlying kt = some d) (hs : ∀ k' : κ, Instr.sameNow d (ec k) (ec k') = some (decide (k = k'))) :
    ∀ (l : List MapEntry) (ks : List κ) (i : Nat), l.map (·.key) = ks.map ec → Instr.findNow d (ec k) l i = some ((ks.findIdx? (fun x => decide (x = k))).bind fun j => (l[j]?).map fun e => (i + j, e.val))
  | [], ks, i, h => by
    have : ks = [] := by cases ks with | nil => rfl | cons => simp at h
    subst this
    simp [Instr.findNow]
  | e :: es, [], i, h => by simp at h
  | e :: es, k' :: ks, i, h => by
    simp only [List.map_cons, List.cons.injEq] at h
    simp only [Instr.findNow, h.1, hs]
    by_cases hk : k = k'
    · subst hk
      simp [List.findIdx?_cons]
    · have hk' : ¬ k' = k := fun e => hk e.symm
      simp only [hk, decide_false]
      rw [run_findNow' hd hs es ks (i + 1) h.2]
      simp only [List.findIdx?_cons, hk', decide_false, Bool.false_eq_true, if_false]
      cases ks.findIdx? (fun x => decide (x = k)) with
      | none => rfl
      | some j => simp; cases es[j]? <;> simp; omega
theorem keyT_now {P : Program} {kt : TypeId} {d : TypeDesc} {κ : Type} [DecidableEq κ] {ec : κ → Value} (hd : P.underlying kt = some d) (hs : ∀ k k' : κ, Instr.sameNow d (ec k) (ec k') = some (decide (k = k')))
    (hc : ∀ (em : Bool) (k : κ) (w : World), (Instr.checkKey em 10000 kt (ec k)).run P w = .ok () w) (hb : ∀ k, Instr.sameBits 10000 (ec k) (ec k) = true) : KeyT P kt ec :=
  ⟨hc, fun k l ks h w => by
    rw [Instr.findKey]
    simp only [Sem.run_bind, run_underlying hd, Result.andThen]
    rw [run_findNow' hd (hs k) l ks 0 h]
    simp, hb⟩
theorem keyT_int {P : Program} {kt : TypeId} {q : IntKind} (hd : P.underlying kt = some (.int q)) : KeyT P kt (fun n : Int => Value.int q n) :=
  keyT_now hd (fun k k' => by simp [Instr.sameNow]; rfl) (fun em k w => by unfold Instr.checkKey; simp [run_underlying hd]) fun k => by simp [Instr.sameBits]
theorem bytes_beq' (a b : ByteArray) : (a == b) = decide (a = b) := by
  rw [Bool.eq_iff_iff, MapKept.bytes_beq]; simp
theorem keyT_str {P : Program} {kt : TypeId} (hd : P.underlying kt = some .string) : KeyT P kt (fun s : ByteArray => Value.string s) :=
  keyT_now hd (fun k k' => by simp [Instr.sameNow, bytes_beq']) (fun em k w => by unfold Instr.checkKey; simp [run_underlying hd]) fun k => by simp [Instr.sameBits, bytes_beq']
/-! ## The entries -/
section
variable {κ ν : Type} [DecidableEq κ] (ec : κ → Value) (ev : ν → Value)
def ment (x : κ × ν × Nat) : MapEntry := { key := ec x.1, val := ev x.2.1, born := x.2.2 }
def ments (L : List (κ × ν × Nat)) : Array MapEntry := (L.map (ment ec ev)).toArray
structure MInv (L : List (κ × ν × Nat)) (c : Nat) : Prop where
  keys : (L.map (·.1)).Nodup
  borns : (L.map (·.2.2)).Nodup
  lt : ∀ x ∈ L, x.2.2 < c
def mlook (L : List (κ × ν × Nat)) (k : κ) : Option ν := (L.find? fun x => decide (x.1 = k)).map (·.2.1)
def mput (L : List (κ × ν × Nat)) (c : Nat) (k : κ) (v : ν) : List (κ × ν × Nat) × Nat :=
  if k ∈ L.map (·.1) then (L.map fun x => if x.1 = k then (x.1, v, x.2.2) else x, c) else (L ++ [(k, v, c)], c + 1)
variable {ec ev}
theorem findIdx_keys (L : List (κ × ν × Nat)) (k : κ) : (L.map (·.1)).findIdx? (fun x => decide (x = k)) = L.findIdx? fun x => decide (x.1 = k) := by
  rw [List.findIdx?_map]; rfl
omit [DecidableEq κ] in
theorem ment_keys (L : List (κ × ν × Nat)) : (L.map (ment ec ev)).map (·.key) = (L.map (·.1)).map ec := by
  rw [List.map_map, List.map_map]; rfl
theorem find_bind (L : List (κ × ν × Nat)) (k : κ) : ((L.map (·.1)).findIdx? (fun x => decide (x = k))).bind (fun i => ((L.map (ment ec ev))[i]?).map fun e => (i, e.val)) =
    (L.findIdx? fun x => decide (x.1 = k)).bind fun i => (L[i]?).map fun x => (i, ev x.2.1) := by
  rw [findIdx_keys]
  cases h : L.findIdx? (fun x => decide (x.1 = k)) with
  | none => rfl
  | some i => simp [List.getElem?_map]; cases L[i]? <;> simp [ment]
theorem look_of_idx (L : List (κ × ν × Nat)) (k : κ) : ((L.findIdx? fun x => decide (x.1 = k)).bind fun i => L[i]?) = L.find? fun x => decide (x.1 = k) := by
  induction L with
  | nil => rfl
  | cons x r ih =>
    simp only [List.findIdx?_cons, List.find?_cons]
    by_cases h : x.1 = k
    · simp [h]
    · simp only [h, decide_false, Bool.false_eq_true, if_false]
      rw [← ih]
      cases r.findIdx? (fun x => decide (x.1 = k)) <;> simp
end
section
variable {P : Program} {w : World} {t kt et ty : TypeId} {κ ν : Type} [DecidableEq κ] {ec : κ → Value} {ev : ν → Value} {g c : Nat} {L : List (κ × ν × Nat)}
theorem run_findM (T : KeyT P kt ec) (k : κ) : (Instr.findKey kt (ec k) (ments ec ev L).toList).run P w = .ok ((L.findIdx? fun x => decide (x.1 = k)).bind fun i => (L[i]?).map fun x => (i, ev x.2.1)) w := by
  rw [← find_bind (ec := ec)]
  exact T.find k _ _ (ment_keys L) w
theorem run_lookM (T : KeyT P kt ec) (ht : P.underlying t = some (.map kt et)) (hg : w.heap[g]? = some (.map (ments ec ev L) c)) {z : Value} (hz : (zeroValue et).run P w = .ok z w) (k : κ) (b : Bool) :
    (Instr.lookup t (.map (some g)) (ec k) b).run P w = .ok (if b then .tuple #[((mlook L k).map ev).getD z, .bool (mlook L k).isSome] else ((mlook L k).map ev).getD z) w := by
  have hl := look_of_idx L k
  have hf : (Instr.findKey kt (ec k) (ments ec ev L).toList).run P w = _ := run_findM (ec := ec) (ev := ev) (L := L) T k
  simp only [Instr.lookup, Sem.run_bind, run_underlying ht, Result.andThen, MapKept.run_getObj_map hg, Sem.run_pure, T.chk, hf]
  unfold mlook
  rw [← hl]
  cases h : L.findIdx? (fun x => decide (x.1 = k)) with
  | none => simp [hz]
  | some i =>
    have hi : i < L.length := by
      have := List.findIdx?_eq_some_iff_getElem.1 h
      obtain ⟨h1, _⟩ := this
      exact h1
    simp [List.getElem?_eq_getElem hi]
theorem run_updM (T : KeyT P kt ec) (ht : P.underlying t = some (.map kt et)) (hg : w.heap[g]? = some (.map (ments ec ev L) c)) (hn : (L.map (·.1)).Nodup) (k : κ) (v : ν) :
    (Instr.mapUpdate t (.map (some g)) (ec k) (ev v)).run P w = .ok () { w with heap := w.heap.setIfInBounds g (.map (ments ec ev (mput L c k v).1) (mput L c k v).2) } := by
  have hf : (Instr.findKey kt (ec k) (ments ec ev L).toList).run P w = _ := run_findM (ec := ec) (ev := ev) (L := L) T k
  simp only [Instr.mapUpdate, Sem.run_bind, run_underlying ht, Result.andThen, MapKept.run_getObj_map hg, T.chk, hf]
  unfold mput
  cases h : L.findIdx? (fun x => decide (x.1 = k)) with
  | none =>
    have hk : k ∉ L.map (·.1) := by
      intro hm
      obtain ⟨x, hx, rfl⟩ := List.mem_map.1 hm
      have := List.findIdx?_eq_none_iff.1 h x hx
      simp at this
    rw [if_neg hk]
    simp only [Option.bind_none, MapKept.run_setObj_map _ hg]
    simp [ments, ment]
  | some i =>
    obtain ⟨hi, h1, h2⟩ := List.findIdx?_eq_some_iff_getElem.1 h
    simp only [decide_eq_true_eq] at h1
    have hk : k ∈ L.map (·.1) := List.mem_map.2 ⟨L[i], List.getElem_mem _, h1⟩
    rw [if_pos hk]
    simp only [List.getElem?_eq_getElem hi, Option.map_some, Option.bind_some]
    have e1 : (((ments ec ev L)[i]?).map (·.key)).getD (ec k) = ec k := by simp [ments, List.getElem?_eq_getElem hi, ment, h1]
    have e2 : (Instr.keyThatStays (ec k) (ec k)).run P w = .ok (ec k) w := by unfold Instr.keyThatStays; rw [if_pos (T.same k)]; rfl
    simp only [e1, Sem.run_bind, e2, Result.andThen, MapKept.run_setObj_map _ hg]
    have e3 : (ments ec ev L).modify i (fun e => { e with key := ec k, val := ev v }) = ments ec ev (L.map fun x => if x.1 = k then (x.1, v, x.2.2) else x) := by
      apply Array.ext'
      unfold ments
      simp only [Array.toList_modify, List.map_map]
      apply List.ext_getElem?
      intro j
      rw [List.getElem?_modify, List.getElem?_map, List.getElem?_map]
      by_cases hj : i = j
      · subst hj
        rw [List.getElem?_eq_getElem hi]
        simp [ment, h1]
      · cases hx : L[j]? with
        | none => simp
        | some x =>
          have hxk : x.1 ≠ k := by
            intro e
            apply hj
            obtain ⟨hjl, hxe⟩ := List.getElem?_eq_some_iff.1 hx
            have a1 : (L.map (·.1))[i]'(by simpa using hi) = k := by simpa using h1
            have a2 : (L.map (·.1))[j]'(by simpa using hjl) = k := by simp [hxe, e]
            by_cases hij : i = j
            · exact hij
            · exfalso
              have hp := List.pairwise_iff_getElem.1 hn
              rcases Nat.lt_or_gt_of_ne hij with h3 | h3
              · exact hp i j (by simpa using hi) (by simpa using hjl) h3 (a1.trans a2.symm)
              · exact hp j i (by simpa using hjl) (by simpa using hi) h3 (a2.trans a1.symm)
          simp [hj, hxk]
    rw [e3]
end
end Go.Vc

namespace Go.Vc
open Go Go.Vc.Asn
open Go.ChangeMaps (setBlock)
section
variable {κ ν : Type}
def ml (x : κ × ν × Nat) : κ × ν := (x.1, x.2.1)
variable [DecidableEq κ]
def llook (l : List (κ × ν)) (k : κ) : Option ν := (l.find? fun x => decide (x.1 = k)).map (·.2)
def lput (l : List (κ × ν)) (k : κ) (v : ν) : List (κ × ν) := if k ∈ l.map (·.1) then l.map (fun x => if x.1 = k then (x.1, v) else x) else l ++ [(k, v)]
def ldel (l : List (κ × ν)) (k : κ) : List (κ × ν) := l.filter fun x => decide (x.1 ≠ k)
omit [DecidableEq κ] in
theorem ml_keys (L : List (κ × ν × Nat)) : (L.map ml).map (·.1) = L.map (·.1) := by rw [List.map_map]; rfl
theorem mlook_ml (L : List (κ × ν × Nat)) (k : κ) : mlook L k = llook (L.map ml) k := by
  unfold mlook llook
  rw [List.find?_map]
  cases h : L.find? (fun x => decide (x.1 = k)) with
  | none => have : L.find? ((fun x : κ × ν => decide (x.1 = k)) ∘ ml) = none := h; rw [this]; rfl
  | some x => have : L.find? ((fun x : κ × ν => decide (x.1 = k)) ∘ ml) = some x := h; rw [this]; rfl
theorem mput_ml (L : List (κ × ν × Nat)) (c : Nat) (k : κ) (v : ν) : (mput L c k v).1.map ml = lput (L.map ml) k v := by
  unfold mput lput
  rw [ml_keys]
  split
  · simp only [List.map_map]
    apply List.map_congr_left
    intro x _
    simp only [Function.comp, ml]
    by_cases h : x.1 = k <;> simp [h]
  · simp [ml]
theorem MInv.put {L : List (κ × ν × Nat)} {c : Nat} (h : MInv L c) (k : κ) (v : ν) : MInv (mput L c k v).1 (mput L c k v).2 := by
  unfold mput
  split
  · have e1 : ∀ x : κ × ν × Nat, (if x.1 = k then (x.1, v, x.2.2) else x).1 = x.1 := fun x => by split <;> rfl
    have e2 : ∀ x : κ × ν × Nat, (if x.1 = k then (x.1, v, x.2.2) else x).2.2 = x.2.2 := fun x => by split <;> rfl
    refine ⟨?_, ?_, ?_⟩
    · simp only [List.map_map]
      rw [show ((fun x : κ × ν × Nat => x.1) ∘ fun x => if x.1 = k then (x.1, v, x.2.2) else x) = fun x => x.1 from funext e1]
      exact h.keys
    · simp only [List.map_map]
      rw [show ((fun x : κ × ν × Nat => x.2.2) ∘ fun x => if x.1 = k then (x.1, v, x.2.2) else x) = fun x => x.2.2 from funext e2]
      exact h.borns
    · intro x hx
      obtain ⟨y, hy, rfl⟩ := List.mem_map.1 hx
      rw [e2]
      exact h.lt y hy
  · rename_i hk
    refine ⟨?_, ?_, ?_⟩
    · simp only [List.map_append, List.map_cons, List.map_nil]
      refine List.nodup_append.2 ⟨h.keys, by simp, fun a ha b hb => ?_⟩
      simp at hb
      rintro rfl
      subst hb
      exact hk ha
    · simp only [List.map_append, List.map_cons, List.map_nil]
      refine List.nodup_append.2 ⟨h.borns, by simp, fun a ha b hb => ?_⟩
      simp at hb
      obtain ⟨x, hx, rfl⟩ := List.mem_map.1 ha
      have := h.lt x hx
      omega
    · intro x hx
      rcases List.mem_append.1 hx with hx | hx
      · have := h.lt x hx
        show x.2.2 < c + 1
        omega
      · simp at hx
        subst hx
        exact Nat.lt_succ_self c
end
def Asn.mp {κ ν : Type} (ec : κ → Value) (ev : ν → Value) (g : Nat) (l : List (κ × ν)) : Asn where
  p w S := (∀ k, S k ↔ k = g) ∧ ∃ (L : List (κ × ν × Nat)) (c : Nat), L.map ml = l ∧ w.heap[g]? = some (.map (ments ec ev L) c) ∧ MInv L c
  loc := by
    rintro w w' S ⟨h1, L, c, h2, h3, h4⟩ h
    exact ⟨h1, L, c, h2, (h g ((h1 g).2 rfl)).trans h3, h4⟩
  lt := by
    rintro w S ⟨h1, L, c, h2, h3, h4⟩ k hk
    rw [(h1 k).1 hk]
    exact (Array.getElem?_eq_some_iff.1 h3).1
section
variable {κ ν : Type} {ec : κ → Value} {ev : ν → Value}
class TakeM (ec : κ → Value) (ev : ν → Value) (g : Nat) (A : Asn) (l : outParam (List (κ × ν))) (F : outParam Asn) : Prop where
  e : Ent A (star (mp ec ev g l) F)
instance (priority := 2000) takeM_here (ec : κ → Value) (ev : ν → Value) (g : Nat) (l : List (κ × ν)) (F : Asn) : TakeM ec ev g (star (mp ec ev g l) F) l F := ⟨Ent.refl _⟩
instance (priority := 1500) takeM_assoc (ec : κ → Value) (ev : ν → Value) (g : Nat) (l : List (κ × ν)) (X Y Z F : Asn) [h : TakeM ec ev g (star X (star Y Z)) l F] : TakeM ec ev g (star (star X Y) Z) l F := ⟨assoc.trans h.e⟩
instance (priority := 1000) takeM_there (ec : κ → Value) (ev : ν → Value) (g : Nat) (l : List (κ × ν)) (B A F : Asn) [h : TakeM ec ev g A l F] : TakeM ec ev g (star B A) l (star B F) := ⟨(Ent.star (Ent.refl B) h.e).trans left⟩
instance (priority := 500) takeM_last (ec : κ → Value) (ev : ν → Value) (g : Nat) (l : List (κ × ν)) : TakeM ec ev g (mp ec ev g l) l emp := ⟨emp_r⟩
variable {P : Program} {w0 w : World} {A F : Asn} {t kt et ty : TypeId} {g : Nat} {l : List (κ × ν)}
theorem Hp.map (ec : κ → Value) (ev : ν → Value) (g : Nat) [h : TakeM ec ev g A l F] (H : Hp w0 w A) : Hp w0 w (star (mp ec ev g l) F) := H.ent h.e
theorem heap_frS (w : World) (g : Nat) (o : Obj) : Fr [g] w { w with heap := w.heap.setIfInBounds g o } :=
  ⟨rfl, rfl, rfl, by simp, fun k _ hk => by simp at hk; simp [Array.getElem?_setIfInBounds, Ne.symm hk]⟩
theorem Hp.mset {l' : List (κ × ν)} {L : List (κ × ν × Nat)} {c : Nat} (H : Hp w0 w (star (mp ec ev g l) F)) (hl : L.map ml = l') (hI : MInv L c) : Hp w0 { w with heap := w.heap.setIfInBounds g (.map (ments ec ev L) c) } (star (mp ec ev g l') F) :=
  H.step fun S _ hp => ⟨[g], S, fun k hk => (hp.1 k).2 (by simpa using hk), heap_frS _ _ _, ⟨hp.1, L, c, hl, by
    obtain ⟨_, _, _, _, h3, _⟩ := hp
    have := (Array.getElem?_eq_some_iff.1 h3).1
    simp [Array.getElem?_setIfInBounds, this], hI⟩, fun k hk => .inl hk⟩
theorem Hp.mheap (H : Hp w0 w (star (mp ec ev g l) F)) : ∃ (L : List (κ × ν × Nat)) (c : Nat), L.map ml = l ∧ w.heap[g]? = some (.map (ments ec ev L) c) ∧ MInv L c := by
  obtain ⟨_, S, _, S1, S2, _, _, ⟨_, h⟩, _⟩ := H
  exact h
variable [DecidableEq κ]
theorem Hp.lkp [h : TakeM ec ev g A l F] (H : Hp w0 w A) (T : KeyT P kt ec) (ht : P.underlying t = some (.map kt et)) {z : Value} (hz : (zeroValue et).run P w = .ok z w) {c : Bool} {k : κ} {K : Value → Prop}
    (hk : K (if c then .tuple #[((llook l k).map ev).getD z, .bool (llook l k).isSome] else ((llook l k).map ev).getD z)) : Lkp P t c w (.map (some g)) (ec k) K := by
  obtain ⟨L, q, rfl, h3, _⟩ := (H.map ec ev g).mheap
  refine ⟨_, run_lookM T ht h3 hz k c, ?_⟩
  rw [mlook_ml]
  exact hk
theorem Hp.mup [h : TakeM ec ev g A l F] (H : Hp w0 w A) (T : KeyT P kt ec) (ht : P.underlying t = some (.map kt et)) {k : κ} {v : ν} {K : World → Prop} (hk : ∀ w', Hp w0 w' (star (mp ec ev g (lput l k v)) F) → K w') : Mup P t w (.map (some g)) (ec k) (ev v) K := by
  have H' := H.map ec ev g
  obtain ⟨L, q, rfl, h3, h4⟩ := H'.mheap
  exact ⟨_, run_updM T ht h3 h4.keys k v, hk _ (H'.mset (mput_ml L q k v) (h4.put k v))⟩
omit [DecidableEq κ] in
theorem Hp.newM (ec : κ → Value) (ev : ν → Value) (H : Hp w0 w A) {K : Nat → World → Prop} (hk : ∀ g w', Hp w0 w' (star (mp ec ev g []) A) → K g w') : NewM P t w K := by
  have hs : (w.alloc (.map #[] 0)).heap.size = w.heap.size + 1 := Array.size_push ..
  have hf : Fr [] w (w.alloc (.map #[] 0)) := ⟨rfl, rfl, rfl, by omega, fun k hk _ => by
    show (w.heap.push _)[k]? = _
    rw [Array.getElem?_push, if_neg (by omega)]⟩
  refine ⟨w.heap.size, w.alloc (.map #[] 0), rfl, hk _ _ (H.beside ⟨hf, fun x => x = w.heap.size, fun x hx => by rw [hx]; exact Nat.le_refl _, fun _ => Iff.rfl, [], 0, rfl, ?_, ⟨List.nodup_nil, List.nodup_nil, fun x hx => by cases hx⟩⟩)⟩
  show (w.heap.push _)[w.heap.size]? = _
  rw [Array.getElem?_push, if_pos rfl]
  rfl
end
end Go.Vc

namespace Go.Vc
open Go Go.Vc.Asn
open Go.ChangeMaps (setBlock)
section
variable {κ ν : Type}
def Asn.mr (ec : κ → Value) (ev : ν → Value) (it g : Nat) (l rest : List (κ × ν)) (cur : Option (κ × ν)) : Asn where
  p w S := (∀ k, S k ↔ k = it ∨ k = g) ∧ it ≠ g ∧ ∃ (L : List (κ × ν × Nat)) (c : Nat) (seen : Array Nat), L.map ml = l ∧ w.heap[g]? = some (.map (ments ec ev L) c) ∧ MInv L c ∧ w.heap[it]? = some (.mapIter (some g) c seen c) ∧
    (L.filter fun x => !seen.contains x.2.2).map ml = rest ∧ ∀ y, cur = some y → ∃ (s0 : Array Nat) (b : Nat), seen = s0.push b ∧ (y.1, y.2, b) ∈ L
  loc := by
    rintro w w' S ⟨h1, h0, L, c, seen, h2, h3, h4, h5, h6⟩ h
    exact ⟨h1, h0, L, c, seen, h2, (h g ((h1 g).2 (.inr rfl))).trans h3, h4, (h it ((h1 it).2 (.inl rfl))).trans h5, h6⟩
  lt := by
    rintro w S ⟨h1, h0, L, c, seen, h2, h3, h4, h5, h6⟩ k hk
    rcases (h1 k).1 hk with rfl | rfl
    · exact (Array.getElem?_eq_some_iff.1 h5).1
    · exact (Array.getElem?_eq_some_iff.1 h3).1
def Asn.mn (it : Nat) : Asn where
  p w S := (∀ k, S k ↔ k = it) ∧ w.heap[it]? = some (.mapIter none 0 #[] 0)
  loc := by
    rintro w w' S ⟨h1, h2⟩ h
    exact ⟨h1, (h it ((h1 it).2 rfl)).trans h2⟩
  lt := by
    rintro w S ⟨h1, h2⟩ k hk
    rw [(h1 k).1 hk]
    exact (Array.getElem?_eq_some_iff.1 h2).1
def mleft (it g : Nat) (w : World) : Nat := match w.heap[it]?, w.heap[g]? with | some (.mapIter _ _ seen _), some (.map es _) => (leftOf es seen).size | _, _ => 0
variable {ec : κ → Value} {ev : ν → Value} {P : Program} {w0 w : World} {A F : Asn} {t kt et ty : TypeId} {it g : Nat} {l rest : List (κ × ν)} {cur : Option (κ × ν)}
theorem alloc_fr (w : World) (o : Obj) : Fr [] w (w.alloc o) := ⟨rfl, rfl, rfl, by show w.heap.size ≤ (w.heap.push o).size; rw [Array.size_push]; omega, fun k hk _ => by
  show (w.heap.push o)[k]? = _
  rw [Array.getElem?_push, if_neg (by omega)]⟩
theorem alloc_at (w : World) (o : Obj) : (w.alloc o).heap[w.heap.size]? = some o := by
  show (w.heap.push o)[w.heap.size]? = _
  rw [Array.getElem?_push, if_pos rfl]
theorem Hp.rng (ht : P.underlying t = some (.map kt et)) (H : Hp w0 w (star (mp ec ev g l) F)) {K : Nat → World → Prop} (hk : ∀ it w', Hp w0 w' (star (mr ec ev it g l l none) F) → K it w') : Rng P t w (.map (some g)) K := by
  obtain ⟨L, c, rfl, h3, h4⟩ := H.mheap
  refine ⟨w.heap.size, w.alloc (.mapIter (some g) c #[] c), ?_, hk _ _ (H.step fun S _ hp => ⟨[], fun k => k = w.heap.size ∨ k = g, by simp, alloc_fr _ _, ⟨fun _ => Iff.rfl, ?_, L, c, #[], rfl, ?_, h4, alloc_at _ _, ?_, fun y h => by cases h⟩, fun k hk => ?_⟩)⟩
  · simp only [Instr.range, Sem.run_bind, run_underlying ht, Result.andThen, MapKept.run_getObj_map h3, Sem.run_pure]
    rfl
  · have := (Array.getElem?_eq_some_iff.1 h3).1; omega
  · rw [(alloc_fr w _).block g (Array.getElem?_eq_some_iff.1 h3).1 (by simp)]; exact h3
  · rw [List.filter_eq_self.2 (by intro x _; simp)]
  · rcases hk with rfl | rfl
    · exact .inr (Nat.le_refl _)
    · exact .inl ((hp.1 _).2 rfl)
theorem Hp.mrEnd (H : Hp w0 w (star (mr ec ev it g l rest cur) F)) : Hp w0 w (star (mp ec ev g l) F) :=
  H.step fun S _ hp => by
    obtain ⟨h1, h0, L, c, seen, h2, h3, h4, _⟩ := hp
    exact ⟨[], fun k => k = g, by simp, Fr.refl _ _, ⟨fun _ => Iff.rfl, L, c, h2, h3, h4⟩, fun k hk => .inl ((h1 k).2 (.inr hk))⟩
variable [DecidableEq κ]
theorem Hp.nxt (H : Hp w0 w (star (mr ec ev it g l rest cur) F)) {K : Bool → World → Prop} (h0 : rest = [] → K false w) (hk : ∀ x ∈ rest, ∀ w', Hp w0 w' (star (mr ec ev it g l (ldel rest x.1) (some x)) F) → K true w') : Nxt P ty w (.pointer (some (Vc.blk it))) K := by
  have H0 := H
  obtain ⟨_, S, _, S1, S2, _, _, ⟨hS, hne, L, c, seen, rfl, h3, h4, h5, rfl, _⟩, _⟩ := H
  have hl : leftOf (ments ec ev L) seen = ments ec ev (L.filter fun x => !seen.contains x.2.2) := by
    unfold leftOf ments
    apply Array.ext'
    simp only [Array.toList_filter, List.filter_map]
    rfl
  have hold : ∀ x ∈ (ments ec ev L).toList, x.born < c := fun x hx => by
    obtain ⟨y, hy, rfl⟩ := List.mem_map.1 (show x ∈ L.map (ment ec ev) from hx)
    exact h4.lt y hy
  rcases run_next_at (P := P) w ty it g c c seen (ments ec ev L) c h5 h3 hold (Nat.le_refl _) with ⟨hz, hr⟩ | ⟨e, he, w1, hw, hr⟩
  · refine ⟨false, [], w, hr, h0 ?_⟩
    rw [hl] at hz
    have : (L.filter fun x => !seen.contains x.2.2).length = 0 := by simpa [ments] using hz
    rw [List.eq_nil_of_length_eq_zero this]; rfl
  · rw [hl] at he
    obtain ⟨x, hx, rfl⟩ := List.mem_map.1 (show e ∈ (L.filter fun x => !seen.contains x.2.2).map (ment ec ev) from he)
    obtain ⟨hxL, hxs⟩ := List.mem_filter.1 hx
    refine ⟨true, [(ment ec ev x).key, (ment ec ev x).val], _, hr, hk (ml x) (List.mem_map_of_mem hx) _ (H0.step fun S hSn hp => ⟨[it], S, fun k hk => (hp.1 k).2 (.inl (by simpa using hk)), ?_, ⟨hp.1, hne, L, c, seen.push x.2.2, rfl, ?_, h4, ?_, ?_, fun y hy => ?_⟩, fun k hk => .inl hk⟩)⟩
    · have hf : Fr [] w w1 := by
        rcases hw with rfl | rfl
        · exact Fr.refl _ _
        · exact (Fr.refl [] w).drewN 1
      exact (Fr.local_ (S := [it]) (hf.sub fun k hk => by cases hk) (heap_frS w1 it _) fun x hx => .inl hx)
    · have : w1.heap = w.heap := by rcases hw with rfl | rfl <;> rfl
      show (w1.heap.setIfInBounds it _)[g]? = _
      rw [Array.getElem?_setIfInBounds, if_neg hne, this]
      exact h3
    · have : w1.heap = w.heap := by rcases hw with rfl | rfl <;> rfl
      show (w1.heap.setIfInBounds it _)[it]? = _
      have hlt := (Array.getElem?_eq_some_iff.1 h5).1
      rw [Array.getElem?_setIfInBounds, if_pos rfl, this, if_pos hlt]
      rfl
    · have hb : ∀ y ∈ L, (y.2.2 = x.2.2 ↔ y.1 = x.1) := fun y hy => by
        have k1 := List.pairwise_map.1 h4.keys
        have k2 := List.pairwise_map.1 h4.borns
        by_cases hyx : y = x
        · subst hyx; simp
        · obtain ⟨i, hi, rfl⟩ := List.getElem_of_mem hy
          obtain ⟨j, hj, rfl⟩ := List.getElem_of_mem hxL
          have hij : i ≠ j := fun h => hyx (by subst h; rfl)
          rcases Nat.lt_or_gt_of_ne hij with h | h
          · have a1 := List.pairwise_iff_getElem.1 k1 i j hi hj h
            have a2 := List.pairwise_iff_getElem.1 k2 i j hi hj h
            exact ⟨fun e => absurd e a2, fun e => absurd e a1⟩
          · have a1 := List.pairwise_iff_getElem.1 k1 j i hj hi h
            have a2 := List.pairwise_iff_getElem.1 k2 j i hj hi h
            exact ⟨fun e => absurd e.symm a2, fun e => absurd e.symm a1⟩
      unfold ldel
      rw [List.filter_map, List.filter_filter]
      congr 1
      apply List.filter_congr
      intro y hy
      have := hb y hy
      simp only [Array.contains_push, Function.comp, ml]
      by_cases h1 : y.1 = x.1
      · have h2 := this.2 h1
        simp [h1, h2]
      · have h2 : ¬ y.2.2 = x.2.2 := fun e => h1 (this.1 e)
        simp [h1, h2]
    · injection hy with hy
      subst hy
      exact ⟨seen, x.2.2, rfl, hxL⟩
omit [DecidableEq κ] in
theorem Hp.etr {x : κ × ν} (H : Hp w0 w (star (mr ec ev it g l rest (some x)) F)) {K : Value → Prop} (hk : K (.tuple #[ec x.1, ev x.2])) : Etr P w (.pointer (some (Vc.blk it))) K := by
  obtain ⟨_, S, _, S1, S2, _, _, ⟨hS, hne, L, c, seen, rfl, h3, h4, h5, rfl, hc⟩, _⟩ := H
  obtain ⟨s0, b, rfl, hm⟩ := hc x rfl
  refine ⟨_, run_entry_at w it g c s0 _ c (ment ec ev (x.1, x.2, b)) h5 h3 ?_ ?_, hk⟩
  · simp only [ments]
    exact List.mem_map_of_mem hm
  · have : (ments ec ev L).toList.map (·.born) = L.map (·.2.2) := by simp [ments, ment]
    rw [this]
    exact h4.borns
omit [DecidableEq κ] in
theorem Hp.left (H : Hp w0 w (star (mr ec ev it g l rest cur) F)) : mleft it g w = rest.length := by
  obtain ⟨_, S, _, S1, S2, _, _, ⟨hS, hne, L, c, seen, rfl, h3, h4, h5, rfl, _⟩, _⟩ := H
  unfold mleft
  rw [h5, h3]
  simp only [leftOf, ments]
  rw [List.length_map, ← Array.length_toList, Array.toList_filter, List.filter_map, List.length_map]
  rfl
theorem ldel_lt {x : κ × ν} (hx : x ∈ rest) : (ldel rest x.1).length < rest.length := by
  unfold ldel
  rcases Nat.lt_or_ge (rest.filter fun y => decide (y.1 ≠ x.1)).length rest.length with h | h
  · exact h
  · have e := (List.filter_sublist (p := fun y : κ × ν => decide (y.1 ≠ x.1)) (l := rest)).eq_of_length_le h
    have h2 := List.filter_eq_self.1 e x hx
    simp at h2
end
section
variable {κ ν : Type} {ec : κ → Value} {ev : ν → Value} {w0 w : World} {F : Asn} {it g : Nat} {l rest : List (κ × ν)} {cur : Option (κ × ν)}
theorem Hp.mrKeys (H : Hp w0 w (star (mr ec ev it g l rest cur) F)) : (l.map (·.1)).Nodup ∧ (rest.map (·.1)).Nodup := by
  obtain ⟨_, S, _, S1, S2, _, _, ⟨hS, hne, L, c, seen, rfl, h3, h4, h5, rfl, hc⟩, _⟩ := H
  rw [List.map_map, List.map_map]
  exact ⟨h4.keys, h4.keys.sublist (List.Sublist.map _ List.filter_sublist)⟩
variable [DecidableEq κ]
theorem ldel_perm : ∀ {l : List (κ × ν)} {x : κ × ν}, (l.map (·.1)).Nodup → x ∈ l → l.Perm (x :: ldel l x.1)
  | y :: r, x, hn, hx => by
    simp only [List.map_cons, List.nodup_cons] at hn
    rcases List.mem_cons.1 hx with rfl | h
    · have : ldel (x :: r) x.1 = r := by
        unfold ldel
        rw [List.filter_cons]
        simp only [ne_eq, not_true_eq_false, decide_false, Bool.false_eq_true, if_false]
        refine List.filter_eq_self.2 fun z hz => ?_
        have : z.1 ≠ x.1 := fun e => hn.1 (e ▸ List.mem_map_of_mem hz)
        simpa using this
      rw [this]
    · have hne : y.1 ≠ x.1 := fun e => hn.1 (e ▸ List.mem_map_of_mem h)
      have : ldel (y :: r) x.1 = y :: ldel r x.1 := by
        unfold ldel
        rw [List.filter_cons]
        simp [hne]
      rw [this]
      exact ((ldel_perm hn.2 h).cons y).trans (List.Perm.swap _ _ _)
theorem llook_mem {l : List (κ × ν)} {k : κ} {v : ν} (h : llook l k = some v) : (k, v) ∈ l := by
  unfold llook at h
  obtain ⟨x, hx, rfl⟩ := Option.map_eq_some_iff.1 h
  have h1 := List.find?_some hx
  have h2 := List.mem_of_find?_eq_some hx
  simp at h1
  rw [← h1]
  exact h2
theorem llook_none {l : List (κ × ν)} {k : κ} (h : llook l k = none) : k ∉ l.map (·.1) := by
  unfold llook at h
  simp only [Option.map_eq_none_iff, List.find?_eq_none, decide_eq_true_eq] at h
  intro hk
  obtain ⟨x, hx, rfl⟩ := List.mem_map.1 hk
  exact h x hx rfl
theorem llook_cons (x : κ × ν) (l : List (κ × ν)) (k : κ) : llook (x :: l) k = if x.1 = k then some x.2 else llook l k := by
  unfold llook
  rw [List.find?_cons]
  by_cases h : x.1 = k <;> simp [h]
theorem llook_append (l l' : List (κ × ν)) (k : κ) : llook (l ++ l') k = (llook l k).or (llook l' k) := by
  induction l with
  | nil => rfl
  | cons x r ih =>
    rw [List.cons_append, llook_cons, llook_cons, ih]
    split <;> rfl
theorem llook_put (l : List (κ × ν)) (k k' : κ) (v : ν) : llook (lput l k v) k' = if k' = k then some v else llook l k' := by
  unfold lput
  split
  · rename_i hk
    induction l with
    | nil => simp at hk
    | cons x r ih =>
      rw [List.map_cons, llook_cons, llook_cons]
      by_cases hx : x.1 = k
      · rw [if_pos hx]
        by_cases h : k' = k
        · rw [h, if_pos hx, if_pos rfl]
        · have : ¬ x.1 = k' := fun e => h (e ▸ hx)
          rw [if_neg this, if_neg this, if_neg h]
          clear ih hk
          induction r with
          | nil => rfl
          | cons y r ih =>
            rw [List.map_cons, llook_cons, llook_cons]
            by_cases hy : y.1 = k
            · have hy' : ¬ y.1 = k' := fun e => h (e ▸ hy)
              rw [if_pos hy, if_neg hy', if_neg hy', ih]
            · rw [if_neg hy, ih]
      · rw [if_neg hx]
        have hk2 : k ∈ r.map (·.1) := by
          rcases List.mem_cons.1 (show k ∈ x.1 :: r.map (·.1) from by simpa using hk) with e | e
          · exact absurd e.symm hx
          · exact e
        rw [ih hk2]
        by_cases h1 : x.1 = k'
        · have : ¬ k' = k := fun e => hx (h1.trans e)
          rw [if_pos h1, if_neg this, if_pos h1]
        · rw [if_neg h1]
          by_cases h2 : k' = k
          · rw [if_pos h2, if_pos h2]
          · rw [if_neg h2, if_neg h2, if_neg h1]
  · rename_i hk
    rw [llook_append]
    by_cases h : k' = k
    · subst h
      rw [if_pos rfl]
      cases hl : llook l k' with
      | none => rw [llook_cons, if_pos rfl]; rfl
      | some u => exact absurd (List.mem_map_of_mem (f := (·.1)) (llook_mem hl)) hk
    · rw [if_neg h, llook_cons, if_neg (fun e => h e.symm)]
      cases llook l k' <;> rfl
end
namespace Asn
end Asn
end Go.Vc

namespace Go.Vc
open Go Go.Vc.Asn
section
variable {P : Program} {κ ν : Type} {ec : κ → Value} {ev : ν → Value} {w0 w : World} {A F : Asn} {g : Nat} {l : List (κ × ν)}
theorem Hp.mlen {t ty kt et : TypeId} (H : Hp w0 w (star (mp ec ev g l) F)) (ht : P.underlying t = some (.map kt et)) {K : Int → Prop} (hk : K (l.length : Int)) : MLen P t ty w (.map (some g)) K := by
  obtain ⟨L, q, rfl, h3, _⟩ := H.mheap
  refine ⟨(L.length : Int), ?_, by rw [List.length_map] at hk; exact hk⟩
  simp [Builtin.len_, run_underlying ht, MapKept.run_getObj_map h3, Result.andThen, goInt, ments]
theorem Hp.mclone {ρ : Go.Shelf.Ren} (L : Go.Proofs.SlLaysW.n5 P ρ) (H : Hp w0 w (star (mp ec ev g l) F)) :
    Calls P (ρ.f 5) #[.map (some g)] w (Rt fun v w' => ∃ g', v = .map (some g') ∧ Hp w0 w' (star (mp ec ev g' l) (star (mp ec ev g l) F))) := by
  obtain ⟨M, c, hl, hg, hI⟩ := H.mheap
  refine (Go.Proofs.AnyW.maps_Clone L g _ c w hg).mono ?_
  rintro _ _ ⟨rfl, rfl⟩
  have hw : w0.heap.size ≤ w.heap.size := H.fr.size
  refine ⟨w.heap.size, rfl, H.beside (w1 := w) ⟨alloc_fr w _, fun x => x = w.heap.size, fun x hx => by rw [hx]; exact Nat.le_refl _, fun x => Iff.rfl, M, c, hl, alloc_at w _, hI⟩⟩
end
end Go.Vc

namespace Go.Vc
open Go Go.Vc.Asn Go.Sort
def Gr (w w' : World) : Prop := ∃ (q : Nat) (os : Array Obj), w' = grow (w.drewN q) os
theorem Gr.refl (w : World) : Gr w w := ⟨0, #[], by simp; rfl⟩
theorem Gr.trans {a b c : World} (h : Gr a b) (k : Gr b c) : Gr a c := by
  obtain ⟨q, os, rfl⟩ := h
  obtain ⟨q', os', rfl⟩ := k
  refine ⟨q + q', os ++ os', ?_⟩
  unfold grow World.drewN
  simp [Nat.add_assoc, Array.append_assoc]
theorem Gr.alloc (w : World) (o : Obj) : Gr w (w.alloc o) := ⟨0, #[o], by rw [alloc_eq_grow]; rfl⟩
theorem Gr.fr {w w' : World} (h : Gr w w') : Fr [] w w' := by
  obtain ⟨q, os, rfl⟩ := h
  refine ⟨rfl, rfl, rfl, by simp [grow, World.drewN], fun k hk _ => ?_⟩
  simp only [grow, World.drewN, Array.getElem?_append]
  rw [if_pos hk]
theorem flat_get {α : Type} {enc : α → List Value} {k : Nat} (hk : ∀ x, (enc x).length = k) : ∀ (l : List α) (t : Nat), t < l.length * k → (l.flatMap enc)[t]? = (l[t / k]?).bind fun x => (enc x)[t % k]?
  | [], t, h => by simp at h
  | x :: r, t, h => by
    have hk0 : 0 < k := by rcases Nat.eq_zero_or_pos k with h0 | h0; · subst h0; simp at h
                           · exact h0
    rw [List.flatMap_cons]
    by_cases ht : t < k
    · rw [List.getElem?_append_left (by rw [hk]; exact ht), Nat.div_eq_of_lt ht, Nat.mod_eq_of_lt ht]
      simp
    · rw [List.getElem?_append_right (by rw [hk]; omega), hk, flat_get hk r (t - k) (by simp [Nat.add_mul] at h; omega)]
      have e1 : t / k = (t - k) / k + 1 := by rw [← Nat.add_div_right _ hk0]; congr 1; omega
      have e2 : t % k = (t - k) % k := by rw [Nat.mod_eq_sub_mod (by omega)]
      rw [e1, e2, List.getElem?_cons_succ]
theorem flat_len {α : Type} {enc : α → List Value} {k : Nat} (hk : ∀ x, (enc x).length = k) (l : List α) : (l.flatMap enc).length = l.length * k := by
  induction l with
  | nil => simp
  | cons x r ih => rw [List.flatMap_cons, List.length_append, ih, hk, List.length_cons, Nat.add_mul]; omega
theorem Cel.elem {α : Type} {enc : α → List Value} {k : Nat} {w : World} {s : Slc} {l : List α} (hk : ∀ x, (enc x).length = k) (h : Cel w s k (l.flatMap enc)) {i : Nat} {x : α} (hx : l[i]? = some x) (hk0 : 0 < k) : ∃ a, s.a = some a ∧ ∀ j v, (enc x)[j]? = some v → w.cell? ((a.add (i * k)).add j) = some v := by
  have hi := (List.getElem?_eq_some_iff.1 hx).1
  have hm : (i + 1) * k ≤ l.length * k := Nat.mul_le_mul_right _ hi
  rw [Nat.add_mul] at hm
  obtain ⟨a, ha, _⟩ := h.get (i := 0) (by rw [flat_len hk]; omega)
  refine ⟨a, ha, fun j v hv => ?_⟩
  have hj : j < k := by have := (List.getElem?_eq_some_iff.1 hv).1; rw [hk] at this; exact this
  have e1 : (i * k + j) / k = i := by rw [Nat.mul_comm, Nat.mul_add_div hk0, Nat.div_eq_of_lt hj]; rfl
  have e2 : (i * k + j) % k = j := by rw [Nat.mul_comm, Nat.mul_add_mod, Nat.mod_eq_of_lt hj]
  obtain ⟨q, hq, hc⟩ := h.at_ (i * k + j) v (by rw [flat_get hk _ _ (by omega), e1, e2, hx]; exact hv)
  rw [ha] at hq
  injection hq with hq
  rw [add_add, hq]
  exact hc
theorem Cel.flen {α : Type} {enc : α → List Value} {k : Nat} {w : World} {s : Slc} {l : List α} (hk : ∀ x, (enc x).length = k) (h : Cel w s k (l.flatMap enc)) (hk0 : 0 < k) : s.l = l.length := by
  have := h.len
  rw [flat_len hk] at this
  exact (Nat.eq_of_mul_eq_mul_right hk0 this).symm
section
variable {e size g n c : Nat} {w0 w : World} {A : Asn}
theorem Own.holds {F : Array Value} (h : Own e size w ⟨some (Vc.blk g), n, c⟩ F.toList) : Holds id w g 0 F := by
  intro j hj
  have hne : F.toList ≠ [] := by intro h0; simp at h0; subst h0; simp at hj
  obtain ⟨g', cur, h1, h2, h3, h4, h5, h6⟩ := h.some_ hne
  have hg : g = g' := by injection h1 with h1; injection h1
  subst hg
  have hc : cur[j]? = some F[j] := by
    have := congrArg (fun l => l[j]?) h6
    simp only [List.getElem?_take, Array.getElem?_toList] at this
    have hl : F.size = n * size := by simpa using h.1
    rw [if_pos (by show j < n * size; omega), Array.getElem?_eq_getElem hj] at this
    exact this
  refine ⟨?_, ?_⟩
  · rw [Nat.zero_add, h2.at_, hc, getElem!_pos F j hj]
    rfl
  · have := h2.frz (0 + j)
    rwa [blk_add] at this
theorem Hp.sorted {F F' : Array Value} (H : Hp w0 w (star (Asn.own e size ⟨some (Vc.blk g), n, c⟩ F.toList) A)) (hs : F'.size = F.size) (m : Nat) (os : Array Obj) : Hp w0 (grow (putRow id (Sort.ahead w m) g 0 F') os) (star (Asn.own e size ⟨some (Vc.blk g), n, c⟩ F'.toList) A) := by
  refine H.step fun S _ hp => ?_
  obtain ⟨h1, h2⟩ := hp
  have hlt : g < w.heap.size := h2.lt g (by simp [Slc.blks])
  have hb : (grow (putRow id (Sort.ahead w m) g 0 F') os).heap[g]? = (w.heap[g]?).map (onCells (putCells id 0 F')) := by
    simp only [grow, putRow, mapBlock, Sort.ahead]
    rw [Array.getElem?_append, if_pos (by simpa using hlt), Array.getElem?_modify, if_pos rfl]
  refine ⟨[g], S, fun k hk => (h1 k).2 (by simpa [Slc.blks] using hk), ⟨rfl, rfl, rfl, by simp [grow, putRow, mapBlock, Sort.ahead], fun k hk hn => ?_⟩, ⟨h1, ?_⟩, fun k hk => .inl hk⟩
  · simp only [List.mem_singleton] at hn
    simp only [grow, putRow, mapBlock, Sort.ahead]
    rw [Array.getElem?_append, if_pos (by simpa using hk), Array.getElem?_modify, if_neg (Ne.symm hn)]
  · rcases h2.2 with ⟨h3, _⟩ | ⟨g', cap, cur, h3, h4, h5, h6, h7, h8, h9⟩
    · simp at h3
    · have hg : g = g' := by simp only [Slc.v] at h3; injection h3 with h3 _ _; injection h3 with h3; injection h3
      have hcap : c = cap := by simp only [Slc.v] at h3; injection h3
      subst hg hcap
      have hl : F.size = n * size := by simpa using h2.1
      refine ⟨by simpa [hs] using hl, .inr ⟨g, c, putCells id 0 F' cur, rfl, h4, ?_, h6, h7, by simpa [putCells] using h8, ?_⟩⟩
      · rw [hb, h5]; rfl
      · apply List.ext_getElem?
        intro t
        rw [List.getElem?_take, Array.getElem?_toList, Array.getElem?_toList]
        simp only at hl h6
        have hle : n * size ≤ c * size := Nat.mul_le_mul_right _ h6
        by_cases ht : t < n * size
        · rw [if_pos ht]
          simp only [putCells, Array.getElem?_mapIdx]
          rw [Array.getElem?_eq_getElem (show t < cur.size by omega), Option.map_some, if_pos ⟨Nat.zero_le _, by omega⟩, Nat.sub_zero, getElem!_pos F' t (by omega), Array.getElem?_eq_getElem (show t < F'.size by omega)]
          rfl
        · rw [if_neg ht, Array.getElem?_eq_none (by omega)]
end
theorem putRow_enc {α : Type} [Inhabited α] (enc : α → Value) (w : World) (b off : Nat) (d : Array α) : putRow enc w b off d = putRow id w b off (d.map enc) := by
  unfold putRow
  refine mapBlock_congr _ _ _ _ fun cs _ _ _ => ?_
  unfold putCells
  apply Array.ext_getElem?
  intro k
  simp only [Array.getElem?_mapIdx, Array.size_map]
  congr 1
  funext x
  split
  · rename_i h
    have hk : k - off < d.size := by omega
    rw [getElem!_pos d _ hk, getElem!_pos _ _ (by simpa using hk), Array.getElem_map]
    rfl
  · rfl
theorem holds_enc {α : Type} [Inhabited α] (enc : α → Value) (w : World) (b off : Nat) (d : Array α) (h : Holds id w b off (d.map enc)) : Holds enc w b off d := by
  intro j hj
  have := h j (by simpa using hj)
  rw [getElem!_pos _ _ (by simpa using hj), Array.getElem_map] at this
  rw [getElem!_pos d j hj]
  exact this
end Go.Vc

namespace Go.Vc
open Go Go.Vc.Asn Go.Sort
def sortI (l : List Int) : List Int := l.mergeSort fun x y => decide (x ≤ y)
theorem Hp.sortI {P : Program} {ρ : Go.Shelf.Ren} {e : Nat} {w0 w : World} {F : Asn} {s : Slc} {l : List Int} (L : Go.Proofs.Lays.n189 P ρ) (hsz : l.length < 4611686018427387904) (H : Hp w0 w (star (Asn.own e 1 s (l.map (Value.int .i64))) F)) :
    Calls P (ρ.f 189) #[s.v] w (Rt fun v w' => v = .tuple #[] ∧ Hp w0 w' (star (Asn.own e 1 s ((sortI l).map (Value.int .i64))) F)) := by
  have hO0 := H.isOwn (s := s)
  have hlen : s.l = l.length := by
    have h := hO0.1
    simp at h
    omega
  by_cases h0 : l = []
  · subst h0
    obtain ⟨a, n, c⟩ := s
    simp only [List.length_nil] at hlen
    subst hlen
    refine (Go.Proofs.Any.slices_Sort_int_none L a c w).mono ?_
    rintro _ _ ⟨rfl, rfl⟩
    exact ⟨rfl, by simpa [Vc.sortI] using H⟩
  · obtain ⟨b, cur, ha, hB, h3, h4, h5, h6⟩ := hO0.some_ (by simpa using h0)
    obtain ⟨a, n, c⟩ := s
    simp only at ha hlen
    subst ha hlen
    have eF : ∀ d : List Int, d.map (Value.int .i64) = (d.toArray.map (Value.int .i64)).toList := fun d => by simp
    rw [eF] at H hO0
    have hH : Holds (Value.int .i64) w b 0 l.toArray := holds_enc (Value.int .i64) w b 0 l.toArray hO0.holds
    have hcon := Go.Proofs.Any.slices_Sort_int L b 0 c l w hH (hO0.lt b (by simp [Slc.blks])) hsz
    refine hcon.mono ?_
    rintro _ _ ⟨rfl, m, os, rfl⟩
    refine ⟨rfl, ?_⟩
    rw [eF, putRow_enc]
    exact H.sorted (by simp [List.length_mergeSort, Vc.sortI]) m os
end Go.Vc

namespace Go.Proofs
open Go.Shelf
def Tryz.sortInt_ren : Go.Shelf.Ren := ⟨fun | 189 => 47 | 125 => 84 | 257 => 83 | 128 => 122 | 129 => 123 | 294 => 113 | 295 => 114 | 296 => 115 | 297 => 116 | 298 => 117 | 299 => 118 | 216 => 119 | 300 => 120 | 301 => 121 | 328 => 148 | 329 => 149 | 330 => 150 | 331 => 151 | 332 => 152 | 215 => 92 | 343 => 166 | n => n, fun | 28 => 23 | 3 => 3 | 46 => 163 | 0 => 0 | 51 => 210 | 53 => 212 | 4 => 4 | 183 => 202 | 182 => 201 | 131 => 207 | 5 => 5 | 9 => 9 | 218 => 235 | 222 => 239 | 228 => 254 | 229 => 255 | n => n, fun | n => n⟩
theorem Tryz.sortInt : Go.Proofs.Lays.n189 Tryz.prog Tryz.sortInt_ren := {
  mixed := by kernel_rfl
  f125 := Tryz.func84.trans (congrArg some (by kernel_rfl))
  f128 := Tryz.func122.trans (congrArg some (by kernel_rfl))
  f129 := Tryz.func123.trans (congrArg some (by kernel_rfl))
  f189 := Tryz.func47.trans (congrArg some (by kernel_rfl))
  f215 := Tryz.func92.trans (congrArg some (by kernel_rfl))
  f216 := Tryz.func119.trans (congrArg some (by kernel_rfl))
  f257 := Tryz.func83.trans (congrArg some (by kernel_rfl))
  f294 := Tryz.func113.trans (congrArg some (by kernel_rfl))
  f295 := Tryz.func114.trans (congrArg some (by kernel_rfl))
  f296 := Tryz.func115.trans (congrArg some (by kernel_rfl))
  f297 := Tryz.func116.trans (congrArg some (by kernel_rfl))
  f298 := Tryz.func117.trans (congrArg some (by kernel_rfl))
  f299 := Tryz.func118.trans (congrArg some (by kernel_rfl))
  f300 := Tryz.func120.trans (congrArg some (by kernel_rfl))
  f301 := Tryz.func121.trans (congrArg some (by kernel_rfl))
  f328 := Tryz.func148.trans (congrArg some (by kernel_rfl))
  f329 := Tryz.func149.trans (congrArg some (by kernel_rfl))
  f330 := Tryz.func150.trans (congrArg some (by kernel_rfl))
  f331 := Tryz.func151.trans (congrArg some (by kernel_rfl))
  f332 := Tryz.func152.trans (congrArg some (by kernel_rfl))
  f343 := Tryz.func166.trans (congrArg some (by kernel_rfl))
  t0 := Tryz.underlying0
  a0 := Tryz.isAgg0
  z0 := Tryz.sizeOf0
  v0 := Tryz.zeroValue0
  t3 := Tryz.underlying3
  a3 := Tryz.isAgg3
  z3 := Tryz.sizeOf3
  v3 := Tryz.zeroValue3
  t4 := Tryz.underlying4
  a4 := Tryz.isAgg4
  z4 := Tryz.sizeOf4
  v4 := Tryz.zeroValue4
  t5 := Tryz.underlying5
  a5 := Tryz.isAgg5
  z5 := Tryz.sizeOf5
  v5 := Tryz.zeroValue5
  t9 := Tryz.underlying9
  a9 := Tryz.isAgg9
  z9 := Tryz.sizeOf9
  v9 := Tryz.zeroValue9
  t28 := Tryz.underlying23
  a28 := Tryz.isAgg23
  z28 := Tryz.sizeOf23
  v28 := Tryz.zeroValue23
  t46 := Tryz.underlying163
  a46 := Tryz.isAgg163
  z46 := Tryz.sizeOf163
  v46 := Tryz.zeroValue163
  t51 := Tryz.underlying210
  a51 := Tryz.isAgg210
  z51 := Tryz.sizeOf210
  v51 := Tryz.zeroValue210
  t53 := Tryz.underlying212
  a53 := Tryz.isAgg212
  z53 := Tryz.sizeOf212
  v53 := Tryz.zeroValue212
  t131 := Tryz.underlying207
  a131 := Tryz.isAgg207
  z131 := Tryz.sizeOf207
  v131 := Tryz.zeroValue207
  t182 := Tryz.underlying201
  a182 := Tryz.isAgg201
  z182 := Tryz.sizeOf201
  v182 := Tryz.zeroValue201
  t183 := Tryz.underlying202
  a183 := Tryz.isAgg202
  z183 := Tryz.sizeOf202
  v183 := Tryz.zeroValue202
  t218 := Tryz.underlying235
  a218 := Tryz.isAgg235
  z218 := Tryz.sizeOf235
  v218 := Tryz.zeroValue235
  t222 := Tryz.underlying239
  a222 := Tryz.isAgg239
  z222 := Tryz.sizeOf239
  v222 := Tryz.zeroValue239
  t228 := Tryz.underlying254
  a228 := Tryz.isAgg254
  z228 := Tryz.sizeOf254
  v228 := Tryz.zeroValue254
  t229 := Tryz.underlying255
  a229 := Tryz.isAgg255
  z229 := Tryz.sizeOf255
  v229 := Tryz.zeroValue255 }
end Go.Proofs

namespace Go.Proofs
open Go.Shelf
def Tryz.cloneRep_ren : Go.Shelf.Ren := ⟨fun | 5 => 82 | 7 => 93 | n => n, fun | 23 => 164 | 25 => 3 | 3 => 119 | 4 => 4 | 20 => 20 | n => n, fun | n => n⟩
theorem Tryz.cloneRep : Go.Proofs.SlLaysW.n5 Tryz.prog Tryz.cloneRep_ren := {
  mixed := by kernel_rfl
  f5 := ⟨Tryz.f82.name, by decide, Tryz.func82.trans (congrArg some (by kernel_rfl))⟩
  f7 := Tryz.func93.trans (congrArg some (by kernel_rfl))
  t4 := Tryz.underlying4
  a4 := Tryz.isAgg4
  z4 := Tryz.sizeOf4
  v4 := Tryz.zeroValue4
  t20 := Tryz.underlying20
  a20 := Tryz.isAgg20
  z20 := Tryz.sizeOf20
  v20 := Tryz.zeroValue20
  t23 := Tryz.underlying164
  a23 := Tryz.isAgg164
  z23 := Tryz.sizeOf164
  v23 := Tryz.zeroValue164 }
end Go.Proofs

namespace Go.Vc
structure Rp where
  top : Tg
  has : Bool
  data : Slc
abbrev Rp.v (r : Rp) : Value := .agg #[.int .i64 r.top.n, .int .i64 r.top.c, .bool r.has, r.data.v]
def Rp.no : Rp := ⟨Tg.zero, false, Slc.nil⟩
abbrev iK (n : Int) : Value := .int .i64 n
def missing (L : List (Int × Rp)) (n : Nat) : List Int := ((List.range n).map fun i : Nat => (i : Int)).filter fun i => (llook L i).isNone
end Go.Vc
namespace Go.Proofs.YtabifopphhpciaaGreatDoor
open Go Go.Vc Go.Vc.Asn
abbrev Ty_phase : TypeId := Ty_client_reply_166
def phA (p : Nat) (x : Cfg × List (Int × Rp)) : Asn := ex fun g => star (bk p Ty_phase #[.int .i64 x.1.N, .int .i64 x.1.K, .int .i64 x.1.D, .map (some g)]) (mp iK Rp.v g x.2)
theorem und_map : PP.underlying Ty_map_int_client_reply = some (.map Ty_int Ty_client_reply) := by kernel_rfl
theorem zero_reply (w : World) : (zeroValue Ty_client_reply).run PP w = .ok Rp.no.v w := run_zero zero_119
theorem keyT_i : KeyT PP Ty_int iK := keyT_int und_int
section
variable {w0 w : World} {F : Asn} {p : Nat} {c : Cfg} {L : List (Int × Rp)} {s : Int} {r : Rp}
theorem llook_v (L : List (Int × Rp)) (s : Int) : ((llook L s).map Rp.v).getD Rp.no.v = ((llook L s).getD Rp.no).v := by cases llook L s <;> rfl
theorem ph_open (H : Hp w0 w (star (phA p (c, L)) F)) : ∃ g, Hp w0 w (star (bk p Ty_phase #[.int .i64 c.N, .int .i64 c.K, .int .i64 c.D, .map (some g)]) (star (mp iK Rp.v g L) F)) := by
  obtain ⟨g, H⟩ := H.ex
  exact ⟨g, H.assoc⟩
theorem ph_close {g : Nat} (H : Hp w0 w (star (bk p Ty_phase #[.int .i64 c.N, .int .i64 c.K, .int .i64 c.D, .map (some g)]) (star (mp iK Rp.v g L) F))) : Hp w0 w (star (phA p (c, L)) F) := H.assoc'.exI g
theorem pnew_c (h : c.Ok) : Calls PP F_phase_New #[c.v] w (Rt fun v w' => ∃ p, v = .tuple #[.pointer (some (blk p)), .int .i64 0] ∧ Hp w w' (star (phA p (c, [])) emp)) := by
  refine sim_phase_New _ _ _ _ _ ?_
  unfold vc_phase_New
  refine (Hp.start w).new fun b w1 H => call (check_c h) ?_
  rintro _ w2 ⟨rfl, f2⟩
  have H := H.fr0 f2
  refine ⟨_, rfl, fun h => absurd h (by decide), fun _ => ⟨_, H.cell (b := b) (i := 0) rfl, _, H.cell (b := b) (i := 1) rfl, _, H.cell (b := b) (i := 2) rfl, H.newM iK Rp.v fun g w3 H => H.new fun q w4 H => Rt.ok ⟨q, rfl, ph_close (g := g) ?_⟩⟩⟩
  exact ((H.blk b).drop.blk q).ent (Ent.star (Ent.refl _) (emp_r.trans (Ent.star emp_r' (Ent.refl _))))
theorem pget_c (H : Hp w0 w (star (phA p (c, L)) F)) : Calls PP F_client_reply_Get #[.pointer (some (blk p)), .int .i64 s] w (Rt fun v w' => v = .tuple #[((llook L s).getD Rp.no).v, .bool (llook L s).isSome] ∧ Fr [] w w') := by
  obtain ⟨g, H⟩ := ph_open H
  refine sim_client_reply_Get _ _ _ _ ?_
  unfold vc_client_reply_Get
  refine nw fun b w1 I f1 => I.new fun b2 w2 I => ⟨fun h => by simp at h, fun _ => ⟨_, rfl, ?_⟩⟩
  have H := H.fr0 I.fr
  refine ⟨_, H.cell (b := p) (i := 3) rfl, Hp.lkp (g := g) (ev := Rp.v) H keyT_i und_map (zero_reply _) ?_⟩
  rw [if_pos rfl, llook_v]
  refine ⟨_, _, _, _, _, rfl, I.new fun b3 w3 I => I.stoAll (b := b3) (by rfl) fun w4 I => ⟨_, I.cell (b := b3) (i := 0) rfl, _, I.cell (b := b3) (i := 1) rfl, _, I.cell (b := b3) (i := 2) rfl, _, I.cell (b := b3) (i := 3) rfl, I.stoAll (b := b) (by rfl) fun w5 I => ⟨_, I.cell (b := b) (i := 0) rfl, _, I.cell (b := b) (i := 1) rfl, _, I.cell (b := b) (i := 2) rfl, _, I.cell (b := b) (i := 3) rfl, Rt.ok ⟨rfl, I.fr⟩⟩⟩⟩
theorem panswer_c (h0 : 0 ≤ s) (h1 : s < c.N) (H : Hp w0 w (star (phA p (c, L)) F)) : Calls PP F_client_reply_Answer #[.pointer (some (blk p)), .int .i64 s, r.v] w (Rt fun v w' => v = .tuple #[.bool (!(llook L s).isSome), .int .i64 0] ∧ Hp w0 w' (star (phA p (c, lput L s r)) F)) := by
  obtain ⟨g, H⟩ := ph_open H
  refine sim_client_reply_Answer _ _ _ _ _ _ _ _ ?_
  unfold vc_client_reply_Answer
  refine H.new fun b w1 H => ⟨fun h => by simp at h, fun _ => ⟨decide (c.N ≤ s), fun _ => ⟨_, rfl, _, H.cell2 (b := p) (i := 0) (j := 0) rfl, rfl⟩, fun h => ?_, fun h => ?_, fun _ => ⟨_, rfl, _, H.cell (b := p) (i := 3) rfl, Hp.lkp (g := g) (ev := Rp.v) H keyT_i und_map (zero_reply _) ?_⟩⟩⟩
  · simp at h; omega
  · simp at h; omega
  rw [if_pos rfl, llook_v]
  refine ⟨_, _, _, _, _, rfl, H.new fun b3 w3 H => H.stoAll (b := b3) (by rfl) fun w4 H => ?_⟩
  have H := H.drew 1
  refine ⟨_, H.cell (b := p) (i := 3) rfl, _, H.cell (b := b) (i := 0) rfl, _, H.cell (b := b) (i := 1) rfl, _, H.cell (b := b) (i := 2) rfl, _, H.cell (b := b) (i := 3) rfl, Hp.mup (g := g) (ev := Rp.v) (v := r) H keyT_i und_map fun w6 H => Rt.ok ⟨rfl, ?_⟩⟩
  exact ph_close (((H.blk b).drop.blk b3).drop.blk p |>.take (mp iK Rp.v g (lput L s r)) |>.blk p)
theorem pmet_c (hc : c.Ok) (H : Hp w0 w (star (phA p (c, L)) F)) : Calls PP F_client_reply_Met #[.pointer (some (blk p))] w (Rt fun v w' => v = .bool (decide ((c.N + c.K + 1) / 2 ≤ (L.length : Int))) ∧ Fr [] w w') := by
  obtain ⟨g, H⟩ := ph_open H
  refine sim_client_reply_Met _ _ _ ?_
  unfold vc_client_reply_Met
  refine ⟨fun h => by simp at h, fun _ => ⟨_, rfl, _, H.cell2 (b := p) (i := 0) (j := 0) rfl, _, H.cell2 (b := p) (i := 0) (j := 1) rfl, _, H.cell2 (b := p) (i := 0) (j := 2) rfl, call (size_q hc) ?_⟩⟩
  rintro _ w1 ⟨rfl, f1⟩
  have H := H.fr0 f1
  refine ⟨_, _, rfl, _, H.cell (b := p) (i := 3) rfl, Hp.mlen (g := g) (H.take (mp iK Rp.v g L)) und_map (Rt.ok ⟨rfl, f1⟩)⟩
theorem missing_succ (L : List (Int × Rp)) (n : Nat) : missing L (n + 1) = missing L n ++ if (llook L (n : Int)).isNone then [(n : Int)] else [] := by
  unfold missing
  rw [List.range_succ, List.map_append, List.filter_append]
  congr 1
  simp only [List.map_cons, List.map_nil, List.filter_cons, List.filter_nil]
theorem one_i (x : Int) : ∀ u ∈ [Value.int .i64 x], u.oneCell' = true := by
  intro u hu
  rw [List.mem_singleton.1 hu]
  rfl
theorem pmissing_c {n : Nat} (hn : c.N = (n : Int)) (hn2 : n ≤ 255) (H : Hp w0 w (star (phA p (c, L)) F)) :
    Calls PP F_client_reply_Missing #[.pointer (some (blk p))] w (Rt fun v w' => ∃ s, v = Slc.v s ∧ Hp w w' (star (own Ty_int 1 s ((missing L n).map iK)) emp)) := by
  obtain ⟨g, H⟩ := ph_open H
  refine sim_client_reply_Missing _ _ _ ?_
  unfold vc_client_reply_Missing
  refine ⟨fun h => by simp at h, fun _ => ⟨_, rfl, _, H.cell2 (b := p) (i := 0) (j := 0) rfl, ?_⟩⟩
  rw [hn]
  refine ⟨fun s i w' => ∃ k : Nat, i = (k : Int) ∧ k ≤ n ∧ Hp w w' (star (own Ty_int 1 s ((missing L k).map iK)) emp), fun _ i _ => n - i.toNat, ⟨0, rfl, Nat.zero_le _, (Hp.start w).nilRow Ty_int 1⟩, ?_⟩
  rintro s _ w1 ⟨k, rfl, hk, I⟩
  refine ⟨fun h => ?_, fun h => ?_⟩
  · simp only [decide_eq_true_eq] at h
    have H := H.fr0 I.fr
    have e1 : wr .i64 ((k : Int) + 1) = ((k + 1 : Nat) : Int) := by rw [wr64 (by omega) (by omega)]; omega
    have hml : (missing L k).length ≤ k := by
      unfold missing
      refine Nat.le_trans (List.length_filter_le _ _) ?_
      simp
    have hsl : s.l = (missing L k).length := by
      have := (I.cel (s := s)).len
      simp at this
      omega
    refine ⟨fun s w' => Hp w w' (star (own Ty_int 1 s ((missing L (k + 1)).map iK)) emp), ⟨_, H.cell (b := p) (i := 3) rfl, Hp.lkp (g := g) (ev := Rp.v) H keyT_i und_map (zero_reply _) ?_⟩, fun s' w2 I => ⟨⟨k + 1, e1, by omega, I⟩, by rw [e1]; dsimp only; omega⟩⟩
    rw [if_pos rfl, llook_v]
    refine ⟨_, _, _, _, _, rfl, I.new fun b w2 I => I.stoAll (b := b) (by rfl) fun w3 I => ⟨fun h => ?_, fun h => ?_⟩⟩
    · have I := (I.blk b).drop
      have hnone : (llook L (k : Int)).isNone = true := by cases hx : llook L (k : Int) <;> simp [hx] at h ⊢
      refine I.newRow (e := Ty_int) (n := 1) (size := 1) [.int .i64 (k : Int)] rfl rfl (by decide) fun b w4 I => ?_
      refine I.app (s := s) slT_sl_int (I.cel (s := ⟨some (blk b), 1, 1⟩)) (one_i _) (by unfold maxLen; simp only; omega) (by simp only; omega) fun s' w5 I _ => ?_
      have I := (I.own ⟨some (blk b), 1, 1⟩).drop
      rw [missing_succ, if_pos hnone, List.map_append]
      exact I
    · have I := (I.blk b).drop
      rw [missing_succ, if_neg, List.append_nil]
      · exact I
      · cases hx : llook L (k : Int) <;> simp [hx] at h ⊢
  · simp only [decide_eq_false_iff_not] at h
    have : k = n := by omega
    subst this
    exact Rt.ok ⟨s, rfl, I⟩
end
end Go.Proofs.YtabifopphhpciaaGreatDoor

namespace Go.Proofs.YtabifopphhpciaaGreatDoor
open Go Go.Vc Go.Vc.Asn
theorem callV {fv : Value} {args : Array Value} {w : World} {Post : Value → World → Prop} {K : Value → World → Prop} {Kp : List PanicEntry → World → Prop}
    (h : CallV PP fv args w (Rt Post)) (k : ∀ v w', Post v w' → K v w') : CallV PP fv args w (CallK K Kp) := by
  obtain ⟨f, cap, h1, h2, h3⟩ := h
  exact ⟨f, cap, h1, h2, call h3 k⟩
def keysOf (L : List (Int × Rp)) : List Int := sortI (L.map (·.1))
theorem keysOf_perm (L : List (Int × Rp)) : (keysOf L).Perm (L.map (·.1)) := List.mergeSort_perm _ _
theorem keysOf_len (L : List (Int × Rp)) : (keysOf L).length = L.length := by rw [(keysOf_perm L).length_eq, List.length_map]
theorem sortI_ext {l l' : List Int} (h : l.Perm l') : sortI l = sortI l' := by
  have hs : ∀ m : List Int, List.Pairwise (fun x y => x ≤ y) (sortI m) := fun m => by
    have := List.pairwise_mergeSort (le := fun x y : Int => decide (x ≤ y)) (fun a b c h1 h2 => by simp at h1 h2 ⊢; omega) (fun a b => by simp; omega) m
    simpa [sortI] using this
  exact ((List.mergeSort_perm l _).trans (h.trans (List.mergeSort_perm l' _).symm)).eq_of_pairwise (fun a b _ _ h1 h2 => Int.le_antisymm h1 h2) (hs l) (hs l')
section
variable {w0 w : World} {F : Asn} {p : Nat} {c : Cfg} {L : List (Int × Rp)} {y : Value} {J : Nat → Asn} {stop : Nat → Bool}
theorem peach_c (hL : L.length ≤ 1099511627776) (hy : ∃ f a b, y = .func f a b)
    (step : ∀ (i : Nat) (hi : i < (keysOf L).length) (w : World) (A : Asn), (∀ j, j < i → stop j = false) → Hp w0 w (star (J i) A) →
      CallV PP y #[.int .i64 (keysOf L)[i], ((llook L (keysOf L)[i]).getD Rp.no).v] w (Rt fun v w' => v = .bool (!(stop i)) ∧ Hp w0 w' (star (J (i + 1)) A)))
    (H : Hp w0 w (star (phA p (c, L)) (star (J 0) F))) :
    Calls PP F_client_reply_Each #[.pointer (some (blk p)), y] w (Rt fun v w' => v = .tuple #[] ∧
      ∃ i, i ≤ (keysOf L).length ∧ ((i = (keysOf L).length ∧ ∀ j, j < i → stop j = false) ∨ (∃ j, i = j + 1 ∧ stop j = true ∧ ∀ j', j' < j → stop j' = false)) ∧ Hp w0 w' (star (phA p (c, L)) (star (J i) F))) := by
  obtain ⟨g, H⟩ := ph_open H
  refine sim_client_reply_Each _ _ _ _ ?_
  unfold vc_client_reply_Each
  obtain ⟨f, a, b, rfl⟩ := hy
  refine ⟨false, fun _ => ⟨false, .inr ⟨⟨f, a, b, rfl⟩, rfl⟩, rfl⟩, fun h => by simp at h, fun h => by simp at h, fun _ => ⟨_, rfl, _, H.cell (b := p) (i := 3) rfl, ?_⟩⟩
  have hne : (llook L) = llook L := rfl
  generalize hB : bk p Ty_phase #[.int .i64 c.N, .int .i64 c.K, .int .i64 c.D, .map (some g)] = B at H
  have H := H.take (mp iK Rp.v g L)
  refine Hp.rng und_map H fun it w1 H => ?_
  refine ⟨fun s w' => ∃ (rest : List (Int × Rp)) (ks : List Int) (cur : Option (Int × Rp)), (ks ++ rest.map (·.1)).Perm (L.map (·.1)) ∧ Hp w0 w' (star (mr iK Rp.v it g L rest cur) (star (own Ty_int 1 s (ks.map iK)) (star B (star (J 0) F)))), fun _ w => mleft it g w, ⟨L, [], none, by simp, ?_⟩, ?_⟩
  · exact H.ent (Ent.star (Ent.refl _) (fun w S h => ⟨fun _ => False, S, fun k => by simp, fun k h => h.elim, ⟨fun k => by simp [Slc.blks], Own.nil _ _ _⟩, h⟩))
  rintro s w2 ⟨rest, ks, cur, hp, H⟩
  have hm := H.left
  have hk := H.mrKeys.2
  have hlen : ks.length + rest.length = L.length := by have := hp.length_eq; simpa using this
  have hsl : s.l = ks.length := by
    have := (H.cel (s := s)).len
    simp at this
    omega
  refine H.nxt (fun hr => ⟨(fun h => nomatch h), fun _ => ?_⟩) fun x hx w3 H => ⟨fun _ => ?_, fun h => nomatch h⟩
  · subst hr
    have hts : ks.Perm (L.map (·.1)) := by simpa using hp
    have H := H.mrEnd.own s
    refine call (Hp.sortI Tryz.sortInt (by simp at hlen; omega) H) ?_
    rintro _ w3 ⟨rfl, H⟩
    rw [sortI_ext hts] at H
    subst hB
    have H : Hp w0 w3 (star (own Ty_int 1 s ((keysOf L).map iK)) (star (mp iK Rp.v g L) (star (bk p Ty_phase #[.int .i64 c.N, .int .i64 c.K, .int .i64 c.D, .map (some g)]) (star (J 0) F)))) := H
    refine ⟨rfl, _, H.cell (b := p) (i := 3) rfl, call (Hp.mclone Tryz.cloneRep (H.take (mp iK Rp.v g L))) ?_⟩
    rintro _ w4 ⟨g', rfl, H⟩
    have H := H.take (J 0)
    have hKl := keysOf_len L
    refine ⟨_, rfl, fun z w' => ∃ i : Nat, z = (i : Int) ∧ i ≤ (keysOf L).length ∧ (∀ j, j < i → stop j = false) ∧ Hp w0 w' (star (J i) (star (mp iK Rp.v g' L) (star (mp iK Rp.v g L) (star (own Ty_int 1 s ((keysOf L).map iK)) (star (bk p Ty_phase #[.int .i64 c.N, .int .i64 c.K, .int .i64 c.D, .map (some g)]) F))))), fun z _ => (keysOf L).length - z.toNat, ⟨0, rfl, Nat.zero_le _, fun j hj => absurd hj (Nat.not_lt_zero _), H⟩, ?_⟩
    rintro _ w5 ⟨i, rfl, hi, hst, H⟩
    have hsl2 : s.l = (keysOf L).length := by
      have := (H.cel (s := s)).len
      simp at this
      omega
    have hfin : ∀ {i : Nat} {w' : World}, Hp w0 w' (star (J i) (star (mp iK Rp.v g' L) (star (mp iK Rp.v g L) (star (own Ty_int 1 s ((keysOf L).map iK)) (star (bk p Ty_phase #[.int .i64 c.N, .int .i64 c.K, .int .i64 c.D, .map (some g)]) F))))) → Hp w0 w' (star (phA p (c, L)) (star (J i) F)) := fun {i w'} H => by
      have H := (H.take (mp iK Rp.v g' L)).drop
      have H := (H.own s).drop
      exact ph_close ((H.take (mp iK Rp.v g L)).blk p)
    refine ⟨fun h => ?_, fun h => ?_⟩
    · simp only [decide_eq_true_eq] at h
      have hlt : i < (keysOf L).length := by omega
      obtain ⟨a2, ha, hc⟩ := (H.cel (s := s)).at_ i (iK (keysOf L)[i]) (by simp [List.getElem?_eq_getElem hlt])
      have e1 : wr .i64 ((i : Int) + 1) = ((i + 1 : Nat) : Int) := by rw [wr64 (by omega) (by omega)]; omega
      refine ⟨a2, ha, by omega, by omega, _, by rw [Int.toNat_natCast, Nat.mul_one]; exact hc, Hp.lkp (g := g') (ev := Rp.v) (H.take (mp iK Rp.v g' L)) keyT_i und_map (zero_reply _) ?_⟩
      simp only [Bool.false_eq_true, if_false]
      rw [llook_v]
      refine ⟨_, _, _, _, rfl, callV (step i hlt _ _ hst H) ?_⟩
      rintro _ w6 ⟨rfl, H⟩
      refine ⟨_, rfl, fun hs => ?_, fun hs => ?_⟩
      · have hs : stop i = true := by simpa using hs
        exact Rt.ok ⟨rfl, i + 1, by omega, .inr ⟨i, rfl, hs, hst⟩, hfin H⟩
      · have hs : stop i = false := by simpa using hs
        refine ⟨⟨i + 1, e1, by omega, fun j hj => ?_, H⟩, by rw [e1]; omega⟩
        rcases Nat.lt_succ_iff_lt_or_eq.1 hj with hj | rfl
        · exact hst j hj
        · exact hs
    · simp only [decide_eq_false_iff_not] at h
      have hie : i = (keysOf L).length := by omega
      exact Rt.ok ⟨rfl, i, hi, .inl ⟨hie, hst⟩, hfin H⟩
  · have hm2 := H.left
    have hlt := ldel_lt hx
    have hp2 := (ldel_perm hk hx).map (·.1)
    have hpos : 0 < rest.length := List.length_pos_of_mem hx
    refine H.etr ⟨_, _, _, _, _, rfl, H.newRow (e := Ty_int) (n := 1) (size := 1) [.int .i64 x.1] rfl rfl (by decide) fun b32 w4 H => ?_⟩
    refine H.app (s := s) slT_sl_int (H.cel (s := ⟨some (blk b32), 1, 1⟩)) (one_i _) (by unfold maxLen; simp only; omega) (by simp only; omega) fun s' w5 H _ => ?_
    have H := ((H.own ⟨some (blk b32), 1, 1⟩).drop.own s').take (mr iK Rp.v it g L (ldel rest x.1) (some x))
    have hm3 := H.left
    refine ⟨⟨ldel rest x.1, ks ++ [x.1], some x, ?_, ?_⟩, by dsimp only; omega⟩
    · refine List.Perm.trans ?_ hp
      rw [List.append_assoc]
      exact List.Perm.append_left _ hp2.symm
    · rw [List.map_append]
      exact H
end
end Go.Proofs.YtabifopphhpciaaGreatDoor

namespace Go.Gf
def dbl (n : Nat) : Nat := if 255 < 2 * n then (2 * n) ^^^ 285 else 2 * n
def pw : Nat → Nat
  | 0 => 1
  | i + 1 => dbl (pw i)
def expT : List Nat := [1, 2, 4, 8, 16, 32, 64, 128, 29, 58, 116, 232, 205, 135, 19, 38, 76, 152, 45, 90, 180, 117, 234, 201, 143, 3, 6, 12, 24, 48, 96, 192, 157, 39, 78, 156, 37, 74, 148, 53, 106, 212, 181, 119, 238, 193, 159, 35, 70, 140, 5, 10, 20, 40, 80, 160, 93, 186, 105, 210, 185, 111, 222, 161, 95, 190, 97, 194, 153, 47, 94, 188, 101, 202, 137, 15, 30, 60, 120, 240, 253, 231, 211, 187, 107, 214, 177, 127, 254, 225, 223, 163, 91, 182, 113, 226, 217, 175, 67, 134, 17, 34, 68, 136, 13, 26, 52, 104, 208, 189, 103, 206, 129, 31, 62, 124, 248, 237, 199, 147, 59, 118, 236, 197, 151, 51, 102, 204, 133, 23, 46, 92, 184, 109, 218, 169, 79, 158, 33, 66, 132, 21, 42, 84, 168, 77, 154, 41, 82, 164, 85, 170, 73, 146, 57, 114, 228, 213, 183, 115, 230, 209, 191, 99, 198, 145, 63, 126, 252, 229, 215, 179, 123, 246, 241, 255, 227, 219, 171, 75, 150, 49, 98, 196, 149, 55, 110, 220, 165, 87, 174, 65, 130, 25, 50, 100, 200, 141, 7, 14, 28, 56, 112, 224, 221, 167, 83, 166, 81, 162, 89, 178, 121, 242, 249, 239, 195, 155, 43, 86, 172, 69, 138, 9, 18, 36, 72, 144, 61, 122, 244, 245, 247, 243, 251, 235, 203, 139, 11, 22, 44, 88, 176, 125, 250, 233, 207, 131, 27, 54, 108, 216, 173, 71, 142]
def logT : List Nat := [0, 0, 1, 25, 2, 50, 26, 198, 3, 223, 51, 238, 27, 104, 199, 75, 4, 100, 224, 14, 52, 141, 239, 129, 28, 193, 105, 248, 200, 8, 76, 113, 5, 138, 101, 47, 225, 36, 15, 33, 53, 147, 142, 218, 240, 18, 130, 69, 29, 181, 194, 125, 106, 39, 249, 185, 201, 154, 9, 120, 77, 228, 114, 166, 6, 191, 139, 98, 102, 221, 48, 253, 226, 152, 37, 179, 16, 145, 34, 136, 54, 208, 148, 206, 143, 150, 219, 189, 241, 210, 19, 92, 131, 56, 70, 64, 30, 66, 182, 163, 195, 72, 126, 110, 107, 58, 40, 84, 250, 133, 186, 61, 202, 94, 155, 159, 10, 21, 121, 43, 78, 212, 229, 172, 115, 243, 167, 87, 7, 112, 192, 247, 140, 128, 99, 13, 103, 74, 222, 237, 49, 197, 254, 24, 227, 165, 153, 119, 38, 184, 180, 124, 17, 68, 146, 217, 35, 32, 137, 46, 55, 63, 209, 91, 149, 188, 207, 205, 144, 135, 151, 178, 220, 252, 190, 97, 242, 86, 211, 171, 20, 42, 93, 158, 132, 60, 57, 83, 71, 109, 65, 162, 31, 45, 67, 216, 183, 123, 164, 118, 196, 23, 73, 236, 127, 12, 111, 246, 108, 161, 59, 82, 41, 157, 85, 170, 251, 96, 134, 177, 187, 204, 62, 90, 203, 89, 95, 176, 156, 169, 160, 81, 11, 245, 22, 235, 122, 117, 44, 215, 79, 174, 213, 233, 230, 231, 173, 232, 116, 214, 244, 234, 168, 80, 88, 175]
def lg (x : Nat) : Nat := logT.getD x 0
theorem pw_tab : ∀ i : Fin 255, pw i.val = expT.getD i.val 0 ∧ expT.getD i.val 0 < 256 ∧ expT.getD i.val 0 ≠ 0 ∧ lg (expT.getD i.val 0) = i.val := by decide +kernel
theorem lg_tab : ∀ x : Fin 256, x.val ≠ 0 → expT.getD (lg x.val) 0 = x.val ∧ lg x.val < 255 := by decide +kernel
theorem dbl_xor_tab : ∀ x y : Fin 256, dbl (x.val ^^^ y.val) = dbl x.val ^^^ dbl y.val := by decide +kernel
theorem dbl_tab : ∀ x : Fin 256, dbl x.val < 256 := by decide +kernel
theorem pw_255 : pw 255 = 1 := by decide +kernel
theorem pw_add (i : Nat) : ∀ j, pw (i + 255 + j) = pw (i + j)
  | 0 => by
    induction i with
    | zero => show pw 255 = pw 0; exact pw_255
    | succ i ih =>
      show pw (i + 1 + 255) = pw (i + 1)
      rw [show i + 1 + 255 = (i + 255) + 1 by omega]
      show dbl (pw (i + 255)) = dbl (pw i)
      have : pw (i + 255) = pw i := ih
      rw [this]
  | j + 1 => by
    show dbl (pw (i + 255 + j)) = dbl (pw (i + j))
    rw [pw_add i j]
theorem pw_mod (i : Nat) : pw (i % 255) = pw i := by
  have h : ∀ q r, pw (r + 255 * q) = pw r := fun q r => by
    induction q with
    | zero => rfl
    | succ q ih =>
      have := pw_add r (255 * q)
      rw [show r + 255 * (q + 1) = r + 255 + 255 * q by omega, this, ih]
  conv => rhs; rw [← Nat.mod_add_div i 255]
  exact (h _ _).symm
theorem pw_lt (i : Nat) : pw i < 256 ∧ pw i ≠ 0 := by
  rw [← pw_mod i]
  have h := pw_tab ⟨i % 255, Nat.mod_lt _ (by decide)⟩
  simp only at h
  rw [h.1]
  exact ⟨h.2.1, h.2.2.1⟩
theorem lg_pw (i : Nat) : lg (pw i) = i % 255 := by
  rw [← pw_mod i]
  have h := pw_tab ⟨i % 255, Nat.mod_lt _ (by decide)⟩
  simp only at h
  rw [h.1]
  exact h.2.2.2
theorem pw_lg {x : Nat} (hx : x < 256) (h0 : x ≠ 0) : pw (lg x) = x ∧ lg x < 255 := by
  have h := lg_tab ⟨x, hx⟩ h0
  simp only at h
  have h2 := pw_tab ⟨lg x, h.2⟩
  simp only at h2
  exact ⟨by rw [h2.1, h.1], h.2⟩
theorem exists_pw {x : Nat} (hx : x < 256) (h0 : x ≠ 0) : ∃ i, x = pw i := ⟨lg x, (pw_lg hx h0).1.symm⟩
def mulN (a b : Nat) : Nat := if a = 0 ∨ b = 0 then 0 else pw (lg a + lg b)
theorem mulN_pw (i j : Nat) : mulN (pw i) (pw j) = pw (i + j) := by
  unfold mulN
  rw [if_neg (fun h => h.elim (pw_lt i).2 (pw_lt j).2), lg_pw, lg_pw, ← pw_mod (i + j), ← pw_mod (i % 255 + j % 255), ← Nat.add_mod]
def dblN : Nat → Nat → Nat
  | 0, x => x
  | i + 1, x => dbl (dblN i x)
theorem dblN_pw (i j : Nat) : dblN i (pw j) = pw (i + j) := by
  induction i with
  | zero => show pw j = pw (0 + j); rw [Nat.zero_add]
  | succ i ih => show dbl (dblN i (pw j)) = _; rw [ih, show i + 1 + j = (i + j) + 1 by omega]; rfl
theorem dblN_zero (i : Nat) : dblN i 0 = 0 := by
  induction i with
  | zero => rfl
  | succ i ih => show dbl (dblN i 0) = 0; rw [ih]; rfl
theorem dblN_lt {x : Nat} (hx : x < 256) (i : Nat) : dblN i x < 256 := by
  induction i with
  | zero => exact hx
  | succ i ih => exact dbl_tab ⟨dblN i x, ih⟩
theorem xor_lt {x y : Nat} (hx : x < 256) (hy : y < 256) : x ^^^ y < 256 := Nat.xor_lt_two_pow (n := 8) hx hy
theorem dblN_xor {x y : Nat} (hx : x < 256) (hy : y < 256) (i : Nat) : dblN i (x ^^^ y) = dblN i x ^^^ dblN i y := by
  induction i with
  | zero => rfl
  | succ i ih =>
    show dbl (dblN i (x ^^^ y)) = dbl (dblN i x) ^^^ dbl (dblN i y)
    rw [ih]
    exact dbl_xor_tab ⟨_, dblN_lt hx i⟩ ⟨_, dblN_lt hy i⟩
theorem mulN_dblN {x : Nat} (hx : x < 256) (i : Nat) : mulN (pw i) x = dblN i x := by
  by_cases h0 : x = 0
  · subst h0
    unfold mulN
    rw [if_pos (.inr rfl), dblN_zero]
  · obtain ⟨j, rfl⟩ := exists_pw hx h0
    rw [mulN_pw, dblN_pw]
theorem mulN_lt (a b : Nat) : mulN a b < 256 := by
  unfold mulN
  split
  · decide
  · exact (pw_lt _).1
def mul (a b : UInt8) : UInt8 := UInt8.ofNat (mulN a.toNat b.toNat)
def inv (a : UInt8) : UInt8 := UInt8.ofNat (pw (255 - lg a.toNat))
theorem mul_toNat (a b : UInt8) : (mul a b).toNat = mulN a.toNat b.toNat := by
  unfold mul
  rw [UInt8.toNat_ofNat']
  exact Nat.mod_eq_of_lt (mulN_lt _ _)
theorem toNat_ne {a : UInt8} (h : a ≠ 0) : a.toNat ≠ 0 := fun e => h (UInt8.toNat_inj.1 e)
theorem mul_zero (a : UInt8) : mul a 0 = 0 := UInt8.toNat_inj.1 (by rw [mul_toNat]; unfold mulN; rw [if_pos (.inr rfl)]; rfl)
theorem zero_mul (a : UInt8) : mul 0 a = 0 := UInt8.toNat_inj.1 (by rw [mul_toNat]; unfold mulN; rw [if_pos (.inl rfl)]; rfl)
theorem mul_comm (a b : UInt8) : mul a b = mul b a := UInt8.toNat_inj.1 (by
  rw [mul_toNat, mul_toNat]
  unfold mulN
  by_cases h : a.toNat = 0 ∨ b.toNat = 0
  · rw [if_pos h, if_pos h.symm]
  · rw [if_neg h, if_neg (fun k => h k.symm), Nat.add_comm])
theorem pw_of {a : UInt8} (h : a ≠ 0) : ∃ i, a.toNat = pw i := exists_pw a.toNat_lt (toNat_ne h)
theorem mul_assoc (a b c : UInt8) : mul (mul a b) c = mul a (mul b c) := by
  by_cases ha : a = 0
  · subst ha; rw [zero_mul, zero_mul, zero_mul]
  by_cases hb : b = 0
  · subst hb; rw [mul_zero, zero_mul, mul_zero]
  by_cases hc : c = 0
  · subst hc; rw [mul_zero, mul_zero, mul_zero]
  obtain ⟨i, hi⟩ := pw_of ha
  obtain ⟨j, hj⟩ := pw_of hb
  obtain ⟨k, hk⟩ := pw_of hc
  apply UInt8.toNat_inj.1
  rw [mul_toNat, mul_toNat, mul_toNat, mul_toNat, hi, hj, hk, mulN_pw, mulN_pw, mulN_pw, mulN_pw, Nat.add_assoc]
theorem one_mul (a : UInt8) : mul 1 a = a := UInt8.toNat_inj.1 (by
  rw [mul_toNat]
  exact mulN_dblN a.toNat_lt 0)
theorem mul_one (a : UInt8) : mul a 1 = a := by rw [mul_comm, one_mul]
theorem mul_add (a x y : UInt8) : mul a (x ^^^ y) = mul a x ^^^ mul a y := by
  by_cases ha : a = 0
  · subst ha; rw [zero_mul, zero_mul, zero_mul]; rfl
  obtain ⟨i, hi⟩ := pw_of ha
  apply UInt8.toNat_inj.1
  rw [UInt8.toNat_xor, mul_toNat, mul_toNat, mul_toNat, UInt8.toNat_xor, hi, mulN_dblN (xor_lt x.toNat_lt y.toNat_lt), mulN_dblN x.toNat_lt, mulN_dblN y.toNat_lt]
  exact dblN_xor x.toNat_lt y.toNat_lt i
theorem add_mul (x y a : UInt8) : mul (x ^^^ y) a = mul x a ^^^ mul y a := by rw [mul_comm, mul_add, mul_comm a x, mul_comm a y]
theorem mul_inv {a : UInt8} (h : a ≠ 0) : mul a (inv a) = 1 := by
  have h1 := pw_lg a.toNat_lt (toNat_ne h)
  apply UInt8.toNat_inj.1
  have h2 : (inv a).toNat = pw (255 - lg a.toNat) := by
    unfold inv
    rw [UInt8.toNat_ofNat']
    exact Nat.mod_eq_of_lt (pw_lt _).1
  rw [mul_toNat, h2]
  conv => lhs; arg 1; rw [← h1.1]
  rw [mulN_pw, show lg a.toNat + (255 - lg a.toNat) = 255 by omega]
  exact pw_255
theorem mul_eq_zero {a b : UInt8} (h : mul a b = 0) (ha : a ≠ 0) : b = 0 := by
  have h1 : mul (inv a) (mul a b) = 0 := by rw [h, mul_zero]
  rw [← mul_assoc, mul_comm (inv a), mul_inv ha, one_mul] at h1
  exact h1
theorem inv_ne {a : UInt8} (h : a ≠ 0) : inv a ≠ 0 := fun e => by
  have := mul_inv h
  rw [e, mul_zero] at this
  exact absurd this (by decide)
theorem add_self (a : UInt8) : a ^^^ a = 0 := UInt8.xor_self
theorem add_zero (a : UInt8) : a ^^^ 0 = a := UInt8.xor_zero
theorem zero_add (a : UInt8) : 0 ^^^ a = a := UInt8.zero_xor
theorem add_comm (a b : UInt8) : a ^^^ b = b ^^^ a := UInt8.xor_comm _ _
theorem add_assoc (a b c : UInt8) : a ^^^ b ^^^ c = a ^^^ (b ^^^ c) := UInt8.xor_assoc _ _ _
theorem add_swap (a b c d : UInt8) : (a ^^^ b) ^^^ (c ^^^ d) = (a ^^^ c) ^^^ (b ^^^ d) := by
  rw [add_assoc, add_assoc, ← add_assoc b, add_comm b c, add_assoc c]
theorem eq_of_add {a b : UInt8} (h : a ^^^ b = 0) : a = b := by
  have h1 : (a ^^^ b) ^^^ b = b := by rw [h, zero_add]
  rw [add_assoc, add_self, add_zero] at h1
  exact h1
end Go.Gf

namespace Go.Gf
def sumX : Nat → (Nat → UInt8) → UInt8
  | 0, _ => 0
  | n + 1, f => sumX n f ^^^ f n
def dot (n : Nat) (f v : Nat → UInt8) : UInt8 := sumX n fun c => mul (f c) (v c)
theorem sumX_congr {n : Nat} {f g : Nat → UInt8} (h : ∀ c, c < n → f c = g c) : sumX n f = sumX n g := by
  induction n with
  | zero => rfl
  | succ n ih =>
    show sumX n f ^^^ f n = sumX n g ^^^ g n
    rw [ih fun c hc => h c (by omega), h n (by omega)]
theorem sumX_zero {n : Nat} {f : Nat → UInt8} (h : ∀ c, c < n → f c = 0) : sumX n f = 0 := by
  induction n with
  | zero => rfl
  | succ n ih =>
    show sumX n f ^^^ f n = 0
    rw [ih fun c hc => h c (by omega), h n (by omega)]
    rfl
theorem sumX_add (n : Nat) (f g : Nat → UInt8) : sumX n (fun c => f c ^^^ g c) = sumX n f ^^^ sumX n g := by
  induction n with
  | zero => exact (add_zero 0).symm
  | succ n ih =>
    show sumX n (fun c => f c ^^^ g c) ^^^ (f n ^^^ g n) = (sumX n f ^^^ f n) ^^^ (sumX n g ^^^ g n)
    rw [ih, add_swap]
theorem sumX_mul (n : Nat) (a : UInt8) (f : Nat → UInt8) : sumX n (fun c => mul a (f c)) = mul a (sumX n f) := by
  induction n with
  | zero => exact (mul_zero a).symm
  | succ n ih =>
    show sumX n (fun c => mul a (f c)) ^^^ mul a (f n) = mul a (sumX n f ^^^ f n)
    rw [ih, mul_add]
theorem sumX_swap (n m : Nat) (f : Nat → Nat → UInt8) : sumX n (fun i => sumX m fun j => f i j) = sumX m fun j => sumX n fun i => f i j := by
  induction n with
  | zero => exact (sumX_zero fun _ _ => rfl).symm
  | succ n ih =>
    show sumX n (fun i => sumX m fun j => f i j) ^^^ sumX m (fun j => f n j) = sumX m fun j => sumX n (fun i => f i j) ^^^ f n j
    rw [ih, sumX_add]
theorem sumX_one {n k : Nat} {f : Nat → UInt8} (hk : k < n) (h : ∀ c, c < n → c ≠ k → f c = 0) : sumX n f = f k := by
  induction n with
  | zero => omega
  | succ n ih =>
    show sumX n f ^^^ f n = f k
    by_cases hn : k = n
    · subst hn
      rw [sumX_zero fun c hc => h c (by omega) (by omega), zero_add]
    · rw [ih (by omega) fun c hc hck => h c (by omega) hck, h n (by omega) (fun e => hn e.symm), add_zero]
theorem sumX_split (n m : Nat) (f : Nat → UInt8) : sumX (n + m) f = sumX n f ^^^ sumX m fun c => f (n + c) := by
  induction m with
  | zero => exact (add_zero _).symm
  | succ m ih =>
    show sumX (n + m) f ^^^ f (n + m) = sumX n f ^^^ (sumX m (fun c => f (n + c)) ^^^ f (n + m))
    rw [ih, add_assoc]
theorem sumX_head (k : Nat) (f : Nat → UInt8) : sumX (k + 1) f = f 0 ^^^ sumX k fun c => f (c + 1) := by
  rw [Nat.add_comm k 1, sumX_split]
  show (0 ^^^ f 0) ^^^ _ = _
  rw [zero_add]
  congr 1
  exact sumX_congr fun c _ => by rw [Nat.add_comm]
theorem dot_congr {n : Nat} {f g v w : Nat → UInt8} (h : ∀ c, c < n → f c = g c) (h2 : ∀ c, c < n → v c = w c) : dot n f v = dot n g w := sumX_congr fun c hc => by rw [h c hc, h2 c hc]
theorem dot_add (n : Nat) (f g v : Nat → UInt8) : dot n (fun c => f c ^^^ g c) v = dot n f v ^^^ dot n g v := by
  unfold dot
  rw [← sumX_add]
  exact sumX_congr fun c _ => add_mul _ _ _
theorem dot_mul (n : Nat) (a : UInt8) (f v : Nat → UInt8) : dot n (fun c => mul a (f c)) v = mul a (dot n f v) := by
  unfold dot
  rw [← sumX_mul]
  exact sumX_congr fun c _ => mul_assoc _ _ _
/-! ## Rows under elimination -/
abbrev Mat := Nat → Nat → UInt8
def Ker (A : Mat) (n w : Nat) (v : Nat → UInt8) : Prop := ∀ i, i < n → dot w (A i) v = 0
def SameKer (A B : Mat) (n w : Nat) : Prop := ∀ v, Ker A n w v ↔ Ker B n w v
theorem SameKer.refl (A : Mat) (n w : Nat) : SameKer A A n w := fun _ => Iff.rfl
theorem SameKer.trans {A B C : Mat} {n w : Nat} (h : SameKer A B n w) (k : SameKer B C n w) : SameKer A C n w := fun v => (h v).trans (k v)
theorem ker_swap {A : Mat} {n w i j : Nat} (hi : i < n) (hj : j < n) : SameKer A (fun r => if r = i then A j else if r = j then A i else A r) n w := fun v => by
  constructor
  · intro h r hr
    show dot w (if r = i then A j else if r = j then A i else A r) v = 0
    split
    · exact h j hj
    · split
      · exact h i hi
      · exact h r hr
  · intro h r hr
    by_cases h1 : r = i
    · subst h1
      have := h j hj
      simp only at this
      by_cases h2 : j = r
      · subst h2; simpa using this
      · rw [if_neg h2] at this; simpa using this
    · by_cases h2 : r = j
      · subst h2
        have := h i hi
        simp only [if_true] at this
        exact this
      · have := h r hr
        simp only [if_neg h1, if_neg h2] at this
        exact this
theorem ker_scale {A : Mat} {n w i : Nat} {a : UInt8} (hi : i < n) (ha : a ≠ 0) : SameKer A (fun r => if r = i then fun c => mul a (A i c) else A r) n w := fun v => by
  constructor
  · intro h r hr
    show dot w (if r = i then fun c => mul a (A i c) else A r) v = 0
    split
    · rw [dot_mul, h i hi, mul_zero]
    · exact h r hr
  · intro h r hr
    have := h r hr
    simp only at this
    by_cases h1 : r = i
    · subst h1
      rw [if_pos rfl, dot_mul] at this
      exact mul_eq_zero this ha
    · rw [if_neg h1] at this
      exact this
theorem ker_add {A : Mat} {n w i j : Nat} {a : UInt8} (hi : i < n) (hj : j < n) (hij : i ≠ j) : SameKer A (fun r => if r = i then fun c => A i c ^^^ mul a (A j c) else A r) n w := fun v => by
  constructor
  · intro h r hr
    show dot w (if r = i then fun c => A i c ^^^ mul a (A j c) else A r) v = 0
    split
    · rw [dot_add, dot_mul, h i hi, h j hj, mul_zero]; rfl
    · exact h r hr
  · intro h r hr
    have h1 := h r hr
    have h2 := h j hj
    simp only at h1 h2
    rw [if_neg (Ne.symm hij)] at h2
    by_cases h3 : r = i
    · subst h3
      rw [if_pos rfl, dot_add, dot_mul, h2, mul_zero, add_zero] at h1
      exact h1
    · rw [if_neg h3] at h1
      exact h1
def Done (A : Mat) (n col : Nat) : Prop := ∀ j, j < col → ∀ i, i < n → A i j = if i = j then 1 else 0
def Triv (M : Mat) (n : Nat) : Prop := ∀ v, Ker M n n v → ∀ c, c < n → v c = 0
theorem no_pivot {A : Mat} {n w col : Nat} (hD : Done A n col) (hc : col < n) (hw : n ≤ w) (h0 : ∀ i, col ≤ i → i < n → A i col = 0) : ∃ v, v col = 1 ∧ (∀ c, col < c → v c = 0) ∧ Ker A n w v := by
  refine ⟨fun c => if c = col then 1 else if c < col then A c col else 0, by simp, fun c h => by simp only; rw [if_neg (by omega), if_neg (by omega)], fun i hi => ?_⟩
  have h1 : dot w (A i) (fun c => if c = col then 1 else if c < col then A c col else 0) = sumX w fun c => (if c = col then A i col else 0) ^^^ (if c < col then (if i = c then A c col else 0) else 0) := by
    refine sumX_congr fun c hcw => ?_
    dsimp only
    by_cases h2 : c = col
    · subst h2
      simp [mul_one]
    · rw [if_neg h2, if_neg h2]
      by_cases h3 : c < col
      · rw [if_pos h3, if_pos h3, hD c h3 i hi, zero_add]
        by_cases h4 : i = c
        · rw [if_pos h4, if_pos h4, one_mul]
        · rw [if_neg h4, if_neg h4, zero_mul]
      · rw [if_neg h3, if_neg h3, mul_zero, add_zero]
  rw [h1, sumX_add, sumX_one (k := col) (by omega) (fun c _ hcc => by rw [if_neg hcc]), if_pos rfl]
  by_cases h5 : i < col
  · rw [sumX_one (k := i) (by omega) (fun c _ hci => by
      split
      · rw [if_neg (fun e => hci e.symm)]
      · rfl), if_pos h5, if_pos rfl, add_self]
  · rw [h0 i (by omega) hi, sumX_zero fun c _ => by
      split
      · rename_i h6; rw [if_neg (by omega)]
      · rfl]
    rfl
/-! ## The inverse -/
def aug (M : Mat) (n : Nat) : Mat := fun i c => if c < n then M i c else if c = n + i then 1 else 0
def pair (n : Nat) (x y : Nat → UInt8) : Nat → UInt8 := fun c => if c < n then x c else y (c - n)
theorem dot_pair (n : Nat) (f x y : Nat → UInt8) : dot (n + n) f (pair n x y) = dot n f x ^^^ dot n (fun c => f (n + c)) y := by
  unfold dot
  rw [sumX_split]
  congr 1
  · exact sumX_congr fun c hc => by unfold pair; rw [if_pos hc]
  · exact sumX_congr fun c hc => by unfold pair; rw [if_neg (by omega), show n + c - n = c by omega]
theorem dot_aug {M : Mat} {n i : Nat} (hi : i < n) (x y : Nat → UInt8) : dot (n + n) (aug M n i) (pair n x y) = dot n (M i) x ^^^ y i := by
  rw [dot_pair]
  congr 1
  · exact dot_congr (fun c hc => by unfold aug; rw [if_pos hc]) fun _ _ => rfl
  · unfold dot
    rw [sumX_one (k := i) hi fun c hc hci => by
      unfold aug
      dsimp only
      rw [if_neg (by omega), if_neg (by omega), zero_mul]]
    unfold aug
    dsimp only
    rw [if_neg (by omega), if_pos rfl, one_mul]
theorem dot_done {A : Mat} {n i : Nat} (hD : Done A n n) (hi : i < n) (x y : Nat → UInt8) : dot (n + n) (A i) (pair n x y) = x i ^^^ dot n (fun c => A i (n + c)) y := by
  rw [dot_pair]
  congr 1
  unfold dot
  rw [sumX_one (k := i) hi fun c hc hci => by rw [hD c hc i hi, if_neg (fun e => hci e.symm), zero_mul], hD i hi i hi, if_pos rfl, one_mul]
theorem inverse {M A : Mat} {n : Nat} (hD : Done A n n) (hK : SameKer (aug M n) A n (n + n)) :
    (∀ x i, i < n → dot n (fun c => A i (n + c)) (fun j => dot n (M j) x) = x i) ∧ (∀ y i, i < n → dot n (M i) (fun j => dot n (fun c => A j (n + c)) y) = y i) := by
  constructor
  · intro x i hi
    have h1 : Ker (aug M n) n (n + n) (pair n x fun j => dot n (M j) x) := fun r hr => by rw [dot_aug hr, add_self]
    have h2 := (hK _).1 h1 i hi
    rw [dot_done hD hi] at h2
    exact (eq_of_add h2).symm
  · intro y i hi
    have h1 : Ker A n (n + n) (pair n (fun j => dot n (fun c => A j (n + c)) y) y) := fun r hr => by rw [dot_done hD hr, add_self]
    have h2 := (hK _).2 h1 i hi
    rw [dot_aug hi] at h2
    exact eq_of_add h2
theorem has_pivot {M A : Mat} {n col : Nat} (hT : Triv M n) (hK : SameKer (aug M n) A n (n + n)) (hD : Done A n col) (hc : col < n) : ∃ i, col ≤ i ∧ i < n ∧ A i col ≠ 0 := by
  refine Classical.byContradiction fun hno => ?_
  obtain ⟨v, h1, h2, h3⟩ := no_pivot hD hc (show n ≤ n + n by omega) fun i hi hn => Classical.byContradiction fun h => hno ⟨i, hi, hn, h⟩
  have h4 := (hK v).2 h3
  have h5 : Ker M n n v := fun i hi => by
    have h6 := h4 i hi
    have h7 : dot (n + n) (aug M n i) v = dot (n + n) (aug M n i) (pair n v fun _ => 0) := dot_congr (fun _ _ => rfl) fun c hc2 => by
      unfold pair
      split
      · rfl
      · exact h2 c (by omega)
    rw [h7, dot_aug hi, add_zero] at h6
    exact h6
  have h6 := hT v h5 col hc
  rw [h1] at h6
  exact absurd h6 (by decide)
/-! ## Vandermonde -/
def powX (p : UInt8) : Nat → UInt8
  | 0 => 1
  | c + 1 => mul (powX p c) p
def evalX : List UInt8 → UInt8 → UInt8
  | [], _ => 0
  | c :: r, x => c ^^^ mul x (evalX r x)
def quoX : List UInt8 → UInt8 → List UInt8
  | [], _ => []
  | [_], _ => []
  | _ :: c :: r, a => evalX (c :: r) a :: quoX (c :: r) a
theorem quo_len : ∀ (l : List UInt8) (a : UInt8), (quoX l a).length = l.length - 1
  | [], _ => rfl
  | [_], _ => rfl
  | _ :: c :: r, a => by
    show (quoX (c :: r) a).length + 1 = _
    rw [quo_len (c :: r) a]
    simp
theorem quo_eq : ∀ (l : List UInt8) (a x : UInt8), evalX l x = evalX l a ^^^ mul (x ^^^ a) (evalX (quoX l a) x)
  | [], a, x => by
    show (0 : UInt8) = 0 ^^^ mul (x ^^^ a) 0
    rw [mul_zero]; rfl
  | [c], a, x => by
    show c ^^^ mul x 0 = (c ^^^ mul a 0) ^^^ mul (x ^^^ a) 0
    rw [mul_zero, mul_zero, mul_zero, add_zero, add_zero]
  | d :: c :: r, a, x => by
    have ih := quo_eq (c :: r) a x
    show d ^^^ mul x (evalX (c :: r) x) = (d ^^^ mul a (evalX (c :: r) a)) ^^^ mul (x ^^^ a) (evalX (c :: r) a ^^^ mul x (evalX (quoX (c :: r) a) x))
    generalize evalX (c :: r) a = e at *
    generalize evalX (quoX (c :: r) a) x = q at *
    have h1 : mul (x ^^^ a) (mul x q) = mul x (mul (x ^^^ a) q) := by rw [← mul_assoc, mul_comm (x ^^^ a) x, mul_assoc]
    rw [ih, mul_add x, mul_add (x ^^^ a), h1, add_mul x a e, add_assoc d]
    congr 1
    rw [← add_assoc (mul a e), add_comm (mul x e) (mul a e), ← add_assoc (mul a e), add_self, zero_add]
theorem quo_zero : ∀ (l : List UInt8) (a : UInt8), evalX l a = 0 → (∀ y ∈ quoX l a, y = 0) → ∀ y ∈ l, y = 0
  | [], _, _, _ => fun y hy => nomatch hy
  | [c], a, h, _ => fun y hy => by
    simp at hy; subst hy
    have h : y ^^^ mul a 0 = 0 := h
    rw [mul_zero, add_zero] at h
    exact h
  | d :: c :: r, a, h, hq => fun y hy => by
    have h1 : evalX (c :: r) a = 0 := hq _ (List.mem_cons_self)
    have h2 := quo_zero (c :: r) a h1 fun y hy => hq y (List.mem_cons_of_mem _ hy)
    have h : d ^^^ mul a (evalX (c :: r) a) = 0 := h
    rw [h1, mul_zero, add_zero] at h
    rcases List.mem_cons.1 hy with rfl | hy
    · exact h
    · exact h2 y hy
theorem roots : ∀ (ps l : List UInt8), ps.Nodup → l.length ≤ ps.length → (∀ p ∈ ps, evalX l p = 0) → ∀ y ∈ l, y = 0
  | [], l, _, hl, _ => fun y hy => by
    have : l = [] := List.length_eq_zero_iff.1 (by simpa using hl)
    rw [this] at hy; cases hy
  | p :: ps, l, hn, hl, h0 => by
    have h1 := h0 p List.mem_cons_self
    refine quo_zero l p h1 (roots ps (quoX l p) (List.nodup_cons.1 hn).2 (by rw [quo_len]; simp at hl; omega) fun b hb => ?_)
    have h2 := quo_eq l p b
    rw [h0 b (List.mem_cons_of_mem _ hb), h1, zero_add] at h2
    refine mul_eq_zero h2.symm fun e => ?_
    have : b = p := eq_of_add e
    exact (List.nodup_cons.1 hn).1 (this ▸ hb)
theorem evalX_eq (v : Nat → UInt8) (x : UInt8) : ∀ (k s : Nat), mul (powX x s) (evalX ((List.range' s k).map v) x) = sumX k fun c => mul (powX x (s + c)) (v (s + c))
  | 0, s => mul_zero _
  | k + 1, s => by
    have ih := evalX_eq v x k (s + 1)
    rw [sumX_head]
    show mul (powX x s) (v s ^^^ mul x (evalX ((List.range' (s + 1) k).map v) x)) = mul (powX x (s + 0)) (v (s + 0)) ^^^ sumX k fun c => mul (powX x (s + (c + 1))) (v (s + (c + 1)))
    rw [mul_add, ← mul_assoc]
    congr 1
    show mul (powX x (s + 1)) _ = _
    rw [ih]
    exact sumX_congr fun c _ => by rw [show s + 1 + c = s + (c + 1) by omega]
theorem vander (p : Nat → UInt8) (k : Nat) (hp : ∀ i j, i < k → j < k → p i = p j → i = j) : Triv (fun i c => powX (p i) c) k := fun v hv c hc => by
  have hn : ((List.range k).map p).Nodup := by
    show List.Pairwise (· ≠ ·) _
    rw [List.pairwise_map]
    refine List.Pairwise.imp_of_mem (fun {a b} ha hb hab e => ?_) (List.nodup_range (n := k))
    exact hab (hp a b (List.mem_range.1 ha) (List.mem_range.1 hb) e)
  have h1 := roots ((List.range k).map p) ((List.range' 0 k).map v) hn (by simp) (fun y hy => by
    obtain ⟨i, hi, rfl⟩ := List.mem_map.1 hy
    have h2 := evalX_eq v (p i) k 0
    have h3 := hv i (List.mem_range.1 hi)
    unfold dot at h3
    simp only [Nat.zero_add] at h2
    rw [h3] at h2
    have : powX (p i) 0 = 1 := rfl
    rw [this, one_mul] at h2
    exact h2)
  exact h1 (v c) (List.mem_map_of_mem (by rw [List.mem_range'_1]; omega))
end Go.Gf

namespace Go.Gf
open Go Go.Vc
def fieldL : List Value := .int .i64 285 :: ((expT ++ expT).map (fun x : Nat => Value.int .u8 (x : Int)) ++ logT.map fun x : Nat => Value.int .i64 (x : Int))
theorem expT_len : (expT ++ expT).length = 510 := by decide +kernel
theorem logT_len : logT.length = 256 := by decide +kernel
theorem fieldL_log {a : Nat} (h : a < 256) : fieldL[511 + a]? = some (.int .i64 (lg a : Int)) := by
  unfold fieldL
  rw [show 511 + a = (510 + a) + 1 by omega, List.getElem?_cons_succ, List.getElem?_append_right (by rw [List.length_map, expT_len]; omega), List.length_map, expT_len, show 510 + a - 510 = a by omega, List.getElem?_map]
  have h1 : logT[a]? = some (lg a) := by
    unfold lg
    rw [List.getD_eq_getElem?_getD, List.getElem?_eq_getElem (by rw [logT_len]; exact h)]
    rfl
  rw [h1]
  rfl
theorem fieldL_exp {i : Nat} (h : i < 510) : fieldL[1 + i]? = some (.int .u8 (pw i : Int)) := by
  have h2 : ∀ x : Fin 510, (expT ++ expT).getD x.val 0 = pw x.val := by decide +kernel
  unfold fieldL
  rw [show 1 + i = i + 1 by omega, List.getElem?_cons_succ, List.getElem?_append_left (by rw [List.length_map, expT_len]; exact h), List.getElem?_map]
  have h1 : (expT ++ expT)[i]? = some (pw i) := by
    rw [← h2 ⟨i, h⟩, List.getD_eq_getElem?_getD, List.getElem?_eq_getElem (by rw [expT_len]; exact h)]
    rfl
  rw [h1]
  rfl
end Go.Gf
namespace Go.Proofs.YtabifopphhpciaaGreatDoor
open Go Go.Vc Go.Vc.Asn Go.Gf
abbrev fieldA (p : Nat) : Asn := bk p Ty_gf_Field fieldL.toArray
section
variable {p : Nat} {w0 w : World} {F : Asn}
theorem lg_lt {a : Nat} (h : a < 256) : lg a < 255 := by
  have h1 : ∀ x : Fin 256, lg x.val < 255 := by decide +kernel
  exact h1 ⟨a, h⟩
theorem mul_c {f : Nat} (a b : UInt8) (hB : Blk w f Ty_gf_Field fieldL.toArray) : Calls PP F_gf_Field_Mul #[.pointer (some (blk f)), u8v a, u8v b] w (Rt fun v w' => v = u8v (mul a b) ∧ Fr [] w w') := by
  refine sim_gf_Field_Mul _ _ _ _ _ ?_
  unfold vc_gf_Field_Mul
  have ha := a.toNat_lt
  have hb := b.toNat_lt
  have e : u8v (mul a b) = .int .u8 (mulN a.toNat b.toNat : Int) := by unfold u8v; rw [mul_toNat]
  refine ⟨fun h => Rt.ok ⟨?_, Fr.refl _ _⟩, fun h => ?_⟩
  · rw [e]
    unfold mulN
    simp at h
    rw [if_pos (by omega)]
    rfl
  · simp at h
    have h0 : ¬ (a.toNat = 0 ∨ b.toNat = 0) := by omega
    have l1 := lg_lt ha
    have l2 := lg_lt hb
    have ew : wr .i64 ((lg a.toNat : Int) + (lg b.toNat : Int)) = ((lg a.toNat + lg b.toNat : Nat) : Int) := by rw [wr64 (by omega) (by omega)]; omega
    refine ⟨_, rfl, by omega, by omega, (lg a.toNat : Int), ?_, by omega, by omega, (lg b.toNat : Int), ?_, by rw [ew]; omega, by rw [ew]; omega, (pw (lg a.toNat + lg b.toNat) : Int), ?_, fun k => Rt.ok ⟨?_, ?_⟩⟩
    · rw [Int.toNat_natCast, Nat.mul_one]
      exact hB.cell2 (by rw [List.getElem?_toArray]; exact fieldL_log ha)
    · rw [Int.toNat_natCast, Nat.mul_one]
      exact hB.cell2 (by rw [List.getElem?_toArray]; exact fieldL_log hb)
    · rw [ew, Int.toNat_natCast, Nat.mul_one]
      exact hB.cell2 (by rw [List.getElem?_toArray]; exact fieldL_exp (by omega))
    · rw [e]
      unfold mulN
      rw [if_neg h0]
    · exact ((Hp.start w).drew k).fr
theorem inv_c {f : Nat} (a : UInt8) (h0 : a ≠ 0) (hB : Blk w f Ty_gf_Field fieldL.toArray) : Calls PP F_gf_Field_Inv #[.pointer (some (blk f)), u8v a] w (Rt fun v w' => v = .tuple #[u8v (inv a), .int .i64 0] ∧ Fr [] w w') := by
  refine sim_gf_Field_Inv _ _ _ _ ?_
  unfold vc_gf_Field_Inv
  have ha := a.toNat_lt
  have hn := toNat_ne h0
  have l1 := lg_lt ha
  have e : (inv a).toNat = pw (255 - lg a.toNat) := by
    unfold inv
    rw [UInt8.toNat_ofNat']
    exact Nat.mod_eq_of_lt (pw_lt _).1
  have ew : wr .i64 (255 - (lg a.toNat : Int)) = ((255 - lg a.toNat : Nat) : Int) := by rw [wr64 (by omega) (by omega)]; omega
  refine ⟨fun h => by simp at h, fun _ => ⟨fun h => ?_, fun _ => ⟨_, rfl, by omega, by omega, (lg a.toNat : Int), ?_, by rw [ew]; omega, by rw [ew]; omega, (pw (255 - lg a.toNat) : Int), ?_, fun k => Rt.ok ⟨?_, ?_⟩⟩⟩⟩
  · simp at h; omega
  · rw [Int.toNat_natCast, Nat.mul_one]
    exact hB.cell2 (by rw [List.getElem?_toArray]; exact fieldL_log ha)
  · rw [ew, Int.toNat_natCast, Nat.mul_one]
    exact hB.cell2 (by rw [List.getElem?_toArray]; exact fieldL_exp (by omega))
  · unfold u8v; rw [e]
  · exact ((Hp.start w).drew k).fr
def fval (s idx : Nat) : Value := if idx = 0 then .int .i64 285 else if idx < 511 then .int .u8 (if (idx - 1) % 255 < s then (pw ((idx - 1) % 255) : Int) else 0) else .int .i64 (if idx - 511 ≠ 0 ∧ lg (idx - 511) < s then (lg (idx - 511) : Int) else 0)
def FAt (s : Nat) (cs : Array Value) : Prop := cs.size = 767 ∧ ∀ idx, idx < 767 → cs[idx]? = some (fval s idx)
theorem fat_end {cs : Array Value} (h : FAt 255 cs) : cs = fieldL.toArray := by
  apply Array.ext_getElem?
  intro idx
  rw [show fieldL.toArray[idx]? = fieldL[idx]? from List.getElem?_toArray]
  by_cases hi : idx < 767
  · rw [h.2 idx hi]
    unfold fval
    split
    · rename_i h0; subst h0; rfl
    · rename_i h0
      split
      · rename_i h1
        rw [if_pos (Nat.mod_lt _ (by decide)), pw_mod]
        have := fieldL_exp (i := idx - 1) (by omega)
        rw [show 1 + (idx - 1) = idx by omega] at this
        exact this.symm
      · rename_i h1
        have := fieldL_log (a := idx - 511) (by omega)
        rw [show 511 + (idx - 511) = idx by omega] at this
        rw [this]
        by_cases h2 : idx - 511 = 0
        · rw [if_neg (fun h => h.1 h2), h2]
          rfl
        · rw [if_pos ⟨h2, (pw_lg (by omega) h2).2⟩]
  · rw [Array.getElem?_eq_none (by rw [h.1]; omega), List.getElem?_eq_none]
    have : fieldL.length = 767 := by decide +kernel
    omega
theorem fat_step {s : Nat} {cs : Array Value} (hs : s < 255) (h : FAt s cs) : FAt (s + 1) (((cs.setIfInBounds (1 + s) (.int .u8 (pw s))).setIfInBounds (1 + (s + 255)) (.int .u8 (pw s))).setIfInBounds (511 + pw s) (.int .i64 s)) := by
  refine ⟨by simp [h.1], fun idx hi => ?_⟩
  have hp := pw_lt s
  have hl : lg (pw s) = s := by rw [lg_pw]; exact Nat.mod_eq_of_lt hs
  simp only [Array.getElem?_setIfInBounds, Array.size_setIfInBounds, h.1, h.2 idx hi]
  by_cases h1 : 511 + pw s = idx
  · rw [if_pos h1, if_pos (by omega)]
    unfold fval
    rw [if_neg (by omega), if_neg (by omega), show idx - 511 = pw s by omega, hl, if_pos ⟨hp.2, by omega⟩]
  · rw [if_neg h1]
    by_cases h2 : 1 + (s + 255) = idx
    · rw [if_pos h2, if_pos (by omega)]
      unfold fval
      rw [if_neg (by omega), if_pos (by omega), show (idx - 1) % 255 = s by omega, if_pos (by omega)]
    · rw [if_neg h2]
      by_cases h3 : 1 + s = idx
      · rw [if_pos h3, if_pos (by omega)]
        unfold fval
        rw [if_neg (by omega), if_pos (by omega), show (idx - 1) % 255 = s by omega, if_pos (by omega)]
      · rw [if_neg h3]
        unfold fval
        split
        · rfl
        · rename_i h0
          split
          · rename_i h4
            have : (idx - 1) % 255 ≠ s := by omega
            by_cases h5 : (idx - 1) % 255 < s
            · rw [if_pos h5, if_pos (by omega)]
            · rw [if_neg h5, if_neg (by omega)]
          · rename_i h4
            by_cases h5 : idx - 511 = 0
            · rw [if_neg (fun h => h.1 h5), if_neg (fun h => h.1 h5)]
            · have h6 := (pw_lg (show idx - 511 < 256 by omega) h5).1
              have h7 : lg (idx - 511) ≠ s := fun e => by rw [e] at h6; omega
              by_cases h8 : lg (idx - 511) < s
              · rw [if_pos ⟨h5, h8⟩, if_pos ⟨h5, by omega⟩]
              · rw [if_neg (fun h => h8 h.2), if_neg (fun h => by have := h.2; omega)]
def z0 : List Value := .int .i64 285 :: (List.replicate 510 (.int .u8 0) ++ List.replicate 256 (.int .i64 0))
theorem fat_zero {cs : Array Value} (h : cs = z0.toArray) : FAt 0 cs := by
  subst h
  have hl : z0.length = 767 := by unfold z0; rw [List.length_cons, List.length_append, List.length_replicate, List.length_replicate]
  refine ⟨by rw [List.size_toArray]; exact hl, fun idx hi => ?_⟩
  rw [List.getElem?_toArray]
  unfold fval z0
  cases idx with
  | zero => rfl
  | succ i =>
    rw [List.getElem?_cons_succ, if_neg (by omega)]
    by_cases h1 : i < 510
    · rw [List.getElem?_append_left (by rw [List.length_replicate]; exact h1), List.getElem?_replicate, if_pos h1, if_pos (by omega), if_neg (by omega)]
    · rw [List.getElem?_append_right (by rw [List.length_replicate]; omega), List.length_replicate, List.getElem?_replicate, if_pos (by omega), if_neg (by omega), if_neg (fun h => by have := h.2; omega)]
theorem shl_tab : ∀ x : Fin 256, shlI .i64 (x.val : Int) 1 = ((2 * x.val : Nat) : Int) ∧ xorI .i64 ((2 * x.val : Nat) : Int) 285 = (((2 * x.val) ^^^ 285 : Nat) : Int) := by decide +kernel
set_option maxHeartbeats 1000000 in
theorem gfNew_c : Calls PP F_gf_New #[.int .i64 285] w (Rt fun v w' => ∃ p, v = .tuple #[.pointer (some (blk p)), .int .i64 0] ∧ Hp w w' (star (fieldA p) emp)) := by
  refine sim_gf_New _ _ _ ?_
  unfold vc_gf_New
  refine ⟨fun h => by simp at h, fun _ => ?_⟩
  refine (Hp.start w).new fun b10 w1 H => ?_
  refine ⟨fun x s w' => ∃ (j : Nat) (cs : Array Value), s = (j : Int) ∧ j ≤ 255 ∧ x = (pw j : Int) ∧ FAt j cs ∧ Hp w w' (star (bk b10 Ty_gf_Field cs) emp), fun _ s _ => 255 - s.toNat, ⟨0, _, rfl, by omega, rfl, ?_, H⟩, ?_⟩
  · exact fat_zero (by kernel_rfl)
  rintro _ _ w2 ⟨j, cs, rfl, hj, rfl, hF, H⟩
  have hp := pw_lt j
  refine ⟨fun h => ?_, fun h => ?_⟩
  · have hlt : j < 255 := by simp only [decide_eq_true_eq] at h; omega
    have ewr : wr .i64 ((j : Int) + 1) = ((j + 1 : Nat) : Int) := by rw [wr64 (by omega) (by omega)]; omega
    have ew2 : wr .i64 ((j : Int) + 255) = ((j + 255 : Nat) : Int) := by rw [wr64 (by omega) (by omega)]; omega
    have e8 : wr .u8 (pw j : Int) = (pw j : Int) := by
      have : ∀ x : Fin 256, wr .u8 (x.val : Int) = (x.val : Int) := by decide +kernel
      exact this ⟨_, hp.1⟩
    obtain ⟨s1, s2⟩ := shl_tab ⟨pw j, hp.1⟩
    simp only at s1 s2
    have hdbl : pw (j + 1) = dbl (pw j) := rfl
    have hl : lg (pw j) = j := by rw [lg_pw]; exact Nat.mod_eq_of_lt hlt
    refine ⟨fun x w' => x = (pw (j + 1) : Int) ∧ ∃ cs, FAt (j + 1) cs ∧ Hp w w' (star (bk b10 Ty_gf_Field cs) emp), ⟨fun h2 => ?_, fun _ => ⟨by omega, by omega, ?_⟩⟩, ?_⟩
    · exfalso
      simp only [Bool.or_eq_true, decide_eq_true_eq, Bool.and_eq_true] at h2
      rcases h2 with h2 | ⟨h2, h3⟩
      · exact hp.2 (by omega)
      · have h4 : pw j = 1 := by omega
        rw [h4] at hl
        have h5 : lg 1 = 0 := by decide +kernel
        omega
    · rw [e8, ew2, s1]
      simp only [Int.toNat_natCast, Nat.mul_one]
      refine H.sto2 (b := b10) (i := 1) (j := j) (by rw [hF.1]; omega) fun w3 H => ⟨by omega, by omega, H.sto2 (b := b10) (i := 1) (j := j + 255) (by simp [hF.1]; omega) fun w4 H => ⟨by omega, by omega, H.sto2 (b := b10) (i := 511) (j := pw j) (by simp [hF.1]; omega) fun w5 H => ⟨fun h3 => ⟨?_, _, fat_step hlt hF, H⟩, fun h3 => ⟨?_, _, fat_step hlt hF, H⟩⟩⟩⟩
      · rw [s2, hdbl]; unfold dbl; rw [if_pos (by simp only [decide_eq_true_eq] at h3; omega)]
      · rw [hdbl]; unfold dbl; rw [if_neg (by simp only [decide_eq_false_iff_not] at h3; omega)]
    · rintro _ w3 ⟨rfl, cs2, hF2, H⟩
      exact ⟨⟨j + 1, cs2, by rw [ewr], by omega, rfl, hF2, H⟩, by dsimp only; rw [ewr]; omega⟩
  · have hje : j = 255 := by simp only [decide_eq_false_iff_not] at h; omega
    subst hje
    rw [fat_end hF] at H
    have h1 := pw_255
    exact ⟨fun h => by rw [h1] at h; simp at h, fun _ => Rt.ok ⟨b10, rfl, H⟩⟩
end
end Go.Proofs.YtabifopphhpciaaGreatDoor

namespace Go.Gf
open Go Go.Vc
theorem xor8 (a b : UInt8) : Value.int .u8 (xorI .u8 (a.toNat : Int) (b.toNat : Int)) = u8v (a ^^^ b) := by
  have h : ∀ x y : Fin 256, xorI .u8 (x.val : Int) (y.val : Int) = ((x.val ^^^ y.val : Nat) : Int) := by decide +kernel
  have h1 := h ⟨a.toNat, a.toNat_lt⟩ ⟨b.toNat, b.toNat_lt⟩
  simp only at h1
  unfold u8v
  rw [h1, UInt8.toNat_xor]
end Go.Gf
