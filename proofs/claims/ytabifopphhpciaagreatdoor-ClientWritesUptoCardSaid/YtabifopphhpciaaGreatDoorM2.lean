/-
  A region, with deferred calls that stay, that draws the order of its operations, where some of them turn the world: these stand in one order; whatever else may stand anywhere is asked at each world in which it may be taken. Nothing of any program stands here.
-/
import Derived.Test.YtabifopphhpciaaGreatDoorM1
import Derived.Deep.Quiet
import Derived.Test.YtabifopphhpciaaGreatDoorProg
namespace Go.Vc
open Go
class DS where
  ds : List Deferred
instance (priority := 100) noDS : DS := ⟨[]⟩

structure Rg where
  pre : List (List Nat)
  dst : List (Option Nat)
  eff : List Nat
  lo : List Nat
  hi : List Nat
namespace Rg
def preOf (R : Rg) (i : Nat) : List Nat := R.pre.getD i []
def dstOf (R : Rg) (i : Nat) : Option Nat := R.dst.getD i none
def loOf (R : Rg) (i : Nat) : Nat := R.lo.getD i 0
def hiOf (R : Rg) (i : Nat) : Nat := R.hi.getD i 0
def one (R : Rg) (ops : Array Oper) (i : Nat) (o : Oper) : Bool :=
  decide (o.dst = R.dstOf i) && (o.after.all fun e => !Region.binds .any e || decide (e.on < i)) && ((R.preOf i).all fun p => o.after.any fun e => Region.binds .any e && decide (e.on = p)) &&
  ((List.range ops.size).all fun q => decide (q = i) || decide (R.dstOf q = none) || decide (R.dstOf q ≠ R.dstOf i)) &&
  (R.eff.contains i || decide (R.loOf i = 0) || (R.preOf i).any fun p => (R.eff.drop (R.loOf i - 1)).contains p || (!R.eff.contains p && decide (R.loOf i ≤ R.loOf p))) &&
  (R.eff.contains i || decide (R.eff.length ≤ R.hiOf i) || (List.range ops.size).any fun q => (R.preOf q).contains i && ((R.eff.take (R.hiOf i + 1)).contains q || (!R.eff.contains q && decide (R.hiOf q ≤ R.hiOf i))))
def chk (R : Rg) (ops : Array Oper) : Bool :=
  decide (R.dst.length = ops.size) && (List.range R.eff.length).all (fun k => (List.range R.eff.length).all fun k' => decide (k = k') || decide (R.eff.getD k 0 ≠ R.eff.getD k' 0)) &&
  ((List.range ops.size).all fun i => match ops[i]? with | none => false | some o => R.one ops i o) &&
  ((List.range R.eff.length).all fun k => decide ((R.eff.getD k 0) < ops.size) && (decide (k = 0) || (R.preOf (R.eff.getD k 0)).any fun p => decide (p = R.eff.getD (k - 1) 0) || (!R.eff.contains p && decide (k ≤ R.loOf p))))
def envOf (R : Rg) (V L0 : List (Nat × Value)) (i : Nat) : List (Nat × Value) :=
  ((R.preOf i).filterMap fun p => match R.dstOf p, Env.get V p with | some d, some v => some (d, v) | _, _ => none) ++
  L0.filter fun x => (List.range R.dst.length).all fun q => decide (R.dstOf q ≠ some x.1) || decide (q = i) || (R.preOf q).contains i
def envFin (R : Rg) (V L0 : List (Nat × Value)) : List (Nat × Value) :=
  ((List.range R.dst.length).filterMap fun p => match R.dstOf p, Env.get V p with | some d, some v => some (d, v) | _, _ => none) ++
  L0.filter fun x => (List.range R.dst.length).all fun q => decide (R.dstOf q ≠ some x.1)
def avail (R : Rg) (j : Nat) : List Nat := (List.range R.dst.length).filter fun i => !R.eff.contains i && decide (R.loOf i ≤ j) && decide (j ≤ R.hiOf i)
end Rg
def slotD (d : Option Nat) (v : Value) : List (Nat × Value) := match d with | some d => [(d, v)] | none => []
def AllL (F : Nat → Prop) : List Nat → Prop
  | [] => True
  | i :: r => F i ∧ AllL F r
theorem AllL.mem {F : Nat → Prop} : ∀ {l : List Nat}, AllL F l → ∀ i ∈ l, F i
  | _ :: _, h, i, hi => by
    rcases List.mem_cons.1 hi with rfl | h1
    · exact h.1
    · exact AllL.mem h.2 i h1
def effQ [DS] (Q : Exit → Act → World → Prop) (n : Nat) (d : Option Nat) (K : Value → World → Prop) : Exit → Act → World → Prop
  | .normal, a, w => ∃ v, Has n DS.ds a (slotD d v) ∧ K v w
  | e, a, w => Q e a w
section
variable (P : Program) (ops : Array Oper) (Q : Exit → Act → World → Prop) (n : Nat) (L0 : List (Nat × Value)) (R : Rg)
def Ans [DS] (V : List (Nat × Value)) (w : World) (i : Nat) : Prop :=
  ∃ o v, ops[i]? = some o ∧ Env.get V i = some v ∧ ∀ a, Has n DS.ds a (R.envOf V L0 i) → wpList P ops (fun e a' w' => e = .normal ∧ w' = w ∧ Has n DS.ds a' (slotD (R.dstOf i) v)) [o] a w
def Stg [DS] : List Nat → Nat → List (Nat × Value) → World → Prop
  | [], j, V, w => AllL (Ans P ops n L0 R V w) (R.avail j) ∧ ∀ a, Has n DS.ds a (R.envFin V L0) → Q .normal a w
  | e :: rest, j, V, w => AllL (Ans P ops n L0 R V w) (R.avail j) ∧ ∃ o, ops[e]? = some o ∧ ∀ a, Has n DS.ds a (R.envOf V L0 e) →
      wpList P ops (effQ Q n (R.dstOf e) fun v w' => ∃ V', Sub ((e, v) :: V) V' ∧ Stg rest (j + 1) V' w') [o] a w
end
theorem get_append {l1 l2 : List (Nat × Value)} {t : Nat} {v : Value} (h : Env.get (l1 ++ l2) t = some v) : Env.get l1 t = some v ∨ Env.get l2 t = some v := by
  induction l1 with
  | nil => exact .inr h
  | cons x r ih =>
    obtain ⟨k, u⟩ := x
    simp only [List.cons_append, Env.get] at h ⊢
    cases hb : Nat.beq k t with
    | true => rw [hb] at h; exact .inl h
    | false => rw [hb] at h; exact ih h
theorem get_filter {p : Nat → Bool} {l : List (Nat × Value)} {t : Nat} {v : Value} (h : Env.get (l.filter fun x => p x.1) t = some v) : Env.get l t = some v ∧ p t = true := by
  induction l with
  | nil => simp [Env.get] at h
  | cons x r ih =>
    obtain ⟨k, u⟩ := x
    simp only [List.filter_cons] at h
    split at h
    · rename_i hp
      simp only [Env.get] at h ⊢
      cases hb : Nat.beq k t with
      | true =>
        rw [hb] at h
        have : k = t := Nat.eq_of_beq_eq_true hb
        subst this
        exact ⟨h, hp⟩
      | false =>
        rw [hb] at h
        exact ih h
    · rename_i hp
      obtain ⟨h1, h2⟩ := ih h
      refine ⟨?_, h2⟩
      simp only [Env.get]
      cases hb : Nat.beq k t with
      | true =>
        have : k = t := Nat.eq_of_beq_eq_true hb
        subst this
        exact absurd h2 hp
      | false => exact h1
theorem get_mem {l : List (Nat × Value)} {t : Nat} {v : Value} (h : Env.get l t = some v) : (t, v) ∈ l := by
  induction l with
  | nil => simp [Env.get] at h
  | cons x r ih =>
    obtain ⟨k, u⟩ := x
    simp only [Env.get] at h
    cases hb : Nat.beq k t with
    | true =>
      rw [hb] at h
      have : k = t := Nat.eq_of_beq_eq_true hb
      subst this
      simp at h
      simp [h]
    | false => rw [hb] at h; exact List.mem_cons_of_mem _ (ih h)
theorem get_fm [DS] {R : Rg} {V : List (Nat × Value)} {l : List Nat} {t : Nat} {v : Value} (h : Env.get (l.filterMap fun p => match R.dstOf p, Env.get V p with | some d, some v => some (d, v) | _, _ => none) t = some v) : ∃ p ∈ l, R.dstOf p = some t ∧ Env.get V p = some v := by
  have h1 := get_mem h
  obtain ⟨p, hp, h2⟩ := List.mem_filterMap.1 h1
  refine ⟨p, hp, ?_⟩
  split at h2
  · rename_i d u h3 h4
    simp at h2
    obtain ⟨rfl, rfl⟩ := h2
    exact ⟨h3, h4⟩
  · cases h2
theorem Sub.get {V V' : List (Nat × Value)} : (h : Sub V V') → ∀ {i : Nat} {v : Value}, Env.get V i = some v → Env.get V' i = some v := by
  induction V with
  | nil => intro _ i v h; simp [Env.get] at h
  | cons x r ih =>
    obtain ⟨k, u⟩ := x
    intro hs i v h
    simp only [Env.get] at h
    cases hb : Nat.beq k i with
    | true =>
      rw [hb] at h
      have : k = i := Nat.eq_of_beq_eq_true hb
      subst this
      simp at h
      subst h
      exact hs.1
    | false => rw [hb] at h; exact ih hs.2 h

section
variable {P : Program} {ops : Array Oper} {Q : Exit → Act → World → Prop} {n : Nat} {L0 : List (Nat × Value)} {R : Rg}
theorem wpOp_of_list [DS] {Q' : Exit → Act → World → Prop} {o : Oper} {i : Nat} {a : Act} {w : World} {K : Act → World → Prop} (hda : a.defers = DS.ds) (hi : ops[i]? = some o) (h : wpList P ops Q' [o] a w)
    (hn : ∀ a' w', Q' .normal a' w' → a'.defers = DS.ds) (hQ : ∀ e a' w', e ≠ .normal → Q' e a' w' → Q e a' w') (hK : ∀ v w', Q' .normal (a.put o.dst v) w' → K (a.put o.dst v) w') : wpOp P ops Q i K a w := by
  have lets : LetsOut Q' → LetsOut Q := fun ⟨a, w, h⟩ => ⟨a, w, hQ _ _ _ (by simp) h⟩
  unfold wpOp
  simp only [hi]
  simp only [wpList] at h
  by_cases hw : Region.wanted o (yielded ops a.tmps) = true
  · rw [if_pos hw] at h ⊢
    rcases h with h | ⟨h1, h2⟩
    · left
      unfold Oper.wp at h ⊢
      generalize (execOp a.eval o).run P w = r at h ⊢
      cases r with
      | ok nx w' =>
        cases nx with
        | value v => exact hK _ _ h
        | skip => exact hK _ _ h
        | defer d =>
          have := hn _ _ h
          simp only [Act.put] at this
          split at this <;> (rw [hda] at this; exact absurd (congrArg List.length this) (by simp))
        | enter f args =>
          simp only [Oper.upon] at h ⊢
          refine h.mono ?_
          rintro (v | c | _) w'' hx
          · exact hK _ _ hx
          · exact hQ _ _ _ (by simp) hx
          · exact lets hx
        | row row args => exact Rows.mono h fun v w'' hx => hK _ _ hx
        | _ => exact h
      | halt x w' =>
        cases x <;> first | exact hQ _ _ _ (by simp) h | exact h
    · exact .inr ⟨h1, lets h2⟩
  · rw [if_neg hw] at h ⊢
    exact hK _ _ h
def Dn (S : Array Bool) (i : Nat) : Prop := S[i]? = some true
structure Half [DS] (ops : Array Oper) (n : Nat) (L0 : List (Nat × Value)) (R : Rg) (V : List (Nat × Value)) (S : Array Bool) (a : Act) (j : Nat) : Prop where
  ssz : S.size = ops.size
  tsz : a.tmps.size = n
  dfr : a.defers = DS.ds
  clo : ∀ i, Dn S i → ∀ p ∈ R.preOf i, Dn S p
  eff : ∀ k e, R.eff[k]? = some e → (Dn S e ↔ k < j)
  done : ∀ i v d, Dn S i → R.dstOf i = some d → Env.get V i = some v → a.tmps[d]? = some v
  base : ∀ r v, Env.get L0 r = some v → (∀ q, Dn S q → R.dstOf q ≠ some r) → a.tmps[r]? = some v
theorem Rg.chk_one (h : R.chk ops = true) {i : Nat} {o : Oper} (hi : ops[i]? = some o) : R.one ops i o = true := by
  unfold Rg.chk at h
  simp only [Bool.and_eq_true] at h
  have h2 := List.all_eq_true.1 h.1.2 i (List.mem_range.2 (Array.getElem?_eq_some_iff.1 hi).1)
  rw [hi] at h2
  exact h2
theorem Rg.chk_len (h : R.chk ops = true) : R.dst.length = ops.size := by
  unfold Rg.chk at h
  simp only [Bool.and_eq_true, decide_eq_true_eq] at h
  exact h.1.1.1
theorem Rg.chk_inj (h : R.chk ops = true) {k k' e : Nat} (h1 : R.eff[k]? = some e) (h2 : R.eff[k']? = some e) : k = k' := by
  unfold Rg.chk at h
  simp only [Bool.and_eq_true] at h
  have h3 := List.all_eq_true.1 (List.all_eq_true.1 h.1.1.2 k (List.mem_range.2 (List.getElem?_eq_some_iff.1 h1).1)) k' (List.mem_range.2 (List.getElem?_eq_some_iff.1 h2).1)
  simp only [Bool.or_eq_true, decide_eq_true_eq, List.getD, h1, h2, Option.getD_some, ne_eq, not_true_eq_false, decide_false, Bool.false_eq_true, or_false] at h3
  exact h3
theorem Rg.chk_eff (h : R.chk ops = true) {k e : Nat} (he : R.eff[k]? = some e) : e < ops.size ∧ (k = 0 ∨ ∃ e' ∈ R.preOf e, R.eff[k - 1]? = some e' ∨ (R.eff.contains e' = false ∧ k ≤ R.loOf e')) := by
  unfold Rg.chk at h
  simp only [Bool.and_eq_true] at h
  have hk : k < R.eff.length := (List.getElem?_eq_some_iff.1 he).1
  have h2 := List.all_eq_true.1 h.2 k (List.mem_range.2 hk)
  have e1 : R.eff.getD k 0 = e := by simp [List.getD, he]
  rw [e1] at h2
  simp only [Bool.and_eq_true, Bool.or_eq_true, decide_eq_true_eq] at h2
  refine ⟨h2.1, ?_⟩
  rcases h2.2 with h3 | h3
  · exact .inl h3
  · obtain ⟨p, hp, h4⟩ := List.any_eq_true.1 h3
    refine .inr ⟨p, hp, ?_⟩
    simp only [Bool.or_eq_true, Bool.and_eq_true, Bool.not_eq_true', decide_eq_true_eq] at h4
    rcases h4 with rfl | ⟨h4, h5⟩
    · refine .inl ?_
      simp [List.getD, List.getElem?_eq_getElem (show k - 1 < R.eff.length by omega)]
    · exact .inr ⟨h4, h5⟩
theorem Dn.lt {S : Array Bool} {i : Nat} (h : Dn S i) : i < S.size := (Array.getElem?_eq_some_iff.1 h).1
section
variable {V : List (Nat × Value)} {S : Array Bool} {a : Act} {j : Nat} {i : Nat} {o : Oper}
theorem Rg.pre_lt [DS] (hc : R.chk ops = true) (hi : ops[i]? = some o) {p : Nat} (hp : p ∈ R.preOf i) : p < i ∧ ∃ e ∈ o.after, Region.binds .any e = true ∧ e.on = p := by
  have h := R.chk_one hc hi
  unfold Rg.one at h
  simp only [Bool.and_eq_true] at h
  obtain ⟨⟨⟨⟨⟨_, h1⟩, h2⟩, _⟩, _⟩, _⟩ := h
  have h3 := List.all_eq_true.1 h2 p hp
  obtain ⟨e, he, h4⟩ := Array.any_eq_true'.1 h3
  simp only [Bool.and_eq_true, decide_eq_true_eq] at h4
  refine ⟨?_, e, he, h4.1, h4.2⟩
  have h5 := Array.all_eq_true'.1 h1 e he
  simp only [Bool.or_eq_true, Bool.not_eq_true', decide_eq_true_eq] at h5
  rcases h5 with h5 | h5
  · rw [h4.1] at h5; cases h5
  · omega
theorem Half.low [DS] (I : Half ops n L0 R V S a j) (hc : R.chk ops = true) : ∀ (i : Nat) {o : Oper}, ops[i]? = some o → R.eff.contains i = false → (∀ p ∈ R.preOf i, Dn S p) → R.loOf i ≤ j := by
  intro i
  induction i using Nat.strongRecOn with
  | ind i ih =>
    intro o hi he hp
    have h := R.chk_one hc hi
    unfold Rg.one at h
    simp only [Bool.and_eq_true] at h
    have h1 := h.1.2
    rw [he] at h1
    simp only [Bool.false_or, Bool.or_eq_true, decide_eq_true_eq] at h1
    rcases h1 with h1 | h1
    · omega
    · obtain ⟨p, hpm, h2⟩ := List.any_eq_true.1 h1
      simp only [Bool.or_eq_true, Bool.and_eq_true, Bool.not_eq_true', decide_eq_true_eq, List.contains_eq_mem, decide_eq_false_iff_not] at h2
      have hd := hp p hpm
      rcases h2 with h2 | ⟨h2, h3⟩
      · obtain ⟨k, hk, hke⟩ := List.getElem_of_mem h2
        simp only [List.length_drop] at hk
        rw [List.getElem_drop] at hke
        have h4 : R.eff[R.loOf i - 1 + k]? = some p := by rw [List.getElem?_eq_getElem (by omega), hke]
        have := (I.eff _ _ h4).1 hd
        omega
      · have hlt := (R.pre_lt hc hi hpm).1
        have hps : p < ops.size := by have := (Array.getElem?_eq_some_iff.1 hi).1; omega
        have := ih p hlt (Array.getElem?_eq_getElem hps) (by simpa using h2) (I.clo p hd)
        omega
theorem Half.high [DS] (I : Half ops n L0 R V S a j) (hc : R.chk ops = true) (hj : j ≤ R.eff.length) : ∀ (m i : Nat) {o : Oper}, ops.size - i ≤ m → ops[i]? = some o → R.eff.contains i = false → ¬ Dn S i → j ≤ R.hiOf i := by
  intro m
  induction m with
  | zero =>
    intro i o hm hi
    have := (Array.getElem?_eq_some_iff.1 hi).1
    omega
  | succ m ih =>
    intro i o hm hi he hd
    have h := R.chk_one hc hi
    unfold Rg.one at h
    simp only [Bool.and_eq_true] at h
    have h1 := h.2
    rw [he] at h1
    simp only [Bool.false_or, Bool.or_eq_true, decide_eq_true_eq] at h1
    rcases h1 with h1 | h1
    · omega
    · obtain ⟨q, hqm, h2⟩ := List.any_eq_true.1 h1
      simp only [Bool.or_eq_true, Bool.and_eq_true, Bool.not_eq_true', decide_eq_true_eq, List.contains_eq_mem, decide_eq_false_iff_not] at h2
      obtain ⟨hiq, h2⟩ := h2
      have hqs : q < ops.size := List.mem_range.1 hqm
      have hlt := (R.pre_lt hc (Array.getElem?_eq_getElem hqs) hiq).1
      have hnd : ¬ Dn S q := fun hq => hd (I.clo q hq i hiq)
      rcases h2 with h2 | ⟨h2, h3⟩
      · obtain ⟨k, hk, hke⟩ := List.getElem_of_mem h2
        have hk2 : k < min (R.hiOf i + 1) R.eff.length := by simpa using hk
        rw [List.getElem_take] at hke
        have h4 : R.eff[k]? = some q := by rw [List.getElem?_eq_getElem (by omega), hke]
        have h5 : ¬ k < j := fun h => hnd ((I.eff _ _ h4).2 h)
        omega
      · have := ih q (by omega) (Array.getElem?_eq_getElem hqs) (by simpa using h2) hnd
        omega
theorem Half.has [DS] (I : Half ops n L0 R V S a j) (hc : R.chk ops = true) (hd : ¬ Dn S i) (hp : ∀ p ∈ R.preOf i, Dn S p) : Has n DS.ds a (R.envOf V L0 i) := by
  refine ⟨I.tsz, I.dfr, fun t v h => ?_⟩
  rcases get_append h with h | h
  · obtain ⟨p, hpm, h1, h2⟩ := get_fm h
    exact I.done p v t (hp p hpm) h1 h2
  · obtain ⟨h1, h2⟩ := get_filter (p := fun r => (List.range R.dst.length).all fun q => decide (R.dstOf q ≠ some r) || decide (q = i) || (R.preOf q).contains i) h
    refine I.base t v h1 fun q hq hqt => ?_
    have hql : q < R.dst.length := by rw [R.chk_len hc, ← I.ssz]; exact hq.lt
    have h3 := List.all_eq_true.1 h2 q (List.mem_range.2 hql)
    simp only [Bool.or_eq_true, decide_eq_true_eq, List.contains_eq_mem] at h3
    rcases h3 with (h3 | h3) | h3
    · exact h3 hqt
    · subst h3; exact hd hq
    · exact hd (I.clo q hq i h3)
theorem Half.hasFin [DS] (I : Half ops n L0 R V S a j) (hc : R.chk ops = true) (hall : ∀ i, i < ops.size → Dn S i) : Has n DS.ds a (R.envFin V L0) := by
  refine ⟨I.tsz, I.dfr, fun t v h => ?_⟩
  rcases get_append h with h | h
  · obtain ⟨p, hpm, h1, h2⟩ := get_fm h
    rw [List.mem_range, R.chk_len hc] at hpm
    exact I.done p v t (hall p hpm) h1 h2
  · obtain ⟨h1, h2⟩ := get_filter (p := fun r => (List.range R.dst.length).all fun q => decide (R.dstOf q ≠ some r)) h
    refine I.base t v h1 fun q hq hqt => ?_
    have hql : q < R.dst.length := by rw [R.chk_len hc, ← I.ssz]; exact hq.lt
    have h3 := List.all_eq_true.1 h2 q (List.mem_range.2 hql)
    simp only [decide_eq_true_eq] at h3
    exact h3 hqt
theorem dn_set {q : Nat} (hs : i < S.size) : Dn (S.setIfInBounds i true) q ↔ q = i ∨ Dn S q := by
  unfold Dn
  rw [Array.getElem?_setIfInBounds]
  by_cases h : i = q
  · subst h
    simp [hs]
  · rw [if_neg h]
    refine ⟨fun h2 => .inr h2, ?_⟩
    rintro (rfl | h2)
    · exact absurd rfl h
    · exact h2
theorem Half.step [DS] (I : Half ops n L0 R V S a j) (hc : R.chk ops = true) (hi : ops[i]? = some o) (hd : ¬ Dn S i) (hp : ∀ p ∈ R.preOf i, Dn S p) {v u : Value} {V' : List (Nat × Value)} {j' : Nat}
    (hV : ∀ (k : Nat) (x : Value), Dn S k → Env.get V k = some x → Env.get V' k = some x) (hdef : ∀ k, Dn S k → ∀ d, R.dstOf k = some d → ∃ x, Env.get V k = some x) (hv : Env.get V' i = some v)
    (ha : Has n DS.ds (a.put o.dst u) (slotD (R.dstOf i) v)) (he : ∀ k e, R.eff[k]? = some e → ((e = i ∨ Dn S e) ↔ k < j')) : Half ops n L0 R V' (S.setIfInBounds i true) (a.put o.dst u) j' := by
  have hlt := (Array.getElem?_eq_some_iff.1 hi).1
  have hss : i < S.size := by rw [I.ssz]; exact hlt
  have h1 := R.chk_one hc hi
  unfold Rg.one at h1
  simp only [Bool.and_eq_true, decide_eq_true_eq] at h1
  have hdst : o.dst = R.dstOf i := h1.1.1.1.1.1
  have hdd := h1.1.1.2
  have hput : ∀ d, R.dstOf i ≠ some d → (a.put o.dst u).tmps[d]? = a.tmps[d]? := fun d hne => by
    unfold Act.put
    rw [hdst]
    cases hx : R.dstOf i with
    | none => rfl
    | some y =>
      rw [hx] at hne
      rw [Array.getElem?_setIfInBounds, if_neg (fun h => hne (by rw [h]))]
  refine ⟨by simp [I.ssz], ha.size, ha.defers, fun k hk p hpk => ?_, fun k e hk => ?_, fun k x d hk hkd hx => ?_, fun r x hx hno => ?_⟩
  · rw [dn_set hss] at hk ⊢
    rcases hk with rfl | hk
    · exact .inr (hp p hpk)
    · exact .inr (I.clo k hk p hpk)
  · rw [dn_set hss]
    exact he k e hk
  · rw [dn_set hss] at hk
    rcases hk with rfl | hk
    · have hxv : x = v := by rw [hv] at hx; injection hx with hx; exact hx.symm
      subst hxv
      rw [hkd] at ha
      exact ha.get d x (by simp [slotD, Env.get])
    · obtain ⟨y, hy⟩ := hdef k hk d hkd
      have hxy : x = y := by rw [hV k y hk hy] at hx; injection hx with hx; exact hx.symm
      subst hxy
      by_cases hki : k = i
      · subst hki; exact absurd hk hd
      · have h5 := List.all_eq_true.1 hdd k (List.mem_range.2 (by rw [← I.ssz]; exact hk.lt))
        simp only [Bool.or_eq_true, decide_eq_true_eq] at h5
        have h6 : R.dstOf i ≠ some d := by
          rcases h5 with (h5 | h5) | h5
          · exact absurd h5 hki
          · rw [h5] at hkd; cases hkd
          · rw [hkd] at h5; exact fun h => h5 h.symm
        rw [hput d h6]
        exact I.done k x d hk hkd hy
  · have h7 : R.dstOf i ≠ some r := hno i ((dn_set hss).2 (.inl rfl))
    rw [hput r h7]
    exact I.base r x hx fun q hq => hno q ((dn_set hss).2 (.inr hq))
theorem Half.all_done [DS] (I : Half ops n L0 R V S a j) (hc : R.chk ops = true) (hr : Region.ready .any ops S = []) : ∀ i, i < ops.size → Dn S i := by
  intro i
  induction i using Nat.strongRecOn with
  | ind i ih =>
    intro hi
    cases hS : S[i]? with
    | none => rw [Array.getElem?_eq_none_iff, I.ssz] at hS; omega
    | some b =>
      cases b with
      | true => exact hS
      | false =>
        exfalso
        have ho : ops[i]? = some ops[i] := Array.getElem?_eq_getElem hi
        have h := R.chk_one hc ho
        unfold Rg.one at h
        simp only [Bool.and_eq_true] at h
        have h1 := h.1.1.1.1.2
        have hmem : i ∈ Region.ready .any ops S := by
          unfold Region.ready
          simp only [List.mem_filter, List.mem_range]
          refine ⟨hi, ?_⟩
          simp only [Bool.and_eq_true, Bool.not_eq_true']
          refine ⟨by simp [Array.getD_eq_getD_getElem?, hS], ?_⟩
          rw [ho]
          simp only [Option.map_some, Option.getD_some, Array.all_eq_true']
          intro e he
          have h5 := Array.all_eq_true'.1 h1 e he
          simp only [Bool.or_eq_true, Bool.not_eq_true', decide_eq_true_eq] at h5 ⊢
          rcases h5 with h5 | h5
          · exact .inl h5
          · have h6 := ih e.on h5 (by omega)
            right
            unfold Dn at h6
            simp [Array.getD_eq_getD_getElem?, h6]
        rw [hr] at hmem
        simp at hmem
def todo (S : Array Bool) : Nat := (S.toList.filter (!·)).length
theorem filter_set {l : List Bool} {i : Nat} (h : l[i]? = some false) : ((l.set i true).filter (!·)).length + 1 = (l.filter (!·)).length := by
  induction l generalizing i with
  | nil => simp at h
  | cons b r ih =>
    cases i with
    | zero => simp at h; subst h; simp
    | succ i =>
      simp at h
      have := ih h
      cases b <;> simp <;> omega
theorem todo_set [DS] {S : Array Bool} {i : Nat} (h : S[i]? = some false) : todo (S.setIfInBounds i true) + 1 = todo S := by
  unfold todo
  rw [Array.toList_setIfInBounds]
  exact filter_set (by simpa using h)
theorem todo_zero {S : Array Bool} (h : todo S = 0) : ∀ i, i < S.size → Dn S i := by
  intro i hi
  unfold todo at h
  have h1 := List.eq_nil_of_length_eq_zero h
  rw [List.filter_eq_nil_iff] at h1
  have h2 := h1 S[i] (by simp)
  unfold Dn
  rw [Array.getElem?_eq_getElem hi]
  simpa using h2
end
theorem AllL.nil {F : Nat → Prop} : AllL F [] := True.intro
theorem AllL.cons {F : Nat → Prop} {i : Nat} {l : List Nat} (h : F i) (r : AllL F l) : AllL F (i :: l) := ⟨h, r⟩
theorem Ans.mk [DS] {V : List (Nat × Value)} {w : World} {i : Nat} {o : Oper} {v : Value} (hi : ops[i]? = some o) (hv : Env.get V i = some v) (h : ∀ a, Has n DS.ds a (R.envOf V L0 i) → wpList P ops (fun e a' w' => e = .normal ∧ w' = w ∧ Has n DS.ds a' (slotD (R.dstOf i) v)) [o] a w) :
    Ans P ops n L0 R V w i := ⟨o, v, hi, hv, h⟩
theorem Ans.fin [DS] {L : List (Nat × Value)} {d : Nat} {v : Value} {D : Option Nat} {a : Act} {w : World} (H : Has n DS.ds a ((d, v) :: L)) (hD : D = some d) : wpList P ops (fun e a' w' => e = .normal ∧ w' = w ∧ Has n DS.ds a' (slotD D v)) [] a w := by
  subst hD
  exact c_nil ⟨rfl, rfl, H.weaken (L' := [(d, v)]) ⟨by simp [Env.get], trivial⟩⟩
theorem Ans.fin0 [DS] {L : List (Nat × Value)} {D : Option Nat} {v : Value} {a : Act} {w : World} (H : Has n DS.ds a L) (hD : D = none) : wpList P ops (fun e a' w' => e = .normal ∧ w' = w ∧ Has n DS.ds a' (slotD D v)) [] a w := by
  subst hD
  exact c_nil ⟨rfl, rfl, H.weaken (L' := []) trivial⟩
def dstB (n : Nat) (d : Option Nat) : Bool := match d with | some d => Nat.ble (d + 1) n | none => true
theorem An [DS] {L : List (Nat × Value)} {d : Nat} {v : Value} {D : Option Nat} {w : World} (hD : D = some d) : W P ops (fun e a' w' => e = .normal ∧ w' = w ∧ Has n DS.ds a' (slotD D v)) n DS.ds [] ((d, v) :: L) w := fun _ H => Ans.fin H hD
theorem Aw [DS] {V : List (Nat × Value)} {w : World} {i : Nat} {o : Oper} {v : Value} (hi : ops[i]? = some o) (hv : Env.get V i = some v) (h : W P ops (fun e a' w' => e = .normal ∧ w' = w ∧ Has n DS.ds a' (slotD (R.dstOf i) v)) n DS.ds [o] (R.envOf V L0 i) w) : Ans P ops n L0 R V w i := Ans.mk hi hv h
theorem Ans.no [DS] {V : List (Nat × Value)} {w : World} {i : Nat} {o : Oper} (hi : ops[i]? = some o) (hv : Env.get V i = some undef) (he : o.dst = R.dstOf i) (hd : dstB n o.dst = true) (hw : ∀ a, Has n DS.ds a (R.envOf V L0 i) → Region.wanted o (yielded ops a.tmps) = false) : Ans P ops n L0 R V w i := by
  refine Ans.mk hi hv fun a H => ?_
  cases hx : o.dst with
  | none => exact s_skip0 H (hw a H) hx fun H => Ans.fin0 H (he ▸ hx)
  | some d =>
    rw [hx] at hd
    exact s_skip H (hw a H) hx (Nat.le_of_ble_eq_true hd) fun a H => Ans.fin H (he ▸ hx)
theorem Ans.skip [DS] {V : List (Nat × Value)} {w : World} {i j t : Nat} {dst : Option Tmp} {op : Op} {ty : TypeId} {pos : String} {af : Array Edge} {b c g : Bool} (hi : ops[i]? = some ⟨dst, op, ty, pos, af, some (j, c)⟩) (hv : Env.get V i = some undef) (he : dst = R.dstOf i) (hd : dstB n dst = true)
    (ht : (ops[j]?).bind (·.dst) = some t) (hb : Env.get (R.envOf V L0 i) t = some (.bool g)) (hg : g = b) (hc : b = !c) : Ans P ops n L0 R V w i :=
  Ans.no hi hv he hd fun _ H => wantN H ht (hg ▸ hb) hc
theorem le {F : Nat → Prop} : AllL F [] := True.intro
section
variable [DS] {V : List (Nat × Value)} {w : World} {i : Nat} {l : List Nat}
theorem ls {j t : Nat} {dst : Option Tmp} {op : Op} {ty : TypeId} {pos : String} {af : Array Edge} {b c g : Bool}
    (h : (ops[i]?, Env.get V i, dst, dstB n dst, (ops[j]?).bind (·.dst), Env.get (R.envOf V L0 i) t, g, b) = (some ⟨dst, op, ty, pos, af, some (j, c)⟩, some undef, R.dstOf i, true, some t, some (.bool g), b, !c)) (r : AllL (Ans P ops n L0 R V w) l) : AllL (Ans P ops n L0 R V w) (i :: l) := by
  injection h with h1 h; injection h with h2 h; injection h with h3 h; injection h with h4 h; injection h with h5 h; injection h with h6 h; injection h with h7 h8
  exact ⟨.skip h1 h2 h3 h4 h5 h6 h7 h8, r⟩
theorem lk {d : Nat} {x : Operand} {p : Addr} {ty : TypeId} {pos : String} {af : Array Edge} (h : (ops[i]?, Env.get V i, ev (R.envOf V L0 i) x, Nat.ble (d + 1) n, R.dstOf i) = (some ⟨some d, .nilCheck x, ty, pos, af, none⟩, some (.pointer (some p)), some (.pointer (some p)), true, some d)) (r : AllL (Ans P ops n L0 R V w) l) : AllL (Ans P ops n L0 R V w) (i :: l) := by
  injection h with h1 h; injection h with h2 h; injection h with h3 h; injection h with h4 h5
  exact ⟨Aw h1 h2 (nl h3 h4 (An h5)), r⟩
end
theorem Stg.fin [DS] {V : List (Nat × Value)} {w : World} {j : Nat} (l : List Nat) (hl : Rg.avail R j = l) (h : AllL (Ans P ops n L0 R V w) l) (k : ∀ a, Has n DS.ds a (R.envFin V L0) → Q .normal a w) : Stg P ops Q n L0 R [] j V w := by
  subst hl; exact ⟨h, k⟩
theorem Stg.eff [DS] {V : List (Nat × Value)} {w : World} {j e : Nat} {rest : List Nat} {o : Oper} (l : List Nat) (hl : Rg.avail R j = l) (ho : ops[e]? = some o) (h : AllL (Ans P ops n L0 R V w) l)
    (k : ∀ a, Has n DS.ds a (R.envOf V L0 e) → wpList P ops (effQ Q n (R.dstOf e) fun v w' => ∃ V', Sub ((e, v) :: V) V' ∧ Stg P ops Q n L0 R rest (j + 1) V' w') [o] a w) : Stg P ops Q n L0 R (e :: rest) j V w := by
  subst hl; exact ⟨h, o, ho, k⟩
def sepB (N M : List (Nat × Value)) : Bool := (N.all fun x => M.all fun y => !Nat.beq x.1 y.1) && match M with | [] => true | x :: r => (r.all fun y => !Nat.beq x.1 y.1) && sepB [] r
theorem get_app {N M : List (Nat × Value)} {k : Nat} (h : N.all (fun x => !Nat.beq x.1 k) = true) : Env.get (N ++ M) k = Env.get M k := by
  induction N with
  | nil => rfl
  | cons x r ih =>
    simp only [List.all_cons, Bool.and_eq_true, Bool.not_eq_true'] at h
    obtain ⟨k', v⟩ := x
    simp only [List.cons_append, Env.get]
    rw [h.1]
    exact ih h.2
theorem sub_app [DS] : ∀ {M N M0 : List (Nat × Value)}, (∀ k v, Env.get M k = some v → Env.get M0 k = some v) → sepB N M = true → (N.all fun x => M.all fun y => !Nat.beq x.1 y.1) = true → (∀ y ∈ M, Env.get (N ++ M0) y.1 = Env.get M0 y.1) → Sub M (N ++ M0)
  | [], _, _, _, _, _, _ => True.intro
  | (k, v) :: r, N, M0, h0, h1, h2, h3 => by
    have e : Env.get ((k, v) :: r) k = some v := by simp [Env.get]
    refine ⟨(h3 (k, v) List.mem_cons_self).trans (h0 k v e), sub_app (M := r) (N := N) (M0 := M0) (fun k' v' hk => h0 k' v' ?_) ?_ ?_ fun y hy => h3 y (List.mem_cons_of_mem _ hy)⟩
    · unfold sepB at h1
      simp only [Bool.and_eq_true] at h1
      have hne : Nat.beq k k' = false := by
        have hm := get_mem hk
        have := List.all_eq_true.1 h1.2.1 _ hm
        simpa using this
      simp only [Env.get, hne, cond_false]
      exact hk
    · unfold sepB at h1
      simp only [Bool.and_eq_true] at h1
      have h4 := h1.2.2
      unfold sepB at h4 ⊢
      simp only [List.all_nil, Bool.true_and] at h4
      simp only [Bool.and_eq_true]
      refine ⟨?_, h4⟩
      refine List.all_eq_true.2 fun x hx => ?_
      have := List.all_eq_true.1 h2 x hx
      simp only [List.all_cons, Bool.and_eq_true] at this
      exact this.2
    · refine List.all_eq_true.2 fun x hx => ?_
      have := List.all_eq_true.1 h2 x hx
      simp only [List.all_cons, Bool.and_eq_true] at this
      exact this.2
theorem sepB.sub [DS] {N M : List (Nat × Value)} (h : sepB N M = true) : Sub M (N ++ M) := by
  have h2 : (N.all fun x => M.all fun y => !Nat.beq x.1 y.1) = true := by
    unfold sepB at h
    simp only [Bool.and_eq_true] at h
    exact h.1
  refine sub_app (fun _ _ h => h) h h2 fun y hy => get_app ?_
  refine List.all_eq_true.2 fun x hx => ?_
  exact List.all_eq_true.1 (List.all_eq_true.1 h2 x hx) y hy
theorem effQ.go [DS] {D : Option Nat} {d e : Nat} {v : Value} {V L : List (Nat × Value)} {a : Act} {w : World} {K' : List (Nat × Value) → World → Prop} (N : List (Nat × Value)) (H : Has n DS.ds a ((d, v) :: L)) (hD : D = some d) (h : sepB N ((e, v) :: V) = true) (k : K' (N ++ (e, v) :: V) w) :
    effQ Q n D (fun v w' => ∃ V', Sub ((e, v) :: V) V' ∧ K' V' w') .normal a w := by
  subst hD
  exact ⟨v, H.weaken (L' := [(d, v)]) ⟨by simp [Env.get], trivial⟩, _, sepB.sub h, k⟩
theorem effQ.ok [DS] {d : Option Nat} {K : Value → World → Prop} {a : Act} {w : World} {v : Value} (h : Has n DS.ds a (slotD d v)) (k : K v w) : effQ Q n d K .normal a w := ⟨v, h, k⟩
theorem Stg.facts [DS] {rest : List Nat} {j : Nat} {V : List (Nat × Value)} {w : World} (h : Stg P ops Q n L0 R rest j V w) : AllL (Ans P ops n L0 R V w) (R.avail j) := by
  cases rest with
  | nil => exact h.1
  | cons e r => exact h.1
theorem stg_any [DS] (hc : R.chk ops = true) : ∀ (m : Nat) (rest : List Nat) (j : Nat) (V : List (Nat × Value)) (w : World) (S : Array Bool) (a : Act), todo S = m → R.eff.drop j = rest → j ≤ R.eff.length → Half ops n L0 R V S a j →
    (∀ k, Dn S k → ∃ x, Env.get V k = some x) → Stg P ops Q n L0 R rest j V w → wpAny P .any ops Q m S a w := by
  intro m
  induction m with
  | zero =>
    intro rest j V w S a hm hr hjl I hdef h
    have hall := fun i hi => todo_zero hm i (by rw [I.ssz]; exact hi)
    refine ⟨?_, ?_⟩
    · unfold Region.ready
      rw [List.filter_eq_nil_iff]
      intro i hi
      have h1 := hall i (List.mem_range.1 hi)
      unfold Dn at h1
      simp [Array.getD_eq_getD_getElem?, h1]
    · cases rest with
      | nil => exact h.2 a (I.hasFin hc hall)
      | cons e r =>
        exfalso
        have he : R.eff[j]? = some e := by have := congrArg (·[0]?) hr; simpa using this
        have := (I.eff j e he).1 (hall e (R.chk_eff hc he).1)
        omega
  | succ m ih =>
    intro rest j V w S a hm hr hjl I hdef h
    refine ⟨fun hrd => ?_, fun i hi => ?_⟩
    · have hall := I.all_done hc hrd
      exfalso
      have : todo S = 0 := by
        unfold todo
        rw [List.length_eq_zero_iff, List.filter_eq_nil_iff]
        intro b hb
        obtain ⟨k, hk, rfl⟩ := List.getElem_of_mem hb
        have h1 := hall k (by rw [← I.ssz]; simpa using hk)
        unfold Dn at h1
        rw [Array.getElem?_eq_getElem (by simpa using hk)] at h1
        simpa using h1
      omega
    · unfold Region.ready at hi
      simp only [List.mem_filter, List.mem_range, Bool.and_eq_true, Bool.not_eq_true'] at hi
      obtain ⟨hlt, hnd, hpr⟩ := hi
      have hSi : S[i]? = some false := by
        have : i < S.size := by rw [I.ssz]; exact hlt
        rw [Array.getD_eq_getD_getElem?, Array.getElem?_eq_getElem this] at hnd
        rw [Array.getElem?_eq_getElem this]
        simpa using hnd
      have hd : ¬ Dn S i := fun hx => by unfold Dn at hx; rw [hSi] at hx; simp at hx
      have ho : ops[i]? = some ops[i] := Array.getElem?_eq_getElem hlt
      rw [ho] at hpr
      simp only [Option.map_some, Option.getD_some] at hpr
      have hp : ∀ p ∈ R.preOf i, Dn S p := fun p hp => by
        obtain ⟨_, e, he, hb, rfl⟩ := R.pre_lt hc ho hp
        have h1 := Array.all_eq_true'.1 hpr e he
        rw [hb] at h1
        simp only [Bool.not_true, Bool.false_or] at h1
        unfold Dn
        cases hx : S[e.on]? with
        | none => rw [Array.getD_eq_getD_getElem?, hx] at h1; simp at h1
        | some b => rw [Array.getD_eq_getD_getElem?, hx] at h1; simpa using h1
      have hts := todo_set hSi
      have hen := I.has hc hd hp
      have hss : i < S.size := by rw [I.ssz]; exact hlt
      by_cases hie : R.eff.contains i = true
      · -- the next that turns the world
        obtain ⟨k, hk, hke⟩ := List.getElem_of_mem (by simpa using hie)
        have hk1 : R.eff[k]? = some i := by rw [List.getElem?_eq_getElem hk, hke]
        have hkj : ¬ k < j := fun h => hd ((I.eff k i hk1).2 h)
        have hkj2 : k = j := by
          rcases (R.chk_eff hc hk1).2 with h0 | ⟨e', h2, h1 | ⟨h1, h3⟩⟩
          · omega
          · have := (I.eff _ _ h1).1 (hp e' h2)
            omega
          · have hlt := (R.pre_lt hc ho h2).1
            have hps : e' < ops.size := by have := (Array.getElem?_eq_some_iff.1 ho).1; omega
            have := I.low hc e' (Array.getElem?_eq_getElem hps) h1 (I.clo e' (hp e' h2))
            omega
        subst hkj2
        cases rest with
        | nil =>
          have : R.eff.length ≤ k := by simpa using hr
          omega
        | cons e r =>
          have he : e = i := by
            have h1 : (R.eff.drop k)[0]? = some e := by rw [hr]; rfl
            rw [List.getElem?_drop, Nat.add_zero, hk1] at h1
            injection h1 with h1
            exact h1.symm
          subst he
          obtain ⟨o, ho2, hw⟩ := h.2
          obtain rfl : ops[e] = o := by rw [ho] at ho2; injection ho2
          refine wpOp_of_list hen.defers ho (hw a hen) (fun a' w' hx => ?_) (fun x a' w' hne hx => ?_) (fun v w' hx => ?_)
          · obtain ⟨v, h1, _⟩ := hx
            exact h1.defers
          · cases x <;> first | exact absurd rfl hne | exact hx
          · obtain ⟨u, h1, V', h2, h3⟩ := hx
            have hsub : ∀ {q : Nat} {x : Value}, Env.get ((e, u) :: V) q = some x → Env.get V' q = some x := fun hg => Sub.get h2 hg
            have hei : Env.get V' e = some u := hsub (by simp [Env.get])
            have hne : ∀ q, Dn S q → q ≠ e := fun q hq h => by subst h; exact hd hq
            have hold : ∀ q x, Dn S q → Env.get V q = some x → Env.get V' q = some x := fun q x hq hx => hsub (by
              simp only [Env.get]
              have : Nat.beq e q = false := by
                cases hb : Nat.beq e q with
                | false => rfl
                | true => exact absurd (Nat.eq_of_beq_eq_true hb).symm (hne q hq)
              rw [this]
              exact hx)
            have hdd : ∀ q, Dn (S.setIfInBounds e true) q → ∃ x, Env.get V' q = some x := fun q hq => by
              rcases (dn_set hss).1 hq with rfl | hq
              · exact ⟨u, hei⟩
              · obtain ⟨x, hx⟩ := hdef q hq
                exact ⟨x, hold q x hq hx⟩
            refine ih r (k + 1) V' w' _ _ (by omega) ?_ (by omega) (I.step hc ho hd hp hold (fun q hq d _ => hdef q hq) hei h1 fun k' e' hk' => ?_) hdd h3
            · have := congrArg (List.drop 1) hr
              simpa [List.drop_drop, Nat.add_comm] using this
            · constructor
              · rintro (rfl | hq)
                · have := R.chk_inj hc hk' hk1; omega
                · have := (I.eff _ _ hk').1 hq; omega
              · intro hlt
                by_cases hkk : k' = k
                · subst hkk
                  rw [hk1] at hk'
                  injection hk' with hk'
                  exact .inl hk'.symm
                · exact .inr ((I.eff _ _ hk').2 (by omega))
      · -- one that leaves the world
        have hie2 : R.eff.contains i = false := by simpa using hie
        have hav : i ∈ R.avail j := by
          unfold Rg.avail
          simp only [List.mem_filter, List.mem_range, Bool.and_eq_true, Bool.not_eq_true', decide_eq_true_eq]
          exact ⟨by rw [R.chk_len hc]; exact hlt, ⟨hie2, I.low hc i ho hie2 hp⟩, I.high hc hjl _ i (Nat.le_refl _) ho hie2 hd⟩
        obtain ⟨o, v, ho2, hv, hw⟩ := h.facts.mem i hav
        obtain rfl : ops[i] = o := by rw [ho] at ho2; injection ho2
        refine wpOp_of_list hen.defers ho (hw a hen) (fun a' w' hx => hx.2.2.defers) (fun x a' w' hne hx => absurd hx.1 hne) (fun u w' hx => ?_)
        obtain ⟨_, rfl, h1⟩ := hx
        refine ih rest j V w' _ _ (by omega) hr hjl (I.step hc ho hd hp (fun _ _ _ h => h) (fun q hq d _ => hdef q hq) hv h1 fun k' e' hk' => ?_) (fun q hq => ?_) h
        · constructor
          · rintro (rfl | hq)
            · exact absurd (by simpa using List.mem_of_getElem? hk') hie
            · exact (I.eff _ _ hk').1 hq
          · exact fun hlt => .inr ((I.eff _ _ hk').2 hlt)
        · rcases (dn_set hss).1 hq with rfl | hq
          · exact ⟨v, hv⟩
          · exact hdef q hq
theorem c_any [DS] {id : Nat} {l : List Oper} {a : Act} {w : World} {V : List (Nat × Value)} (R : Rg) (L0 : List (Nat × Value)) (hm : P.follows .mixedOrders = true) (hc : R.chk l.toArray = true) (H : Has n DS.ds a L0)
    (h : Stg P l.toArray Q n L0 R R.eff 0 V (w.drewN 1)) : (Code.region id l.toArray true).wp P Q a w := by
  have e : w.drewN 1 = { w with drawn := w.drawn + 1 } := rfl
  refine wp_region_any hm ?_
  rw [← e]
  have nd : ∀ i, ¬ Dn (Array.replicate l.toArray.size false) i := fun i hi => by
    unfold Dn at hi
    rw [Array.getElem?_replicate] at hi
    split at hi <;> simp at hi
  refine stg_any hc _ R.eff 0 V _ _ a ?_ (by simp) (Nat.zero_le _) ⟨by simp, H.size, H.defers, fun i hi => absurd hi (nd i), fun k e _ => ⟨fun hi => absurd hi (nd e), fun h => by omega⟩, fun i v d hi => absurd hi (nd i), fun r v hr _ => H.get r v hr⟩ (fun k hk => absurd hk (nd k)) h
  unfold todo
  rw [Array.toList_replicate, List.filter_replicate]
  simp
end

/-! ## A region whose first operations stand in one order, and whose rest only reads -/
def preB (ops : Array Oper) (n2 : Nat) : Nat → Nat → Array Bool → Bool
  | 0, k, S => Region.lexFrom .any ops n2 k S
  | m + 1, k, S => (match Region.ready .any ops S with | [i] => decide (i = k) | _ => false) && preB ops n2 m (k + 1) (S.setIfInBounds k true)
section
variable {P : Program} {ops : Array Oper} {Q Q' : Exit → Act → World → Prop}
theorem wpOp_of_cons {o : Oper} {rest : List Oper} {i : Nat} {a : Act} {w : World} {K : Act → World → Prop} (hi : ops[i]? = some o) (h : wpList P ops Q' (o :: rest) a w)
    (hQ : ∀ e a' w', e ≠ .normal → Q' e a' w' → Q e a' w') (hK : ∀ a' w', wpList P ops Q' rest a' w' → K a' w') : wpOp P ops Q i K a w := by
  have lets : LetsOut Q' → LetsOut Q := fun ⟨a, w, h⟩ => ⟨a, w, hQ _ _ _ (by simp) h⟩
  unfold wpOp
  simp only [hi]
  simp only [wpList] at h
  by_cases hw : Region.wanted o (yielded ops a.tmps) = true
  · rw [if_pos hw] at h ⊢
    rcases h with h | ⟨h1, h2⟩
    · left
      unfold Oper.wp at h ⊢
      generalize (execOp a.eval o).run P w = r at h ⊢
      cases r with
      | ok nx w' =>
        cases nx with
        | value v => exact hK _ _ h
        | skip => exact hK _ _ h
        | defer d => exact hK _ _ h
        | enter f args =>
          simp only [Oper.upon] at h ⊢
          refine h.mono ?_
          rintro (v | c | _) w'' hx
          · exact hK _ _ hx
          · exact hQ _ _ _ (by simp) hx
          · exact lets hx
        | row row args => exact Rows.mono h fun v w'' hx => hK _ _ hx
        | _ => exact h
      | halt x w' =>
        cases x <;> first | exact hQ _ _ _ (by simp) h | exact h
    · exact .inr ⟨h1, lets h2⟩
  · rw [if_neg hw] at h ⊢
    exact hK _ _ h
def preQ (P : Program) (ops : Array Oper) (Q : Exit → Act → World → Prop) (l2 : List Oper) : Exit → Act → World → Prop
  | .normal, a, w => wpQuiet P ops (fun w' => ∃ n, w' = w.drewN n) (fun a' => ∀ w', (∃ n, w' = w.drewN n) → Q .normal a' w') l2 a
  | e, a, w => Q e a w
theorem wpAny_pre [DS] (hs : Region.noSelect ops = true) (l2 : List Oper) : ∀ (l1 : List Oper) (k : Nat) (S : Array Bool) (a : Act) (w : World), (∀ j, (l1 ++ l2)[j]? = ops[k + j]?) → preB ops l2.length l1.length k S = true →
    wpList P ops (preQ P ops Q l2) l1 a w → wpAny P .any ops Q (l1.length + l2.length) S a w
  | [], k, S, a, w, hl, hB, h => by
    have h2 := wpAnyQ_lex (C := fun w' => ∃ n, w' = w.drewN n) hs l2 k S a (by simpa using hl) (by simpa [preB] using hB) h
    have := wpAny_of_quiet (Q := fun a' => ∀ w', (∃ n, w' = w.drewN n) → Q .normal a' w') (Q' := Q) (fun a' w' hw' h => h w' hw') l2.length S a w ⟨0, rfl⟩ h2
    simpa using this
  | o :: l1, k, S, a, w, hl, hB, h => by
    have h0 : ops[k]? = some o := by simpa using (hl 0).symm
    simp only [List.length_cons, preB, Bool.and_eq_true] at hB
    obtain ⟨hr, hB⟩ := hB
    have hr2 : Region.ready .any ops S = [k] := by
      split at hr
      · rename_i i hi
        simp at hr
        subst hr
        exact hi
      · cases hr
    have e : (o :: l1).length + l2.length = (l1.length + l2.length) + 1 := by simp; omega
    rw [e]
    refine ⟨fun h1 => (by rw [hr2] at h1; cases h1), fun i hi => ?_⟩
    rw [hr2] at hi
    obtain rfl : i = k := by simpa using hi
    refine wpOp_of_cons h0 h (fun e a' w' hne hx => ?_) fun a' w' hx => wpAny_pre hs l2 l1 (i + 1) _ a' w' (fun j => by have := hl (j + 1); simpa [Nat.add_assoc, Nat.add_comm 1 j] using this) hB hx
    cases e <;> first | exact absurd rfl hne | exact hx
theorem c_pre [DS] {id : Nat} {l : List Oper} {a : Act} {w : World} (m : Nat) (hm : P.follows .mixedOrders = true) (hs : Region.noSelect l.toArray = true) (hlen : (l.take m).length = m) (hB : preB l.toArray (l.drop m).length m 0 (Array.replicate l.length false) = true)
    (h : wpList P l.toArray (preQ P l.toArray Q (l.drop m)) (l.take m) a (w.drewN 1)) : (Code.region id l.toArray true).wp P Q a w := by
  have e : w.drewN 1 = { w with drawn := w.drawn + 1 } := rfl
  refine wp_region_any hm ?_
  rw [← e]
  have h1 := wpAny_pre (Q := Q) hs (l.drop m) (l.take m) 0 (Array.replicate l.length false) a (w.drewN 1) (by simp) (by rw [hlen]; exact hB) h
  have e2 : (l.take m).length + (l.drop m).length = l.toArray.size := by
    rw [← List.length_append, List.take_append_drop]; simp
  rw [e2] at h1
  simpa using h1
end

/-! ## The same where those that turn the world stand in no one order -/
structure Rh extends Rg where
  ep : List (List Nat)
  es : List (List Nat)
namespace Rh
def epOf (R : Rh) (i : Nat) : List Nat := R.ep.getD i []
def esOf (R : Rh) (i : Nat) : List Nat := R.es.getD i []
def one (R : Rh) (ops : Array Oper) (i : Nat) (o : Oper) : Bool :=
  decide (o.dst = R.dstOf i) && (o.after.all fun e => !Region.binds .any e || decide (e.on < i)) && ((R.preOf i).all fun p => o.after.any fun e => Region.binds .any e && decide (e.on = p)) &&
  ((List.range ops.size).all fun q => decide (q = i) || decide (R.dstOf q = none) || decide (R.dstOf q ≠ R.dstOf i)) &&
  ((R.epOf i).all fun e => R.eff.contains e && (R.preOf i).any fun p => decide (p = e) || (R.epOf p).contains e) &&
  ((R.esOf i).all fun e => R.eff.contains e && (List.range ops.size).any fun q => (R.preOf q).contains i && (decide (q = e) || (R.esOf q).contains e))
def chk (R : Rh) (ops : Array Oper) : Bool :=
  decide (R.dst.length = ops.size) && (R.eff.all fun e => decide (e < ops.size)) && ((List.range ops.size).all fun i => match ops[i]? with | none => false | some o => R.one ops i o)
def avail (R : Rh) (D : List Nat) : List Nat := (List.range R.dst.length).filter fun i => !R.eff.contains i && (R.epOf i).all (fun e => D.contains e) && (R.esOf i).all (fun e => !D.contains e)
def ins (R : Rh) (e : Nat) (D : List Nat) : List Nat := R.eff.filter fun x => decide (x = e) || D.contains x
def rdy (R : Rh) (D : List Nat) : List Nat := R.eff.filter fun e => !D.contains e && (R.epOf e).all (fun x => D.contains x)
end Rh
section
variable (P : Program) (ops : Array Oper) (Q : Exit → Act → World → Prop) (n : Nat) (L0 : List (Nat × Value)) (R : Rh)
def StT [DS] : Nat → List Nat → List (Nat × Value) → World → Prop
  | 0, D, V, w => AllL (Ans P ops n L0 R.toRg V w) (R.avail D) ∧ R.rdy D = [] ∧ (R.eff.all (fun e => D.contains e) = true → ∀ a, Has n DS.ds a (R.envFin V L0) → Q .normal a w)
  | m + 1, D, V, w => AllL (Ans P ops n L0 R.toRg V w) (R.avail D) ∧ (R.eff.all (fun e => D.contains e) = true → ∀ a, Has n DS.ds a (R.envFin V L0) → Q .normal a w) ∧ AllL (fun e => ∃ o, ops[e]? = some o ∧ ∀ a, Has n DS.ds a (R.envOf V L0 e) →
      wpList P ops (effQ Q n (R.dstOf e) fun v w' => ∃ V', Sub ((e, v) :: V) V' ∧ StT m (R.ins e D) V' w') [o] a w) (R.rdy D)
end
section
variable {P : Program} {ops : Array Oper} {Q : Exit → Act → World → Prop} {n : Nat} {L0 : List (Nat × Value)} {R : Rh}
structure HalfT [DS] (ops : Array Oper) (n : Nat) (L0 : List (Nat × Value)) (R : Rh) (V : List (Nat × Value)) (S : Array Bool) (a : Act) (D : List Nat) : Prop where
  ssz : S.size = ops.size
  tsz : a.tmps.size = n
  dfr : a.defers = DS.ds
  clo : ∀ i, Dn S i → ∀ p ∈ R.preOf i, Dn S p
  eff : ∀ e, e ∈ R.eff → (Dn S e ↔ e ∈ D)
  done : ∀ i v d, Dn S i → R.dstOf i = some d → Env.get V i = some v → a.tmps[d]? = some v
  base : ∀ r v, Env.get L0 r = some v → (∀ q, Dn S q → R.dstOf q ≠ some r) → a.tmps[r]? = some v
theorem Rh.chk_one (h : R.chk ops = true) {i : Nat} {o : Oper} (hi : ops[i]? = some o) : R.one ops i o = true := by
  unfold Rh.chk at h
  simp only [Bool.and_eq_true] at h
  have h2 := List.all_eq_true.1 h.2 i (List.mem_range.2 (Array.getElem?_eq_some_iff.1 hi).1)
  rw [hi] at h2
  exact h2
theorem Rh.chk_len (h : R.chk ops = true) : R.dst.length = ops.size := by
  unfold Rh.chk at h
  simp only [Bool.and_eq_true, decide_eq_true_eq] at h
  exact h.1.1
theorem Rh.chk_eff (h : R.chk ops = true) {e : Nat} (he : e ∈ R.eff) : e < ops.size := by
  unfold Rh.chk at h
  simp only [Bool.and_eq_true] at h
  simpa using List.all_eq_true.1 h.1.2 e he
section
variable {V : List (Nat × Value)} {S : Array Bool} {a : Act} {D : List Nat} {i : Nat} {o : Oper}
theorem Rh.pre_lt [DS] (hc : R.chk ops = true) (hi : ops[i]? = some o) {p : Nat} (hp : p ∈ R.preOf i) : p < i ∧ ∃ e ∈ o.after, Region.binds .any e = true ∧ e.on = p := by
  have h := R.chk_one hc hi
  unfold Rh.one at h
  simp only [Bool.and_eq_true] at h
  obtain ⟨⟨⟨⟨⟨_, h1⟩, h2⟩, _⟩, _⟩, _⟩ := h
  have h3 := List.all_eq_true.1 h2 p hp
  obtain ⟨e, he, h4⟩ := Array.any_eq_true'.1 h3
  simp only [Bool.and_eq_true, decide_eq_true_eq] at h4
  refine ⟨?_, e, he, h4.1, h4.2⟩
  have h5 := Array.all_eq_true'.1 h1 e he
  simp only [Bool.or_eq_true, Bool.not_eq_true', decide_eq_true_eq] at h5
  rcases h5 with h5 | h5
  · rw [h4.1] at h5; cases h5
  · omega
theorem HalfT.low [DS] (I : HalfT ops n L0 R V S a D) (hc : R.chk ops = true) : ∀ (i : Nat) {o : Oper}, ops[i]? = some o → (∀ p ∈ R.preOf i, Dn S p) → ∀ e ∈ R.epOf i, e ∈ D := by
  intro i
  induction i using Nat.strongRecOn with
  | ind i ih =>
    intro o hi hp e he
    have h := R.chk_one hc hi
    unfold Rh.one at h
    simp only [Bool.and_eq_true] at h
    have h1 := List.all_eq_true.1 h.1.2 e he
    simp only [Bool.and_eq_true, List.contains_eq_mem, decide_eq_true_eq] at h1
    obtain ⟨p, hpm, h2⟩ := List.any_eq_true.1 h1.2
    simp only [Bool.or_eq_true, decide_eq_true_eq] at h2
    have hd := hp p hpm
    rcases h2 with rfl | h2
    · exact (I.eff _ h1.1).1 hd
    · have hlt := (R.pre_lt hc hi hpm).1
      have hps : p < ops.size := by have := (Array.getElem?_eq_some_iff.1 hi).1; omega
      exact ih p hlt (Array.getElem?_eq_getElem hps) (I.clo p hd) e h2
theorem HalfT.high [DS] (I : HalfT ops n L0 R V S a D) (hc : R.chk ops = true) : ∀ (m i : Nat) {o : Oper}, ops.size - i ≤ m → ops[i]? = some o → ¬ Dn S i → ∀ e ∈ R.esOf i, e ∉ D := by
  intro m
  induction m with
  | zero =>
    intro i o hm hi
    have := (Array.getElem?_eq_some_iff.1 hi).1
    omega
  | succ m ih =>
    intro i o hm hi hd e he heD
    have h := R.chk_one hc hi
    unfold Rh.one at h
    simp only [Bool.and_eq_true] at h
    have h1 := List.all_eq_true.1 h.2 e he
    simp only [Bool.and_eq_true, List.contains_eq_mem, decide_eq_true_eq] at h1
    obtain ⟨q, hqm, h2⟩ := List.any_eq_true.1 h1.2
    simp only [Bool.or_eq_true, Bool.and_eq_true, decide_eq_true_eq] at h2
    obtain ⟨hiq, h2⟩ := h2
    have hqs : q < ops.size := List.mem_range.1 hqm
    have hlt := (R.pre_lt hc (Array.getElem?_eq_getElem hqs) hiq).1
    have hnd : ¬ Dn S q := fun hq => hd (I.clo q hq i hiq)
    rcases h2 with rfl | h2
    · exact hnd ((I.eff _ h1.1).2 heD)
    · exact ih q (by omega) (Array.getElem?_eq_getElem hqs) hnd e h2 heD
theorem HalfT.has [DS] (I : HalfT ops n L0 R V S a D) (hc : R.chk ops = true) (hd : ¬ Dn S i) (hp : ∀ p ∈ R.preOf i, Dn S p) : Has n DS.ds a (R.envOf V L0 i) := by
  refine ⟨I.tsz, I.dfr, fun t v h => ?_⟩
  rcases get_append h with h | h
  · obtain ⟨p, hpm, h1, h2⟩ := get_fm h
    exact I.done p v t (hp p hpm) h1 h2
  · obtain ⟨h1, h2⟩ := get_filter (p := fun r => (List.range R.dst.length).all fun q => decide (R.dstOf q ≠ some r) || decide (q = i) || (R.preOf q).contains i) h
    refine I.base t v h1 fun q hq hqt => ?_
    have hql : q < R.dst.length := by rw [R.chk_len hc, ← I.ssz]; exact hq.lt
    have h3 := List.all_eq_true.1 h2 q (List.mem_range.2 hql)
    simp only [Bool.or_eq_true, decide_eq_true_eq, List.contains_eq_mem] at h3
    rcases h3 with (h3 | h3) | h3
    · exact h3 hqt
    · subst h3; exact hd hq
    · exact hd (I.clo q hq i h3)
theorem HalfT.hasFin [DS] (I : HalfT ops n L0 R V S a D) (hc : R.chk ops = true) (hall : ∀ i, i < ops.size → Dn S i) : Has n DS.ds a (R.envFin V L0) := by
  refine ⟨I.tsz, I.dfr, fun t v h => ?_⟩
  rcases get_append h with h | h
  · obtain ⟨p, hpm, h1, h2⟩ := get_fm h
    rw [List.mem_range, R.chk_len hc] at hpm
    exact I.done p v t (hall p hpm) h1 h2
  · obtain ⟨h1, h2⟩ := get_filter (p := fun r => (List.range R.dst.length).all fun q => decide (R.dstOf q ≠ some r)) h
    refine I.base t v h1 fun q hq hqt => ?_
    have hql : q < R.dst.length := by rw [R.chk_len hc, ← I.ssz]; exact hq.lt
    have h3 := List.all_eq_true.1 h2 q (List.mem_range.2 hql)
    simp only [decide_eq_true_eq] at h3
    exact h3 hqt
theorem HalfT.step [DS] (I : HalfT ops n L0 R V S a D) (hc : R.chk ops = true) (hi : ops[i]? = some o) (hd : ¬ Dn S i) (hp : ∀ p ∈ R.preOf i, Dn S p) {v u : Value} {V' : List (Nat × Value)} {D' : List Nat}
    (hV : ∀ (k : Nat) (x : Value), Dn S k → Env.get V k = some x → Env.get V' k = some x) (hdef : ∀ k, Dn S k → ∀ d, R.dstOf k = some d → ∃ x, Env.get V k = some x) (hv : Env.get V' i = some v)
    (ha : Has n DS.ds (a.put o.dst u) (slotD (R.dstOf i) v)) (he : ∀ e, e ∈ R.eff → ((e = i ∨ Dn S e) ↔ e ∈ D')) : HalfT ops n L0 R V' (S.setIfInBounds i true) (a.put o.dst u) D' := by
  have hlt := (Array.getElem?_eq_some_iff.1 hi).1
  have hss : i < S.size := by rw [I.ssz]; exact hlt
  have h1 := R.chk_one hc hi
  unfold Rh.one at h1
  simp only [Bool.and_eq_true, decide_eq_true_eq] at h1
  have hdst : o.dst = R.dstOf i := h1.1.1.1.1.1
  have hdd := h1.1.1.2
  have hput : ∀ d, R.dstOf i ≠ some d → (a.put o.dst u).tmps[d]? = a.tmps[d]? := fun d hne => by
    unfold Act.put
    rw [hdst]
    cases hx : R.dstOf i with
    | none => rfl
    | some y =>
      rw [hx] at hne
      rw [Array.getElem?_setIfInBounds, if_neg (fun h => hne (by rw [h]))]
  refine ⟨by simp [I.ssz], ha.size, ha.defers, fun k hk p hpk => ?_, fun e hk => ?_, fun k x d hk hkd hx => ?_, fun r x hx hno => ?_⟩
  · rw [dn_set hss] at hk ⊢
    rcases hk with rfl | hk
    · exact .inr (hp p hpk)
    · exact .inr (I.clo k hk p hpk)
  · rw [dn_set hss]
    exact he e hk
  · rw [dn_set hss] at hk
    rcases hk with rfl | hk
    · have hxv : x = v := by rw [hv] at hx; injection hx with hx; exact hx.symm
      subst hxv
      rw [hkd] at ha
      exact ha.get d x (by simp [slotD, Env.get])
    · obtain ⟨y, hy⟩ := hdef k hk d hkd
      have hxy : x = y := by rw [hV k y hk hy] at hx; injection hx with hx; exact hx.symm
      subst hxy
      by_cases hki : k = i
      · subst hki; exact absurd hk hd
      · have h5 := List.all_eq_true.1 hdd k (List.mem_range.2 (by rw [← I.ssz]; exact hk.lt))
        simp only [Bool.or_eq_true, decide_eq_true_eq] at h5
        have h6 : R.dstOf i ≠ some d := by
          rcases h5 with (h5 | h5) | h5
          · exact absurd h5 hki
          · rw [h5] at hkd; cases hkd
          · rw [hkd] at h5; exact fun h => h5 h.symm
        rw [hput d h6]
        exact I.done k x d hk hkd hy
  · have h7 : R.dstOf i ≠ some r := hno i ((dn_set hss).2 (.inl rfl))
    rw [hput r h7]
    exact I.base r x hx fun q hq => hno q ((dn_set hss).2 (.inr hq))
theorem HalfT.all_done [DS] (I : HalfT ops n L0 R V S a D) (hc : R.chk ops = true) (hr : Region.ready .any ops S = []) : ∀ i, i < ops.size → Dn S i := by
  intro i
  induction i using Nat.strongRecOn with
  | ind i ih =>
    intro hi
    cases hS : S[i]? with
    | none => rw [Array.getElem?_eq_none_iff, I.ssz] at hS; omega
    | some b =>
      cases b with
      | true => exact hS
      | false =>
        exfalso
        have ho : ops[i]? = some ops[i] := Array.getElem?_eq_getElem hi
        have h := R.chk_one hc ho
        unfold Rh.one at h
        simp only [Bool.and_eq_true] at h
        have h1 := h.1.1.1.1.2
        have hmem : i ∈ Region.ready .any ops S := by
          unfold Region.ready
          simp only [List.mem_filter, List.mem_range]
          refine ⟨hi, ?_⟩
          simp only [Bool.and_eq_true, Bool.not_eq_true']
          refine ⟨by simp [Array.getD_eq_getD_getElem?, hS], ?_⟩
          rw [ho]
          simp only [Option.map_some, Option.getD_some, Array.all_eq_true']
          intro e he
          have h5 := Array.all_eq_true'.1 h1 e he
          simp only [Bool.or_eq_true, Bool.not_eq_true', decide_eq_true_eq] at h5 ⊢
          rcases h5 with h5 | h5
          · exact .inl h5
          · have h6 := ih e.on h5 (by omega)
            right
            unfold Dn at h6
            simp [Array.getD_eq_getD_getElem?, h6]
        rw [hr] at hmem
        simp at hmem
end
theorem StT.facts [DS] {m : Nat} {D : List Nat} {V : List (Nat × Value)} {w : World} (h : StT P ops Q n L0 R m D V w) : AllL (Ans P ops n L0 R.toRg V w) (R.avail D) := by
  cases m with
  | zero => exact h.1
  | succ m => exact h.1
theorem StT.final [DS] {m : Nat} {D : List Nat} {V : List (Nat × Value)} {w : World} (h : StT P ops Q n L0 R m D V w) : R.eff.all (fun e => D.contains e) = true → ∀ a, Has n DS.ds a (R.envFin V L0) → Q .normal a w := by
  cases m with
  | zero => exact h.2.2
  | succ m => exact h.2.1
theorem StT.last [DS] {D : List Nat} {V : List (Nat × Value)} {w : World} (l : List Nat) (hl : R.avail D = l) (hr : R.rdy D = []) (h : AllL (Ans P ops n L0 R.toRg V w) l) (k : ∀ a, Has n DS.ds a (R.envFin V L0) → Q .normal a w) : StT P ops Q n L0 R 0 D V w := by
  subst hl; exact ⟨h, hr, fun _ => k⟩
theorem StT.more [DS] {D : List Nat} {V : List (Nat × Value)} {w : World} {m : Nat} (l l2 : List Nat) (hl : R.avail D = l) (hr : R.rdy D = l2) (hn : R.eff.all (fun e => D.contains e) = false) (h : AllL (Ans P ops n L0 R.toRg V w) l)
    (k : AllL (fun e => ∃ o, ops[e]? = some o ∧ ∀ a, Has n DS.ds a (R.envOf V L0 e) → wpList P ops (effQ Q n (R.dstOf e) fun v w' => ∃ V', Sub ((e, v) :: V) V' ∧ StT P ops Q n L0 R m (R.ins e D) V' w') [o] a w) l2) : StT P ops Q n L0 R (m + 1) D V w := by
  subst hl hr; exact ⟨h, fun hx => (by rw [hn] at hx; cases hx), k⟩
theorem stt_any [DS] (hc : R.chk ops = true) : ∀ (f m : Nat) (D : List Nat) (V : List (Nat × Value)) (w : World) (S : Array Bool) (a : Act), todo S = f → HalfT ops n L0 R V S a D →
    (∀ k, Dn S k → ∃ x, Env.get V k = some x) → StT P ops Q n L0 R m D V w → wpAny P .any ops Q f S a w := by
  intro f
  induction f with
  | zero =>
    intro m D V w S a hm I hdef h
    have hall := fun i hi => todo_zero hm i (by rw [I.ssz]; exact hi)
    refine ⟨?_, h.final (List.all_eq_true.2 fun e he => ?_) a (I.hasFin hc hall)⟩
    rotate_left
    · have := (I.eff e he).1 (hall e (R.chk_eff hc he))
      simpa using this
    unfold Region.ready
    rw [List.filter_eq_nil_iff]
    intro i hi
    have h1 := hall i (List.mem_range.1 hi)
    unfold Dn at h1
    simp [Array.getD_eq_getD_getElem?, h1]
  | succ f ih =>
    intro m D V w S a hm I hdef h
    refine ⟨fun hrd => ?_, fun i hi => ?_⟩
    · have hall := I.all_done hc hrd
      exfalso
      have : todo S = 0 := by
        unfold todo
        rw [List.length_eq_zero_iff, List.filter_eq_nil_iff]
        intro b hb
        obtain ⟨k, hk, rfl⟩ := List.getElem_of_mem hb
        have h1 := hall k (by rw [← I.ssz]; simpa using hk)
        unfold Dn at h1
        rw [Array.getElem?_eq_getElem (by simpa using hk)] at h1
        simpa using h1
      omega
    · unfold Region.ready at hi
      simp only [List.mem_filter, List.mem_range, Bool.and_eq_true, Bool.not_eq_true'] at hi
      obtain ⟨hlt, hnd, hpr⟩ := hi
      have hSi : S[i]? = some false := by
        have : i < S.size := by rw [I.ssz]; exact hlt
        rw [Array.getD_eq_getD_getElem?, Array.getElem?_eq_getElem this] at hnd
        rw [Array.getElem?_eq_getElem this]
        simpa using hnd
      have hd : ¬ Dn S i := fun hx => by unfold Dn at hx; rw [hSi] at hx; simp at hx
      have ho : ops[i]? = some ops[i] := Array.getElem?_eq_getElem hlt
      rw [ho] at hpr
      simp only [Option.map_some, Option.getD_some] at hpr
      have hp : ∀ p ∈ R.preOf i, Dn S p := fun p hp => by
        obtain ⟨_, e, he, hb, rfl⟩ := R.pre_lt hc ho hp
        have h1 := Array.all_eq_true'.1 hpr e he
        rw [hb] at h1
        simp only [Bool.not_true, Bool.false_or] at h1
        unfold Dn
        cases hx : S[e.on]? with
        | none => rw [Array.getD_eq_getD_getElem?, hx] at h1; simp at h1
        | some b => rw [Array.getD_eq_getD_getElem?, hx] at h1; simpa using h1
      have hts := todo_set hSi
      have hen := I.has hc hd hp
      have hss : i < S.size := by rw [I.ssz]; exact hlt
      have hlow := I.low hc i ho hp
      by_cases hie : i ∈ R.eff
      · have hiD : i ∉ D := fun hx => hd ((I.eff i hie).2 hx)
        have hrd : i ∈ R.rdy D := by
          unfold Rh.rdy
          simp only [List.mem_filter, Bool.and_eq_true, Bool.not_eq_true', List.contains_eq_mem, decide_eq_false_iff_not, List.all_eq_true, decide_eq_true_eq]
          exact ⟨hie, hiD, hlow⟩
        cases m with
        | zero => rw [h.2.1] at hrd; simp at hrd
        | succ m =>
          obtain ⟨o, ho2, hw⟩ := h.2.2.mem i hrd
          obtain rfl : ops[i] = o := by rw [ho] at ho2; injection ho2
          refine wpOp_of_list hen.defers ho (hw a hen) (fun a' w' hx => ?_) (fun x a' w' hne hx => ?_) (fun v w' hx => ?_)
          · obtain ⟨v, h1, _⟩ := hx
            exact h1.defers
          · cases x <;> first | exact absurd rfl hne | exact hx
          · obtain ⟨u, h1, V', h2, h3⟩ := hx
            have hsub : ∀ {q : Nat} {x : Value}, Env.get ((i, u) :: V) q = some x → Env.get V' q = some x := fun hg => Sub.get h2 hg
            have hei : Env.get V' i = some u := hsub (by simp [Env.get])
            have hne : ∀ q, Dn S q → q ≠ i := fun q hq h => by subst h; exact hd hq
            have hold : ∀ q x, Dn S q → Env.get V q = some x → Env.get V' q = some x := fun q x hq hx => hsub (by
              simp only [Env.get]
              have : Nat.beq i q = false := by
                cases hb : Nat.beq i q with
                | false => rfl
                | true => exact absurd (Nat.eq_of_beq_eq_true hb).symm (hne q hq)
              rw [this]
              exact hx)
            have hdd : ∀ q, Dn (S.setIfInBounds i true) q → ∃ x, Env.get V' q = some x := fun q hq => by
              rcases (dn_set hss).1 hq with rfl | hq
              · exact ⟨u, hei⟩
              · obtain ⟨x, hx⟩ := hdef q hq
                exact ⟨x, hold q x hq hx⟩
            refine ih m (R.ins i D) V' w' _ _ (by omega) (I.step hc ho hd hp hold (fun q hq d _ => hdef q hq) hei h1 fun e he => ?_) hdd h3
            unfold Rh.ins
            rw [List.mem_filter]
            simp only [Bool.or_eq_true, decide_eq_true_eq, List.contains_eq_mem]
            constructor
            · rintro (rfl | hq)
              · exact ⟨he, .inl rfl⟩
              · exact ⟨he, .inr ((I.eff e he).1 hq)⟩
            · rintro ⟨_, rfl | hq⟩
              · exact .inl rfl
              · exact .inr ((I.eff e he).2 hq)
      · have hav : i ∈ R.avail D := by
          unfold Rh.avail
          simp only [List.mem_filter, List.mem_range, Bool.and_eq_true, Bool.not_eq_true', List.contains_eq_mem, decide_eq_false_iff_not, List.all_eq_true, decide_eq_true_eq]
          exact ⟨by rw [R.chk_len hc]; exact hlt, ⟨hie, hlow⟩, fun e he => I.high hc _ i (Nat.le_refl _) ho hd e he⟩
        obtain ⟨o, v, ho2, hv, hw⟩ := h.facts.mem i hav
        obtain rfl : ops[i] = o := by rw [ho] at ho2; injection ho2
        refine wpOp_of_list hen.defers ho (hw a hen) (fun a' w' hx => hx.2.2.defers) (fun x a' w' hne hx => absurd hx.1 hne) (fun u w' hx => ?_)
        obtain ⟨_, rfl, h1⟩ := hx
        refine ih m D V w' _ _ (by omega) (I.step hc ho hd hp (fun _ _ _ h => h) (fun q hq d _ => hdef q hq) hv h1 fun e he => ?_) (fun q hq => ?_) h
        · constructor
          · rintro (rfl | hq)
            · exact absurd he hie
            · exact (I.eff e he).1 hq
          · exact fun hD => .inr ((I.eff e he).2 hD)
        · rcases (dn_set hss).1 hq with rfl | hq
          · exact ⟨v, hv⟩
          · exact hdef q hq
theorem c_anyT0 [DS] {id : Nat} {l : List Oper} {a : Act} {w : World} {V : List (Nat × Value)} (m : Nat) (R : Rh) (L0 : List (Nat × Value)) (hm : P.follows .mixedOrders = true) (hc : R.chk l.toArray = true) (H : Has n DS.ds a L0)
    (h : StT P l.toArray Q n L0 R m [] V (w.drewN 1)) : (Code.region id l.toArray true).wp P Q a w := by
  have e : w.drewN 1 = { w with drawn := w.drawn + 1 } := rfl
  refine wp_region_any hm ?_
  rw [← e]
  have nd : ∀ i, ¬ Dn (Array.replicate l.toArray.size false) i := fun i hi => by
    unfold Dn at hi
    rw [Array.getElem?_replicate] at hi
    split at hi <;> simp at hi
  refine stt_any hc _ m [] V _ _ a ?_ ⟨by simp, H.size, H.defers, fun i hi => absurd hi (nd i), fun e _ => ⟨fun hi => absurd hi (nd e), fun h => by simp at h⟩, fun i v d hi => absurd hi (nd i), fun r v hr _ => H.get r v hr⟩ (fun k hk => absurd hk (nd k)) h
  unfold todo
  rw [Array.toList_replicate, List.filter_replicate]
  simp
end
end Go.Vc

namespace Go.Proofs.YtabifopphhpciaaGreatDoor
open Go Go.Vc
noncomputable abbrev PP : Program := Tryz.prog
abbrev F_bytes_Clone : FuncId := 52
abbrev F_client_Client_Get : FuncId := 22
abbrev F_client_Client_Handle : FuncId := 19
abbrev F_client_Client_Now : FuncId := 24
abbrev F_client_Client_Put : FuncId := 13
abbrev F_client_Client_Tick : FuncId := 18
abbrev F_client_Client_Tick_c1 : FuncId := 46
abbrev F_client_Client_begin : FuncId := 38
abbrev F_client_Client_chosen : FuncId := 87
abbrev F_client_Client_counts : FuncId := 49
abbrev F_client_Client_end : FuncId := 89
abbrev F_client_Client_enter : FuncId := 78
abbrev F_client_Client_met : FuncId := 55
abbrev F_client_Client_read : FuncId := 90
abbrev F_client_Client_read_c1 : FuncId := 127
abbrev F_client_Client_requests : FuncId := 48
abbrev F_client_New : FuncId := 8
abbrev F_client_operation_top : FuncId := 88
abbrev F_client_operation_top_c1 : FuncId := 126
abbrev F_client_reply_Answer : FuncId := 53
abbrev F_client_reply_Each : FuncId := 45
abbrev F_client_reply_Get : FuncId := 50
abbrev F_client_reply_Met : FuncId := 54
abbrev F_client_reply_Missing : FuncId := 44
abbrev F_cmp_Compare_int : FuncId := 57
abbrev F_cmp_Compare_int64 : FuncId := 56
abbrev F_cmp_isNaN_int : FuncId := 92
abbrev F_cmp_isNaN_int64 : FuncId := 91
abbrev F_code_Code_Decode : FuncId := 153
abbrev F_code_Code_K : FuncId := 43
abbrev F_code_Code_Row : FuncId := 124
abbrev F_code_Code_refused : FuncId := 167
abbrev F_code_Code_refused_c1 : FuncId := 183
abbrev F_code_Code_shaped : FuncId := 79
abbrev F_code_Code_shaped_c1 : FuncId := 112
abbrev F_code_Code_sum : FuncId := 80
abbrev F_code_New : FuncId := 11
abbrev F_code_generator : FuncId := 37
abbrev F_errors_As : FuncId := 172
abbrev F_errors_Is : FuncId := 155
abbrev F_gf_Field_AddMul : FuncId := 110
abbrev F_gf_Field_Inv : FuncId := 146
abbrev F_gf_Field_Mul : FuncId := 107
abbrev F_gf_Field_Poly : FuncId := 109
abbrev F_gf_New : FuncId := 73
abbrev F_gf_Std : FuncId := 36
abbrev F_maps_Clone_map_int_client_reply_int_client_reply : FuncId := 82
abbrev F_matrix_Matrix_Invert : FuncId := 75
abbrev F_matrix_Matrix_Mul : FuncId := 76
abbrev F_matrix_Matrix_Rows : FuncId := 77
abbrev F_matrix_New : FuncId := 168
abbrev F_matrix_New_c1 : FuncId := 184
abbrev F_matrix_Vandermonde : FuncId := 74
abbrev F_matrix_blank : FuncId := 106
abbrev F_matrix_eliminate : FuncId := 108
abbrev F_matrix_eliminate_c1 : FuncId := 143
abbrev F_matrix_eliminate_c2 : FuncId := 144
abbrev F_matrix_eliminate_c3 : FuncId := 145
abbrev F_matrix_sized : FuncId := 105
abbrev F_phase_New : FuncId := 64
abbrev F_quorum_Check : FuncId := 35
abbrev F_quorum_Size : FuncId := 10
abbrev F_sherdlaw18_ClientWrites : FuncId := 4
abbrev F_sherdlaw18_Plain_answer : FuncId := 26
abbrev F_sherdlaw18_Plain_find : FuncId := 59
abbrev F_sherdlaw18_Plain_top : FuncId := 58
abbrev F_sherdlaw18_Tale_id : FuncId := 9
abbrev F_sherdlaw18_Town_quiet : FuncId := 23
abbrev F_sherdlaw18_awake : FuncId := 12
abbrev F_sherdlaw18_mod : FuncId := 34
abbrev F_sherdlaw18_town : FuncId := 7
abbrev F_sherdlaw18_value : FuncId := 14
abbrev F_slices_Clone : FuncId := 176
abbrev F_slices_Concat : FuncId := 173
abbrev F_slices_ContainsFunc_api_Part_api_Part : FuncId := 182
abbrev F_slices_ContainsFunc_byte_byte : FuncId := 174
abbrev F_slices_ContainsFunc_byte_byte_111 : FuncId := 111
abbrev F_slices_Equal : FuncId := 169
abbrev F_slices_Grow : FuncId := 189
abbrev F_slices_IndexFunc_api_Part_api_Part : FuncId := 196
abbrev F_slices_IndexFunc_byte_byte : FuncId := 190
abbrev F_slices_IndexFunc_byte_byte_147 : FuncId := 147
abbrev F_slices_MaxFunc : FuncId := 86
abbrev F_slices_Sort : FuncId := 47
abbrev F_stripe_Cut : FuncId := 85
abbrev F_stripe_Join : FuncId := 128
abbrev F_stripe_cut : FuncId := 42
abbrev F_stripe_number : FuncId := 156
abbrev F_stripe_refusal_Unwrap : FuncId := 226
abbrev F_stripe_size : FuncId := 81
abbrev F_stripe_whole : FuncId := 157
abbrev F_stripe_whole_c1 : FuncId := 175
abbrev F_stripe_why : FuncId := 154
abbrev F_tag_Compare : FuncId := 21
abbrev F_tag_Max : FuncId := 51
abbrev F_tag_Next : FuncId := 125
abbrev F_tag_Valid : FuncId := 15
abbrev F_tag_Zero : FuncId := 39
abbrev F_tag_proper : FuncId := 40
abbrev Ty_255_bool : TypeId := 273
abbrev Ty_api_Config : TypeId := 35
abbrev Ty_api_Errno : TypeId := 31
abbrev Ty_api_Message : TypeId := 56
abbrev Ty_api_Part : TypeId := 218
abbrev Ty_api_Result : TypeId := 60
abbrev Ty_api_Tag : TypeId := 27
abbrev Ty_bool : TypeId := 4
abbrev Ty_client_Client : TypeId := 102
abbrev Ty_client_asking : TypeId := 130
abbrev Ty_client_ending : TypeId := 173
abbrev Ty_client_operation : TypeId := 116
abbrev Ty_client_reading : TypeId := 121
abbrev Ty_client_reply : TypeId := 119
abbrev Ty_client_reply_166 : TypeId := 166
abbrev Ty_client_writing : TypeId := 170
abbrev Ty_code_Code : TypeId := 107
abbrev Ty_gf_Field : TypeId := 190
abbrev Ty_int : TypeId := 3
abbrev Ty_int64 : TypeId := 2
abbrev Ty_map_int_client_reply : TypeId := 164
abbrev Ty_map_string_int64 : TypeId := 99
abbrev Ty_matrix_Matrix : TypeId := 194
abbrev Ty_p_client_Client : TypeId := 30
abbrev Ty_p_gf_Field : TypeId := 103
abbrev Ty_p_sherdlaw18_Plain : TypeId := 74
abbrev Ty_sherdlaw18_Held : TypeId := 139
abbrev Ty_sherdlaw18_Plain : TypeId := 97
abbrev Ty_sherdlaw18_Tale : TypeId := 25
abbrev Ty_sherdlaw18_Town : TypeId := 38
abbrev Ty_sl_api_Message : TypeId := 46
abbrev Ty_sl_api_Part : TypeId := 216
abbrev Ty_sl_int : TypeId := 23
abbrev Ty_sl_p_client_Client : TypeId := 66
abbrev Ty_sl_p_sherdlaw18_Plain : TypeId := 36
abbrev Ty_sl_sherdlaw18_Held : TypeId := 95
abbrev Ty_sl_sl_uint8 : TypeId := 22
abbrev Ty_sl_uint8 : TypeId := 49
abbrev Ty_string : TypeId := 9
abbrev Ty_stripe_refusal : TypeId := 261
abbrev Ty_uint8 : TypeId := 5
set_option maxRecDepth 100000
theorem mixed : PP.follows .mixedOrders = true := by kernel_rfl
theorem zero_119 : zeroB PP 119 (.agg #[(.int .i64 0), (.int .i64 0), (.bool false), (Slc.v Slc.nil)]) := by unfold zeroB; kernel_rfl
theorem und_int : PP.underlying 3 = some (.int .i64) := by kernel_rfl
theorem und_string : PP.underlying 9 = some .string := by kernel_rfl
theorem und_uint8 : PP.underlying 5 = some (.int .u8) := by kernel_rfl
theorem slT_sl_sl_uint8 : SlT PP Ty_sl_sl_uint8 Ty_sl_uint8 1 24 (Slc.v Slc.nil) := ⟨by kernel_rfl, by kernel_rfl, rfl, by decide⟩
theorem slT_sl_int : SlT PP Ty_sl_int Ty_int 1 8 (.int .i64 0) := ⟨by kernel_rfl, by kernel_rfl, rfl, by decide⟩
theorem slT_sl_p_sherdlaw18_Plain : SlT PP Ty_sl_p_sherdlaw18_Plain Ty_p_sherdlaw18_Plain 1 8 (.pointer none) := ⟨by kernel_rfl, by kernel_rfl, rfl, by decide⟩
theorem slT_sl_api_Message : SlT PP Ty_sl_api_Message Ty_api_Message 11 112 (.agg #[(.int .i64 0), (.int .i64 0), (.int .i64 0), (.int .i64 0), (.string (ByteArray.mk #[])), (.int .i64 0), (.int .i64 0), (.int .i64 0), (.int .i64 0), (.bool false), (Slc.v Slc.nil)]) := ⟨by kernel_rfl, by kernel_rfl, rfl, by decide⟩
theorem slT_sl_uint8 : SlT PP Ty_sl_uint8 Ty_uint8 1 1 (.int .u8 0) := ⟨by kernel_rfl, by kernel_rfl, rfl, by decide⟩
theorem slT_sl_p_client_Client : SlT PP Ty_sl_p_client_Client Ty_p_client_Client 1 8 (.pointer none) := ⟨by kernel_rfl, by kernel_rfl, rfl, by decide⟩
theorem slT_sl_sherdlaw18_Held : SlT PP Ty_sl_sherdlaw18_Held Ty_sherdlaw18_Held 5 48 (.agg #[(.int .i64 0), (.int .i64 0), (.bool false), (.bool false), (Slc.v Slc.nil)]) := ⟨by kernel_rfl, by kernel_rfl, rfl, by decide⟩
theorem slT_sl_api_Part : SlT PP Ty_sl_api_Part Ty_api_Part 2 32 (.agg #[(.int .i64 0), (Slc.v Slc.nil)]) := ⟨by kernel_rfl, by kernel_rfl, rfl, by decide⟩
end Go.Proofs.YtabifopphhpciaaGreatDoor
