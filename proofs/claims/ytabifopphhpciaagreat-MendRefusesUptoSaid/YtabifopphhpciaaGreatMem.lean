/-
  Memory in the contracts' words: what may have changed, blocks known whole, slices that read as lists, slices that a function owns; calls by their contracts; numbers. Nothing of any program stands here.
-/
import Derived.Test.YtabifopphhpciaaGreatVcCode
import Derived.Maps.AppendAt
import Derived.Lib.ConvBytes
import Derived.Laws.BytesArg
namespace Go.Vc
open Go

/-! ## Calls -/
/-- It returns, and this holds of the value and the world. -/
def Rt (Post : Value → World → Prop) : Ending → World → Prop
  | .returned v, w => Post v w
  | _, _ => False
theorem Rt.ok {Post : Value → World → Prop} {v : Value} {w : World} (h : Post v w) : Rt Post (.returned v) w := h
theorem call {P : Program} {f : FuncId} {args : Array Value} {w : World} {Post : Value → World → Prop} {K : Value → World → Prop} {Kp : List PanicEntry → World → Prop}
    (h : Calls P f args w (Rt Post)) (k : ∀ v w', Post v w' → K v w') : Calls P f args w (CallK K Kp) := by
  refine h.mono ?_
  rintro (v | c | _) w' hp
  · exact k v w' hp
  · exact hp.elim
  · exact hp.elim
theorem Rt.mono {P : Program} {f : FuncId} {args : Array Value} {w : World} {Post Post' : Value → World → Prop} (h : Calls P f args w (Rt Post)) (k : ∀ v w', Post v w' → Post' v w') : Calls P f args w (Rt Post') := by
  refine h.mono ?_
  rintro (v | c | _) w' hp
  · exact k v w' hp
  · exact hp.elim
  · exact hp.elim

/-! ## What may have changed -/
/-- All that was there is as it was, but for the blocks in S. -/
structure Fr (S : List Nat) (w w' : World) : Prop where
  os : w'.os = w.os
  tape : w'.tape = w.tape
  output : w'.output = w.output
  size : w.heap.size ≤ w'.heap.size
  block : ∀ k, k < w.heap.size → k ∉ S → w'.heap[k]? = w.heap[k]?
theorem Fr.refl (S : List Nat) (w : World) : Fr S w w := ⟨rfl, rfl, rfl, Nat.le_refl _, fun _ _ _ => rfl⟩
theorem Fr.trans {S T : List Nat} {a b c : World} (h : Fr S a b) (k : Fr T b c) : Fr (S ++ T) a c :=
  ⟨k.os.trans h.os, k.tape.trans h.tape, k.output.trans h.output, Nat.le_trans h.size k.size, fun i hi hn =>
    (k.block i (Nat.lt_of_lt_of_le hi h.size) (fun x => hn (List.mem_append_right _ x))).trans (h.block i hi (fun x => hn (List.mem_append_left _ x)))⟩
theorem Fr.sub {S T : List Nat} {a b : World} (h : Fr S a b) (hs : ∀ k, k ∈ S → k < a.heap.size → k ∈ T) : Fr T a b :=
  ⟨h.os, h.tape, h.output, h.size, fun i hi hn => h.block i hi (fun x => hn (hs i x hi))⟩
/-- What is new to the first world may be written. -/
theorem Fr.local_ {S T : List Nat} {a b c : World} (h : Fr S a b) (k : Fr T b c) (hT : ∀ x, x ∈ T → x ∈ S ∨ a.heap.size ≤ x) : Fr S a c :=
  (h.trans k).sub fun i hi hlt => by
    rcases List.mem_append.1 hi with hi | hi
    · exact hi
    · rcases hT i hi with h1 | h1
      · exact h1
      · omega
theorem Fr.then_ {S : List Nat} {a b c : World} (h : Fr S a b) (k : Fr [] b c) : Fr S a c := h.local_ k fun _ hx => absurd hx (by simp)
theorem Fr.cell {S : List Nat} {w w' : World} (h : Fr S w w') {p : Addr} {v : Value} (hc : w.cell? p = some v) (hp : p.block ∉ S) : w'.cell? p = some v :=
  (World.cell?_of_block (h.block p.block (World.block_lt_of_cell? w p hc) hp)).trans hc
theorem Fr.drewN {S : List Nat} {w w' : World} (h : Fr S w w') (n : Nat) : Fr S w (w'.drewN n) := ⟨h.os, h.tape, h.output, h.size, h.block⟩
theorem NewBlk.fr {w w1 : World} {cs : Array Value} {e : TypeId} {b : Nat} (h : NewBlk w cs e b w1) : Fr [] w w1 := by
  rw [h.is]
  exact ⟨rfl, rfl, rfl, by simp, fun k hk _ => RowKit.Below.heap_alloc w _ k hk⟩
theorem Fr.set (w : World) (p : Addr) (v : Value) : Fr [p.block] w (w.setCell p v) :=
  ⟨rfl, rfl, rfl, by simp [World.setCell], fun k _ hn => heap_setCell_other w p k v (fun e => hn (by rw [e]; simp))⟩
theorem Fr.below {w w' : World} (h : Fr [] w w') : RowKit.Below w.heap.size w w' := ⟨h.os, h.tape, h.output, h.size, fun k hk => h.block k hk (by simp)⟩
theorem Fr.grown {w w' : World} {row : Option Nat} (h : w.grownBy w' row) : Fr row.toList w w' :=
  ⟨h.os, h.tape, h.output, h.size, fun k hk hn => h.block k hk (fun e => hn (by rw [← e]; simp))⟩

/-! ## Blocks known whole -/
def Blk (w : World) (g : Nat) (t : TypeId) (cs : Array Value) : Prop := w.heap[g]? = some (.cells cs t (0, 0))
section
variable {w w' : World} {g : Nat} {t : TypeId} {cs : Array Value} {S : List Nat}
theorem Blk.lt (h : Blk w g t cs) : g < w.heap.size := (Array.getElem?_eq_some_iff.1 h).1
theorem Blk.at_ (h : Blk w g t cs) (i : Nat) : w.cell? ⟨g, i, none⟩ = cs[i]? := cell_of_row w g i cs t (0, 0) h
theorem blk_add (b i : Nat) : (blk b).add i = ⟨b, i, none⟩ := by unfold Addr.add blk; split <;> simp_all
theorem blk_add2 (b i j : Nat) : ((blk b).add i).add j = ⟨b, i + j, none⟩ := by rw [blk_add]; unfold Addr.add; split <;> simp_all
theorem Blk.cell (h : Blk w g t cs) {i : Nat} {v : Value} (hv : cs[i]? = some v) : w.cell? ((blk g).add i) = some v := by rw [blk_add, h.at_, hv]
theorem Blk.cell2 (h : Blk w g t cs) {i j : Nat} {v : Value} (hv : cs[i + j]? = some v) : w.cell? (((blk g).add i).add j) = some v := by rw [blk_add2, h.at_, hv]
theorem Blk.cell3 (h : Blk w g t cs) {i j k : Nat} {v : Value} (hv : cs[i + j + k]? = some v) : w.cell? ((((blk g).add i).add j).add k) = some v := by rw [blk_add2]; rw [show (⟨g, i + j, none⟩ : Addr).add k = ⟨g, i + j + k, none⟩ by unfold Addr.add; split <;> simp_all]; rw [h.at_, hv]
theorem Blk.frz (h : Blk w g t cs) (i : Nat) : w.frozen? ((blk g).add i) = false := by rw [blk_add]; unfold Blk at h; simp [World.frozen?, h]
theorem Blk.frz2 (h : Blk w g t cs) (i j : Nat) : w.frozen? (((blk g).add i).add j) = false := by rw [blk_add2]; unfold Blk at h; simp [World.frozen?, h]
theorem Blk.fr (h : Blk w g t cs) (f : Fr S w w') (hg : g ∉ S) : Blk w' g t cs := (f.block g h.lt hg).trans h
theorem Blk.set (h : Blk w g t cs) (i : Nat) (v : Value) : Blk (w.setCell ((blk g).add i) v) g t (cs.setIfInBounds i v) := by rw [blk_add]; exact heap_setCell_same w g i cs t v h
theorem Blk.set2 (h : Blk w g t cs) (i j : Nat) (v : Value) : Blk (w.setCell (((blk g).add i).add j) v) g t (cs.setIfInBounds (i + j) v) := by rw [blk_add2]; exact heap_setCell_same w g (i + j) cs t v h
theorem NewBlk.blk {b : Nat} (h : NewBlk w cs t b w') : Blk w' b t cs := h.heap
theorem Blk.ne_ {g' : Nat} {t' : TypeId} {cs' : Array Value} (h : Blk w g t cs) (h' : Blk w g' t' cs') (hne : t ≠ t') : g ≠ g' := by
  rintro rfl
  unfold Blk at h h'
  rw [h] at h'
  injection h' with h'
  injection h' with _ ht
  exact hne ht
/-- A store into a block that is known. -/
theorem Blk.sto (h : Blk w g t cs) {i : Nat} (hi : i < cs.size) {v : Value} {K : World → Prop} (k : ∀ w', Blk w' g t (cs.setIfInBounds i v) → Fr [g] w w' → K w') : Sto w ((blk g).add i) v K := by
  refine ⟨?_, h.frz i, k _ (h.set i v) ?_⟩
  · rw [h.cell (v := cs[i]) (Array.getElem?_eq_getElem hi)]; rfl
  · have := Fr.set w ((Vc.blk g).add i) v
    rw [show ((Vc.blk g).add i).block = g by rw [blk_add]] at this
    exact this
theorem Blk.sto2 (h : Blk w g t cs) {i j : Nat} (hi : i + j < cs.size) {v : Value} {K : World → Prop} (k : ∀ w', Blk w' g t (cs.setIfInBounds (i + j) v) → Fr [g] w w' → K w') : Sto w (((blk g).add i).add j) v K := by
  refine ⟨?_, h.frz2 i j, k _ (h.set2 i j v) ?_⟩
  · rw [h.cell2 (v := cs[i + j]) (Array.getElem?_eq_getElem hi)]; rfl
  · have := Fr.set w (((Vc.blk g).add i).add j) v
    rw [show (((Vc.blk g).add i).add j).block = g by rw [blk_add2]] at this
    exact this
end

/-! ## Slices that read as lists of cells -/
/-- The slice's elements, of 'size' cells each, are these cells. -/
structure Cel (w : World) (s : Slc) (size : Nat) (cs : List Value) : Prop where
  len : cs.length = s.l * size
  cap : s.l ≤ s.c
  at_ : ∀ i v, cs[i]? = some v → ∃ p, s.a = some p ∧ w.cell? (p.add i) = some v
/-- The blocks that a slice may lie in. -/
def Slc.blks (s : Slc) : List Nat := match s.a with | some p => [p.block] | none => []
theorem block_add (a : Addr) (n : Nat) : (a.add n).block = a.block := by unfold Addr.add; split <;> rfl
theorem add_add (a : Addr) (i j : Nat) : (a.add i).add j = a.add (i + j) := by
  unfold Addr.add
  by_cases hi : i = 0 <;> by_cases hj : j = 0 <;> simp [hi, hj, Nat.add_assoc]
section
variable {w w' : World} {s : Slc} {size : Nat} {cs : List Value} {S : List Nat}
theorem Cel.fr (h : Cel w s size cs) (f : Fr S w w') (hS : ∀ k ∈ s.blks, k ∉ S) : Cel w' s size cs :=
  ⟨h.len, h.cap, fun i v hv => by
    obtain ⟨p, hp, hc⟩ := h.at_ i v hv
    exact ⟨p, hp, f.cell hc (by rw [block_add]; exact hS _ (by unfold Slc.blks; rw [hp]; simp))⟩⟩
theorem Cel.fr0 (h : Cel w s size cs) (f : Fr [] w w') : Cel w' s size cs := h.fr f fun _ _ => by simp
theorem Cel.drewN (h : Cel w s size cs) (n : Nat) : Cel (w.drewN n) s size cs := ⟨h.len, h.cap, h.at_⟩
theorem Cel.nil (w : World) (size : Nat) : Cel w Slc.nil size [] := ⟨by simp, Nat.le_refl _, fun i v h => by simp at h⟩
theorem Cel.get (h : Cel w s size cs) {i : Nat} (hi : i < cs.length) : ∃ p, s.a = some p ∧ w.cell? (p.add i) = some cs[i] := h.at_ i _ (List.getElem?_eq_getElem hi)
theorem Cel.lt (h : Cel w s size cs) (hz : cs ≠ []) : ∀ k ∈ s.blks, k < w.heap.size := by
  intro k hk
  have h0 : 0 < cs.length := List.length_pos_iff.2 hz
  obtain ⟨p, hp, hc⟩ := h.get h0
  unfold Slc.blks at hk
  rw [hp] at hk
  simp at hk
  subst hk
  have := World.block_lt_of_cell? w (p.add 0) hc
  rwa [block_add] at this
theorem Cel.block {b : Nat} {e : TypeId} {l : List Value} {n c : Nat} (hb : Blk w b e l.toArray) (hl : cs = l.take (n * size)) (hn : n * size ≤ l.length) (hc : n ≤ c) : Cel w ⟨some (blk b), n, c⟩ size cs := by
  subst hl
  refine ⟨by simp [Nat.min_eq_left hn], hc, fun i v hv => ⟨_, rfl, hb.cell ?_⟩⟩
  rw [List.getElem?_take] at hv
  split at hv
  · simpa using hv
  · cases hv
/-- A slice's cut. -/
theorem Cel.cut (h : Cel w s size cs) {l k : Nat} (hl : l ≤ k) (hk : k ≤ s.l) : Cel w (s.cut size l k) size ((cs.drop (l * size)).take ((k - l) * size)) := by
  have h1 : k * size ≤ s.l * size := Nat.mul_le_mul_right _ hk
  have h2 : (k - l) * size = k * size - l * size := Nat.sub_mul _ _ _
  have hcap := h.cap
  refine ⟨?_, ?_, fun i v hv => ?_⟩
  · simp only [List.length_take, List.length_drop, h.len, Slc.cut]
    have : l * size ≤ k * size := Nat.mul_le_mul_right _ hl
    omega
  · simp only [Slc.cut]; omega
  · rw [List.getElem?_take] at hv
    split at hv
    · rename_i hi
      rw [List.getElem?_drop] at hv
      obtain ⟨p, hp, hc⟩ := h.at_ _ v hv
      have hlt : l < s.c := by
        have : 0 < (k - l) * size := by omega
        have : 0 < k - l := Nat.pos_of_mul_pos_right this
        omega
      refine ⟨p.add (l * size), ?_, by rw [add_add]; exact hc⟩
      simp only [Slc.cut, hp]
      rw [if_neg (by omega)]
      rfl
    · cases hv
end

/-! ## Slices that a function owns -/
def Own (e size : Nat) (w : World) (s : Slc) (cs : List Value) : Prop := w.ownsRow 0 e size s.v s.l cs
section
variable {e size : Nat} {w w' : World} {s : Slc} {cs : List Value} {S : List Nat}
theorem Own.nil (e size : Nat) (w : World) : Own e size w Slc.nil [] := World.ownsRow_nil w 0 e size
theorem ownBlock_eq (s : Slc) : s.v.ownBlock.toList = s.blks := by
  obtain ⟨a, l, c⟩ := s
  cases a <;> rfl
theorem Own.cel (h : Own e size w s cs) : Cel w s size cs := by
  unfold Own at h
  refine ⟨h.1, ?_, fun i v hv => ?_⟩
  · rcases h.2 with ⟨h1, _⟩ | ⟨g, cap, cur, h1, _, _, h2, _⟩
    · injection h1 with _ h3 h4; omega
    · injection h1 with _ h3 h4; omega
  · rcases h.2 with ⟨h1, h2⟩ | ⟨g, cap, cur, h1, _⟩
    · have := h.1
      rw [h2] at this
      have : cs = [] := List.eq_nil_of_length_eq_zero (by simpa using this)
      subst this
      simp at hv
    · injection h1 with h3 _ _
      exact ⟨_, h3, h.cells (g := g) (by obtain ⟨a, l, c⟩ := s; simp only at h3; subst h3; rfl) i v hv⟩
theorem Own.lt (h : Own e size w s cs) : ∀ k ∈ s.blks, k < w.heap.size := by
  intro k hk
  rw [← ownBlock_eq] at hk
  have hk : s.v.ownBlock = some k := by
    cases ho : s.v.ownBlock with
    | none => rw [ho] at hk; simp at hk
    | some j => rw [ho] at hk; simp at hk; rw [hk]
  exact (World.ownsRow.lt h k hk).2
theorem Own.fr (h : Own e size w s cs) (f : Fr S w w') (hS : ∀ k ∈ s.blks, k ∉ S) : Own e size w' s cs := by
  refine ⟨h.1, ?_⟩
  rcases h.2 with h1 | ⟨g, cap, cur, h1, h2, h3, r⟩
  · exact .inl h1
  · refine .inr ⟨g, cap, cur, h1, h2, ?_, r⟩
    rw [f.block g (Array.getElem?_eq_some_iff.1 h3).1 (hS g (by injection h1 with h4; unfold Slc.blks; rw [h4]; simp))]
    exact h3
theorem Own.fr0 (h : Own e size w s cs) (f : Fr [] w w') : Own e size w' s cs := h.fr f fun _ _ => by simp
theorem Own.ne {g : Nat} {t : TypeId} {ds : Array Value} (h : Own e size w s cs) (hb : Blk w g t ds) (hne : e ≠ t) : g ∉ s.blks := by
  intro hg
  rcases h.2 with ⟨h1, _⟩ | ⟨g', cap, cur, h1, h2, h3, r⟩
  · injection h1 with h4
    unfold Slc.blks at hg; rw [h4] at hg; simp at hg
  · injection h1 with h4
    unfold Slc.blks at hg; rw [h4] at hg; simp at hg
    subst hg
    exact Blk.ne_ (t := e) h3 hb hne rfl
/-- A row that was just made whole. -/
theorem Own.made {b n : Nat} {l : List Value} (hb : Blk w b e l.toArray) (hn : n * size = l.length) (hm : n ≤ maxLen) : Own e size w ⟨some (blk b), n, n⟩ l := by
  refine ⟨hn.symm, .inr ⟨b, n, l.toArray, rfl, Nat.zero_le _, hb, Nat.le_refl _, hm, by simp [hn], ?_⟩⟩
  simp only
  rw [hn, List.take_of_length_le (by simp)]
end
/-- The facts of a slice type. -/
structure SlT (P : Program) (t e size bytes : Nat) (z : Value) : Prop where
  ut : P.underlying t = some (.slice e)
  info : (P.info? e).map (fun i => (i.zero, i.size, i.bytes)) = some (some z, size, bytes)
  zs : z.cells.size = size
  pos : 0 < size
/-- append onto a slice of one's own. -/
theorem App.own {P : Program} {t e size bytes ty : Nat} {z : Value} (T : SlT P t e size bytes z) {w : World} {s y : Slc} {xs ys : List Value} {K : Slc → World → Prop} (ho : Own e size w s xs) (hy : Cel w y size ys)
    (h1 : ∀ u ∈ ys, u.oneCell' = true) (hm : s.l + y.l ≤ maxLen) (hb : (s.l + y.l) * bytes ≤ 140737488355328)
    (k : ∀ s' w', Own e size w' s' (xs ++ ys) → s'.l = s.l + y.l → Fr s.blks w w' → (∀ x ∈ s'.blks, x ∈ s.blks ∨ x = w.heap.size) → K s' w') : App P t t ty w s.v y.v K := by
  cases hi : P.info? e with
  | none => have := T.info; rw [hi] at this; simp at this
  | some i =>
    have hinfo := T.info
    rw [hi] at hinfo
    simp only [Option.map_some, Option.some.injEq, Prod.mk.injEq] at hinfo
    obtain ⟨hz, hs, hby⟩ := hinfo
    have fin : ∀ (v' : Value) (w' : World), (Builtin.append_ #[t, t] ty #[s.v, y.v]).run P w = .ok v' w' → w'.ownsRow 0 e size v' (s.l + y.l) (xs ++ ys) → w.grownBy w' s.v.ownBlock →
        (v'.ownBlock = s.v.ownBlock ∨ v'.ownBlock = some w.heap.size) → App P t t ty w s.v y.v K := by
      intro v' w' hr h2 h3 h4
      obtain ⟨s', rfl, hl⟩ : ∃ s' : Slc, v' = s'.v ∧ s'.l = s.l + y.l := by
        rcases h2.2 with ⟨h5, h6⟩ | ⟨g, cap, cur, h5, _⟩
        · exact ⟨Slc.nil, h5, h6.symm⟩
        · exact ⟨⟨some ⟨g, 0, none⟩, s.l + y.l, cap⟩, h5, rfl⟩
      refine ⟨s', w', hr, k s' w' ?_ hl ?_ ?_⟩
      · unfold Own; rw [hl]; exact h2
      · have := Fr.grown h3
        rwa [ownBlock_eq] at this
      · intro x hx
        rw [← ownBlock_eq] at hx
        rcases h4 with h4 | h4
        · rw [h4, ownBlock_eq] at hx; exact .inl hx
        · rw [h4] at hx; simp at hx; exact .inr hx
    cases ha : y.a with
    | some ad =>
      have hc : ∀ j u, ys[j]? = some u → w.cell? (ad.add j) = some u := by
        intro j u hu
        obtain ⟨p, hp, hc⟩ := hy.at_ j u hu
        rw [ha] at hp
        injection hp with hp
        subst hp
        exact hc
      obtain ⟨v', w', hr, h2, h3, _, h4⟩ := run_append_own_at (P := P) w 0 t ty e i z size bytes T.ut hi hz hs hby T.zs T.pos s.v s.l xs ho ad y.l y.c ys hy.len hc h1 hm hb (Nat.zero_le _)
      refine fin v' w' ?_ h2 h3 h4
      rw [← hr]
      simp only [Slc.v, ha]
    | none =>
      have hys : ys = [] := by
        cases ys with
        | nil => rfl
        | cons v r =>
          obtain ⟨p, hp, _⟩ := hy.at_ 0 v rfl
          rw [ha] at hp
          cases hp
      subst hys
      have hyl : y.l = 0 := by
        have h5 : 0 = y.l * size := hy.len
        rcases Nat.mul_eq_zero.1 h5.symm with h6 | h6
        · exact h6
        · have := T.pos; omega
      refine fin s.v w ?_ ?_ (World.grownBy.refl w _) (.inl rfl)
      · rcases ho.2 with ⟨h5, h6⟩ | ⟨g, cap, cur, h5, _, _, hnc, _⟩
        · rw [h5]
          simp only [Slc.v, ha, hyl]
          simp [Builtin.append_, run_underlying T.ut, sizeOf, typeInfo, hi, Builtin.lenOf, Builtin.firstCells]
        · rw [h5]
          simp only [Slc.v, ha, hyl]
          simp [Builtin.append_, run_underlying T.ut, sizeOf, typeInfo, hi, Builtin.lenOf, Builtin.firstCells, hnc, storeCells]
      · rw [hyl, List.append_nil]; exact ho

/-! ## Bytes -/
abbrev u8v (b : UInt8) : Value := .int .u8 (b.toNat : Int)
def Byt (w : World) (s : Slc) (bs : List UInt8) : Prop := Cel w s 1 (bs.map u8v)
theorem Byt.len {w : World} {s : Slc} {bs : List UInt8} (h : Byt w s bs) : s.l = bs.length := by have := Cel.len h; simp at this; omega
theorem Byt.fr0 {w w' : World} {s : Slc} {bs : List UInt8} (h : Byt w s bs) (f : Fr [] w w') : Byt w' s bs := Cel.fr0 h f
theorem Byt.get {w : World} {s : Slc} {bs : List UInt8} (h : Byt w s bs) {i : Nat} (hi : i < bs.length) : ∃ p, s.a = some p ∧ w.cell? (p.add i) = some (u8v bs[i]) := by
  have := Cel.get h (i := i) (by simpa using hi)
  simpa using this
theorem one_u8 (bs : List UInt8) : ∀ u ∈ bs.map u8v, u.oneCell' = true := by
  intro u hu
  obtain ⟨b, _, rfl⟩ := List.mem_map.1 hu
  rfl

/-- append(nil, make(n)...). -/
theorem App.zeros {P : Program} {t ti e size bytes ty : Nat} {z : Value} (T : SlT P t e size bytes z) (hti : P.underlying ti = some (.int .i64)) {w : World} {n : Nat} {K : Slc → World → Prop} (h0 : 0 < n) (hb : n * bytes ≤ 140737488355328) (hm : n ≤ 140737488355328)
    (k : ∀ b c cur w', n ≤ c → c ≤ maxLen → cur.size = c * size → Blk w' b e cur → Fr [] w w' → b = w.heap.size → K ⟨some (blk b), n, c⟩ w') : App P t ti ty w Slc.nil.v (.int .i64 (n : Int)) K := by
  cases hi : P.info? e with
  | none => have := T.info; rw [hi] at this; simp at this
  | some i =>
    have hinfo := T.info
    rw [hi] at hinfo
    simp only [Option.map_some, Option.some.injEq, Prod.mk.injEq] at hinfo
    obtain ⟨hz, hs, hby⟩ := hinfo
    have hn : n ≠ 0 := by omega
    have h63' : ¬ (9223372036854775807 < (n : Int)) := by omega
    have h48' : ¬ (281474976710656 < Builtin.nextslicecap n 0 * i.bytes) := by rw [nextslicecap_zero h0, hby]; omega
    have hneg : ¬ ((n : Int) < 0) := by omega
    have hbig : ¬ (281474976710656 < (n : Int) * (i.bytes : Int)) := by
      have : ((n * i.bytes : Nat) : Int) ≤ 140737488355328 := by rw [hby]; omega
      rw [Int.natCast_mul] at this
      omega
    have hw : IntKind.i64.wrap (n : Int) = n := by rw [IntKind.wrap_i64]; omega
    have hpos := T.pos
    have hsz : ¬ (n * i.size = 0) := by rw [hs]; intro h; rcases Nat.mul_eq_zero.1 h with h | h <;> omega
    have hr : (Builtin.append_ #[t, ti] ty #[Slc.nil.v, .int .i64 (n : Int)]).run P w = .ok (.slice (some ⟨w.heap.size, 0, none⟩) n (grownCap w n 0 e))
        (w.drew.alloc (.cells (Builtin.zeroCells z.cells n ++ Builtin.zeroCells z.cells (grownCap w n 0 e - n)) e)) := by
      simp [Builtin.append_, run_underlying T.ut, run_underlying hti, sizeOf, typeInfo, zeroValue, hi, hz, asInt, asIntOf, hw, hneg, hbig, Question.forced, h48', hn, hsz, h63', Builtin.firstCells, newRow, grownCap]
    refine ⟨⟨some (blk w.heap.size), n, grownCap w n 0 e⟩, _, hr, k _ _ _ _ (grownCap_ge w n 0 e) (grownCap_le_maxLen w n 0 e (by unfold maxLen; omega)) ?_ (heap_alloc_new w.drew _) ?_ rfl⟩
    · simp only [Array.size_append, size_zeroCells, T.zs]
      rw [← Nat.add_mul]
      congr 1
      have := grownCap_ge w n 0 e
      omega
    · exact ⟨rfl, rfl, rfl, by simp, fun k hk _ => RowKit.Below.heap_alloc w.drew _ k hk⟩
/-- An owned row cut to nothing. -/
theorem Own.cut0 {e size : Nat} {w : World} {b n c : Nat} {cur : Array Value} (hB : Blk w b e cur) (hm : c ≤ maxLen) (hs : cur.size = c * size) : Own e size w ((⟨some (blk b), n, c⟩ : Slc).cut size 0 0) [] := by
  have e1 : ((⟨some (blk b), n, c⟩ : Slc).cut size 0 0) = ⟨some (blk b), 0, c⟩ := by
    simp [Slc.cut, Addr.add]
  rw [e1]
  exact ⟨by simp, .inr ⟨b, c, cur, rfl, Nat.zero_le _, hB, Nat.zero_le _, hm, hs, by simp⟩⟩
/-- []byte(s). -/
theorem ToBytes.rule {P : Program} {t1 t2 e : Nat} {w : World} {s : ByteArray} {K : Slc → World → Prop} (h1 : P.underlying t1 = some .string) (h2 : P.underlying t2 = some (.slice e)) (h3 : P.underlying e = some (.int .u8))
    (k : ∀ z w', Byt w' z s.data.toList → Fr [] w w' → (∀ x ∈ z.blks, x = w.heap.size) → K z w') : ToBytes P t1 t2 w (.string s) K := by
  refine ⟨⟨some (blk w.heap.size), s.size, grownCap w s.size 0 e⟩, _, Lib.run_convert_string_bytes (P := P) w t1 t2 e s h1 h2 h3, k _ _ ⟨?_, ?_, ?_⟩ ?_ ?_⟩
  · simp
  · exact grownCap_ge w s.size 0 e
  · intro i v hv
    refine ⟨_, rfl, ?_⟩
    rw [blk_add]
    simp only [List.getElem?_map, Option.map_eq_some_iff] at hv
    obtain ⟨b, hb, rfl⟩ := hv
    have hi : i < s.size := (List.getElem?_eq_some_iff.1 hb).1
    rw [Lib.bytesWorld_cell w e s i hi]
    simp [List.getD, hb]
  · refine ⟨by simp [Lib.bytesWorld, World.freeze]; rfl, by simp [Lib.bytesWorld, World.freeze], by simp [Lib.bytesWorld, World.freeze]; rfl, by rw [Lib.bytesWorld_size]; omega, fun k hk _ => Lib.bytesWorld_at_old w e s k hk⟩
  · intro x hx; simp [Slc.blks] at hx; exact hx
/-- string(b). -/
theorem ToStr.rule {P : Program} {t1 t2 e : Nat} {w : World} {s : Slc} {bs : List UInt8} {K : ByteArray → Prop} (h1 : P.underlying t1 = some (.slice e)) (h2 : P.underlying t2 = some .string) (h3 : P.underlying e = some (.int .u8)) (hb : Byt w s bs) (k : K ⟨bs.toArray⟩) : ToStr P t1 t2 w s.v K := by
  obtain ⟨a, l, c⟩ := s
  have hlen := hb.len
  simp only at hlen
  cases a with
  | none =>
    have : bs = [] := by
      cases bs with
      | nil => rfl
      | cons b r => obtain ⟨p, hp, _⟩ := hb.get (i := 0) (by simp); cases hp
    subst this
    exact ⟨_, run_convert_bytes_nil (P := P) w t1 e h1 h3 l c t2 h2, k⟩
  | some p =>
    have hc : ∀ j v, (bs.map u8v)[j]? = some v → w.cell? (p.add j) = some v := by
      intro j v hv
      obtain ⟨q, hq, hcell⟩ := hb.at_ j v hv
      injection hq with hq
      subst hq
      exact hcell
    refine ⟨⟨bs.toArray⟩, ?_, k⟩
    have hl := run_loadCells_list (P := P) w p (bs.map u8v) hc
    have hx : bs.map u8v = (bs.map fun b => (b.toNat : Int)).map (Value.int .u8) := by simp
    rw [hx] at hl
    simp only [List.length_map] at hl
    rw [run_convert_bytes_string (P := P) w t1 t2 e _ l c h1 h3 h2, run_bytesToString w p l c (bs.map fun b => (b.toNat : Int)) (by simpa [hlen] using hl), foldl_push_bytes]
    simp [ByteArray.empty, ByteArray.emptyWithCapacity, Function.comp_def]
    rfl

/-! ## Numbers -/
theorem wr64 {n : Int} (h0 : -9223372036854775808 ≤ n) (h1 : n ≤ 9223372036854775807) : wr .i64 n = n := by unfold wr; rw [IntKind.wrap_i64]; omega
theorem wr32u {n : Int} (h0 : 0 ≤ n) (h1 : n ≤ 4294967295) : wr .u32 n = n := by unfold wr; rw [IntKind.wrap_u32]; omega
theorem wr64u {n : Int} (h0 : 0 ≤ n) (h1 : n ≤ 18446744073709551615) : wr .u64 n = n := by unfold wr; rw [IntKind.wrap_u64]; omega
theorem wr8u {n : Int} (h0 : 0 ≤ n) (h1 : n ≤ 255) : wr .u8 n = n := by unfold wr; rw [IntKind.wrap_u8]; omega
theorem wr8_mod (n : Int) : wr .u8 n = n % 256 := by unfold wr; rw [IntKind.wrap_u8]
end Go.Vc
