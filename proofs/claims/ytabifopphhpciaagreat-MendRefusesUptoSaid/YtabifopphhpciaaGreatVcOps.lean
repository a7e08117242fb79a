/-
  One law for each kind of operation, over an environment of known slots. Nothing of any program stands here.
-/
import Derived.Test.YtabifopphhpciaaGreatVc
import Derived.Deep.Quiet
namespace Go.Vc
open Go

section
variable {P : Program} {ops : Array Oper} {Q : Exit → Act → World → Prop} {rest : List Oper} {a : Act} {w w' : World} {n : Nat} {ds : List Deferred} {L : List (Nat × Value)}
  {d : Nat} {ty : TypeId} {pos : String} {af : Array Edge} {g : Option (Nat × Bool)}

theorem s_run {o : Oper} {v : Value} (H : Has n ds a L) (hw : Region.wanted o (yielded ops a.tmps) = true) (hdst : o.dst = some d) (hd : d < n)
    (hr : (execOp a.eval o).run P w = .ok (.value v) w') (k : ∀ a, Has n ds a ((d, v) :: L) → wpList P ops Q rest a w') : wpList P ops Q (o :: rest) a w := by
  unfold wpList
  rw [if_pos hw]
  refine .inl ?_
  unfold Oper.wp
  rw [hr, Oper.upon_value, hdst]
  exact k _ (H.put hd v)
theorem s_run0 {o : Oper} (H : Has n ds a L) (hw : Region.wanted o (yielded ops a.tmps) = true) (hdst : o.dst = none)
    (hr : (execOp a.eval o).run P w = .ok .skip w') (k : Has n ds a L → wpList P ops Q rest a w') : wpList P ops Q (o :: rest) a w := by
  unfold wpList
  rw [if_pos hw]
  refine .inl ?_
  unfold Oper.wp
  rw [hr, Oper.upon_skip, hdst]
  exact k H
/-- An operation whose guard says no. -/
theorem s_skip {o : Oper} (H : Has n ds a L) (hw : Region.wanted o (yielded ops a.tmps) = false) (hdst : o.dst = some d) (hd : d < n)
    (k : ∀ a, Has n ds a ((d, undef) :: L) → wpList P ops Q rest a w) : wpList P ops Q (o :: rest) a w := by
  unfold wpList
  rw [if_neg (by rw [hw]; simp), hdst]
  exact k _ (H.put hd _)
theorem s_skip0 {o : Oper} (H : Has n ds a L) (hw : Region.wanted o (yielded ops a.tmps) = false) (hdst : o.dst = none)
    (k : Has n ds a L → wpList P ops Q rest a w) : wpList P ops Q (o :: rest) a w := by
  unfold wpList
  rw [if_neg (by rw [hw]; simp), hdst]
  exact k H
theorem wantG {j t : Nat} {b : Bool} {dst : Option Tmp} {op : Op} (H : Has n ds a L) (ht : (ops[j]?).bind (·.dst) = some t) (hb : Env.get L t = some (.bool b)) :
    Region.wanted ⟨dst, op, ty, pos, af, some (j, b)⟩ (yielded ops a.tmps) = true := by
  have h := H.get t _ hb
  have e : yielded ops a.tmps j = some b := by
    unfold yielded
    rw [ht]
    simp only [Option.bind_some, h]
  simp [Region.wanted, e]
theorem wantN {j t : Nat} {b c : Bool} {dst : Option Tmp} {op : Op} (H : Has n ds a L) (ht : (ops[j]?).bind (·.dst) = some t) (hb : Env.get L t = some (.bool b)) (hc : b = !c) :
    Region.wanted ⟨dst, op, ty, pos, af, some (j, c)⟩ (yielded ops a.tmps) = false := by
  have h := H.get t _ hb
  have e : yielded ops a.tmps j = some b := by
    unfold yielded
    rw [ht]
    simp only [Option.bind_some, h]
  subst hc
  cases c <;> simp [Region.wanted, e]


section laws
variable {x y z : Operand} {v vx vy : Value} {t : TypeId} {p : Addr} {w1 : World}
theorem s_move (H : Has n ds a L) (hw : Region.wanted ⟨some d, .move x, ty, pos, af, g⟩ (yielded ops a.tmps) = true) (hx : ev L x = some v) (hd : d < n)
    (k : ∀ a, Has n ds a ((d, v) :: L) → wpList P ops Q rest a w) : wpList P ops Q (⟨some d, .move x, ty, pos, af, g⟩ :: rest) a w :=
  s_run H hw rfl hd (by rw [← H.eval hx]; rfl) k

theorem s_assign (H : Has n ds a L) (hw : Region.wanted ⟨some d, .assign x, ty, pos, af, g⟩ (yielded ops a.tmps) = true) (hx : ev L x = some v) (hd : d < n)
    (k : ∀ a, Has n ds a ((d, v) :: L) → wpList P ops Q rest a w) : wpList P ops Q (⟨some d, .assign x, ty, pos, af, g⟩ :: rest) a w :=
  s_run H hw rfl hd (by rw [← H.eval hx]; rfl) k

theorem s_pickT (H : Has n ds a L) (hw : Region.wanted ⟨some d, .pick z x y, ty, pos, af, g⟩ (yielded ops a.tmps) = true) (hz : ev L z = some (.bool true)) (hx : ev L x = some v) (hd : d < n)
    (k : ∀ a, Has n ds a ((d, v) :: L) → wpList P ops Q rest a w) : wpList P ops Q (⟨some d, .pick z x y, ty, pos, af, g⟩ :: rest) a w :=
  s_run H hw rfl hd (by simp [execOp, H.eval hz, H.eval hx, asBool]) k

theorem s_pickF (H : Has n ds a L) (hw : Region.wanted ⟨some d, .pick z x y, ty, pos, af, g⟩ (yielded ops a.tmps) = true) (hz : ev L z = some (.bool false)) (hy : ev L y = some v) (hd : d < n)
    (k : ∀ a, Has n ds a ((d, v) :: L) → wpList P ops Q rest a w) : wpList P ops Q (⟨some d, .pick z x y, ty, pos, af, g⟩ :: rest) a w :=
  s_run H hw rfl hd (by simp [execOp, H.eval hz, H.eval hy, asBool]) k

/-- What a binary operation comes to, whatever the world. -/
def RB (P : Program) (bo : BinOp) (t : TypeId) (x y : Operand) (vx vy v : Value) : Prop := ∀ w, (do eqGuard bo t x y vx vy; binOp bo t vx vy : Sem Value).run P w = .ok v w

theorem s_bin {bo : BinOp} {u : TypeId} (H : Has n ds a L) (hw : Region.wanted ⟨some d, .binOp bo t x y u, ty, pos, af, g⟩ (yielded ops a.tmps) = true) (hx : ev L x = some vx) (hy : ev L y = some vy) (hr : RB P bo t x y vx vy v) (hd : d < n)
    (k : ∀ a, Has n ds a ((d, v) :: L) → wpList P ops Q rest a w) : wpList P ops Q (⟨some d, .binOp bo t x y u, ty, pos, af, g⟩ :: rest) a w :=
  s_run H hw rfl hd (by have e := hr w; simp only [execOp, H.eval hx, H.eval hy]; rw [Sem.run_bind, e]; rfl) k

theorem s_un {uo : UnOp} (H : Has n ds a L) (hw : Region.wanted ⟨some d, .unOp uo t x, ty, pos, af, g⟩ (yielded ops a.tmps) = true) (hx : ev L x = some vx) (hr : ∀ w, (Op.unary uo vx).run P w = .ok v w) (hd : d < n)
    (k : ∀ a, Has n ds a ((d, v) :: L) → wpList P ops Q rest a w) : wpList P ops Q (⟨some d, .unOp uo t x, ty, pos, af, g⟩ :: rest) a w :=
  s_run H hw rfl hd (by have e := hr w; simp [execOp, H.eval hx, e]) k

theorem s_cv {u : TypeId} (H : Has n ds a L) (hw : Region.wanted ⟨some d, .convert t u x, ty, pos, af, g⟩ (yielded ops a.tmps) = true) (hx : ev L x = some vx) (hr : (convert t u vx).run P w = .ok v w1) (hd : d < n)
    (k : ∀ a, Has n ds a ((d, v) :: L) → wpList P ops Q rest a w1) : wpList P ops Q (⟨some d, .convert t u x, ty, pos, af, g⟩ :: rest) a w :=
  s_run H hw rfl hd (by simp [execOp, H.eval hx, hr]) k

theorem s_lkp {c : Bool} (H : Has n ds a L) (hw : Region.wanted ⟨some d, .lookup t x y c, ty, pos, af, g⟩ (yielded ops a.tmps) = true) (hx : ev L x = some vx) (hy : ev L y = some vy) (hr : (Instr.lookup t vx vy c).run P w = .ok v w) (hd : d < n)
    (k : ∀ a, Has n ds a ((d, v) :: L) → wpList P ops Q rest a w) : wpList P ops Q (⟨some d, .lookup t x y c, ty, pos, af, g⟩ :: rest) a w :=
  s_run H hw rfl hd (by simp [execOp, H.eval hx, H.eval hy, hr]) k
/-- What an interface holds, where it is of this type. -/
def Tas (P : Program) (t u : TypeId) (c : Bool) (x : Value) (K : Value → Prop) : Prop := ∃ v, (∀ w, (Instr.typeAssert x t u c).run P w = .ok v w) ∧ K v
theorem s_tas {c : Bool} {u : TypeId} (H : Has n ds a L) (hw : Region.wanted ⟨some d, .typeAssert x t u c, ty, pos, af, g⟩ (yielded ops a.tmps) = true) (hx : ev L x = some vx) (hr : (Instr.typeAssert vx t u c).run P w = .ok v w) (hd : d < n)
    (k : ∀ a, Has n ds a ((d, v) :: L) → wpList P ops Q rest a w) : wpList P ops Q (⟨some d, .typeAssert x t u c, ty, pos, af, g⟩ :: rest) a w :=
  s_run H hw rfl hd (by simp [execOp, H.eval hx, hr]) k
theorem s_mup {z : Operand} {vz : Value} (H : Has n ds a L) (hw : Region.wanted ⟨none, .mapUpdate t x y z, ty, pos, af, g⟩ (yielded ops a.tmps) = true) (hx : ev L x = some vx) (hy : ev L y = some vy) (hz : ev L z = some vz) (hr : (Instr.mapUpdate t vx vy vz).run P w = .ok () w1)
    (k : Has n ds a L → wpList P ops Q rest a w1) : wpList P ops Q (⟨none, .mapUpdate t x y z, ty, pos, af, g⟩ :: rest) a w :=
  s_run0 H hw rfl (by simp [execOp, H.eval hx, H.eval hy, H.eval hz, hr]) k
theorem s_ins {z : Operand} {vz : Value} (H : Has n ds a L) (hw : Region.wanted ⟨none, .insert t x y z, ty, pos, af, g⟩ (yielded ops a.tmps) = true) (hx : ev L x = some vx) (hy : ev L y = some vy) (hz : ev L z = some vz) (hr : (Instr.mapUpdate t vx vy vz).run P w = .ok () w1)
    (k : Has n ds a L → wpList P ops Q rest a w1) : wpList P ops Q (⟨none, .insert t x y z, ty, pos, af, g⟩ :: rest) a w :=
  s_run0 H hw rfl (by simp [execOp, H.eval hx, H.eval hy, H.eval hz, hr]) k
theorem s_mkm (H : Has n ds a L) (hw : Region.wanted ⟨some d, .makeMap t none, ty, pos, af, g⟩ (yielded ops a.tmps) = true) (hr : (Instr.makeMap t none).run P w = .ok v w1) (hd : d < n)
    (k : ∀ a, Has n ds a ((d, v) :: L) → wpList P ops Q rest a w1) : wpList P ops Q (⟨some d, .makeMap t none, ty, pos, af, g⟩ :: rest) a w :=
  s_run H hw rfl hd (by simp [execOp, hr]) k
theorem s_rng (H : Has n ds a L) (hw : Region.wanted ⟨some d, .range t x, ty, pos, af, g⟩ (yielded ops a.tmps) = true) (hx : ev L x = some vx) (hr : (Instr.range t vx).run P w = .ok v w1) (hd : d < n)
    (k : ∀ a, Has n ds a ((d, v) :: L) → wpList P ops Q rest a w1) : wpList P ops Q (⟨some d, .range t x, ty, pos, af, g⟩ :: rest) a w :=
  s_run H hw rfl hd (by simp [execOp, H.eval hx, hr]) k
theorem s_nxt {c : Bool} (H : Has n ds a L) (hw : Region.wanted ⟨some d, .next x c, ty, pos, af, g⟩ (yielded ops a.tmps) = true) (hx : ev L x = some vx) (hr : (Instr.next vx c ty).run P w = .ok v w1) (hd : d < n)
    (k : ∀ a, Has n ds a ((d, v) :: L) → wpList P ops Q rest a w1) : wpList P ops Q (⟨some d, .next x c, ty, pos, af, g⟩ :: rest) a w :=
  s_run H hw rfl hd (by simp [execOp, H.eval hx, hr]) k
theorem s_etr (H : Has n ds a L) (hw : Region.wanted ⟨some d, .entry x, ty, pos, af, g⟩ (yielded ops a.tmps) = true) (hx : ev L x = some vx) (hr : (Instr.entry vx).run P w = .ok v w) (hd : d < n)
    (k : ∀ a, Has n ds a ((d, v) :: L) → wpList P ops Q rest a w) : wpList P ops Q (⟨some d, .entry x, ty, pos, af, g⟩ :: rest) a w :=
  s_run H hw rfl hd (by simp [execOp, H.eval hx, hr]) k
theorem s_nil (H : Has n ds a L) (hw : Region.wanted ⟨some d, .nilCheck x, ty, pos, af, g⟩ (yielded ops a.tmps) = true) (hx : ev L x = some (.pointer (some p))) (hd : d < n)
    (k : ∀ a, Has n ds a ((d, (.pointer (some p))) :: L) → wpList P ops Q rest a w) : wpList P ops Q (⟨some d, .nilCheck x, ty, pos, af, g⟩ :: rest) a w :=
  s_run H hw rfl hd (by simp [execOp, H.eval hx]) k

theorem run_load1 (h1 : oneB P t = true) (hc : w.cell? p = some v) : (loadVar t p).run P w = .ok v w := by
  unfold oneB at h1
  cases hu : P.underlying t with
  | none => simp [hu] at h1
  | some u =>
    have hagg : (isAgg t).run P w = .ok false w := by
      unfold isAgg
      rw [Sem.run_bind, run_underlying hu w]
      cases u <;> simp_all
    simp [loadVar, Sem.run_bind, hagg, load, Sem.run, hc]

theorem s_load (H : Has n ds a L) (hw : Region.wanted ⟨some d, .load t x, ty, pos, af, g⟩ (yielded ops a.tmps) = true) (hx : ev L x = some (.pointer (some p))) (h1 : oneB P t = true) (hc : w.cell? p = some v) (hd : d < n)
    (k : ∀ a, Has n ds a ((d, v) :: L) → wpList P ops Q rest a w) : wpList P ops Q (⟨some d, .load t x, ty, pos, af, g⟩ :: rest) a w :=
  s_run H hw rfl hd (by simp [execOp, H.eval hx, Instr.loadAt, Instr.sureAddr, run_load1 h1 hc]) k

/-- The cells of a whole variable. -/
def Cells (w : World) (p : Addr) : Nat → List Value → Prop
  | _, [] => True
  | i, v :: r => w.cell? (p.add i) = some v ∧ Cells w p (i + 1) r
theorem run_loadFrom (l : List Value) : ∀ (i : Nat) (acc : Array Value), Cells w p i l → (loadCellsFrom p i l.length acc).run P w = .ok (acc ++ l.toArray) w := by
  induction l with
  | nil => intro i acc _; simp [loadCellsFrom]
  | cons v r ih =>
    intro i acc h
    obtain ⟨h1, h2⟩ := h
    simp only [List.length_cons, loadCellsFrom, Sem.run_bind, load, Sem.run, h1, Result.andThen_ok]
    rw [ih (i + 1) _ h2]
    simp
theorem run_loadN {l : List Value} {m : Nat} (h1 : aggB P t m = true) (hm : l.length = m) (hc : Cells w p 0 l) : (loadVar t p).run P w = .ok (.agg l.toArray) w := by
  unfold aggB at h1
  simp only [Bool.and_eq_true] at h1
  obtain ⟨h1, h2⟩ := h1
  cases hu : P.underlying t with
  | none => simp [hu] at h1
  | some u =>
    have hagg : (isAgg t).run P w = .ok true w := by
      unfold isAgg
      rw [Sem.run_bind, run_underlying hu w]
      cases u <;> simp_all
    cases hi : P.info? t with
    | none => simp [hi] at h2
    | some i =>
      have hs : i.size = l.length := by rw [hm]; simpa [hi] using Nat.eq_of_beq_eq_true (by simpa [hi] using h2)
      have hl := run_loadFrom (P := P) l 0 #[] hc
      simp only [loadVar, Sem.run_bind, hagg, Result.andThen_ok, if_true, sizeOf, typeInfo, program, Sem.run, hi, Sem.run_pure, hs, loadCells, hl]
      simp

theorem s_loadN {l : List Value} {m : Nat} (H : Has n ds a L) (hw : Region.wanted ⟨some d, .load t x, ty, pos, af, g⟩ (yielded ops a.tmps) = true) (hx : ev L x = some (.pointer (some p))) (h1 : aggB P t m = true) (hm : l.length = m) (hc : Cells w p 0 l) (hd : d < n)
    (k : ∀ a, Has n ds a ((d, (.agg l.toArray)) :: L) → wpList P ops Q rest a w) : wpList P ops Q (⟨some d, .load t x, ty, pos, af, g⟩ :: rest) a w :=
  s_run H hw rfl hd (by simp [execOp, H.eval hx, Instr.loadAt, Instr.sureAddr, run_loadN h1 hm hc]) k

theorem run_field {i off : Nat} (h : fldB P t i off = true) : (Instr.fieldAt t (.pointer (some p)) i).run P w = .ok (.pointer (some (p.add off))) w := by
  unfold fldB at h
  cases hu : P.underlying t with
  | none => simp [hu] at h
  | some u =>
    cases u <;> simp only [hu] at h <;> first | (exact absurd h Bool.false_ne_true) | skip
    rename_i fs
    cases hf : fs[i]? with
    | none => simp [hf] at h
    | some f =>
      simp only [hf] at h
      cases hi : P.info? f.type with
      | none => simp [hi] at h
      | some j =>
        simp only [hi, Bool.and_eq_true, Bool.not_eq_true'] at h
        have e1 := Nat.eq_of_beq_eq_true h.1
        have e2 : j.size ≠ 0 := fun e => by rw [e] at h; exact absurd h.2 (by decide)
        simp [Instr.fieldAt, run_underlying hu, hf, Instr.sureAddr, fieldPlace, sizeOf, typeInfo, program, Sem.run, hi, e1, e2]

theorem s_fld {i off : Nat} (H : Has n ds a L) (hw : Region.wanted ⟨some d, .fieldAddr t x i, ty, pos, af, g⟩ (yielded ops a.tmps) = true) (hx : ev L x = some (.pointer (some p))) (h1 : fldB P t i off = true) (hd : d < n)
    (k : ∀ a, Has n ds a ((d, (.pointer (some (p.add off)))) :: L) → wpList P ops Q rest a w) : wpList P ops Q (⟨some d, .fieldAddr t x i, ty, pos, af, g⟩ :: rest) a w :=
  s_run H hw rfl hd (by simp [execOp, H.eval hx, run_field h1]) k

theorem run_idxS {s : Slc} {i : Int} {k : IntKind} {size : Nat} (h : slcB P t size = true) (ha : s.a = some p) (h0 : 0 ≤ i) (h1 : i < s.l) :
    (Instr.indexAt t s.v (.int k i)).run P w = .ok (.pointer (some (p.add (i.toNat * size)))) w := by
  unfold slcB at h
  cases hu : P.underlying t with
  | none => simp [hu] at h
  | some u =>
    cases u <;> simp only [hu] at h <;> first | (exact absurd h Bool.false_ne_true) | skip
    rename_i e
    cases hi : P.info? e with
    | none => simp [hi] at h
    | some j =>
      simp only [hi] at h
      have e1 := Nat.eq_of_beq_eq_true h
      simp [Instr.indexAt, asIntOf, run_underlying hu, ha, h0, h1, sizeOf, typeInfo, program, Sem.run, hi, e1]
theorem run_idxA {i : Int} {k : IntKind} {len size : Nat} (h : arrB P t len size = true) (h0 : 0 ≤ i) (h1 : i < len) :
    (Instr.indexAt t (.pointer (some p)) (.int k i)).run P w = .ok (.pointer (some (p.add (i.toNat * size)))) w := by
  unfold arrB at h
  cases hu : P.underlying t with
  | none => simp [hu] at h
  | some u =>
    cases u <;> simp only [hu] at h <;> first | (exact absurd h Bool.false_ne_true) | skip
    rename_i n e
    simp only [Bool.and_eq_true] at h
    obtain ⟨h2, h⟩ := h
    have e0 := Nat.eq_of_beq_eq_true h2
    subst e0
    cases hi : P.info? e with
    | none => simp [hi] at h
    | some j =>
      simp only [hi] at h
      have e1 := Nat.eq_of_beq_eq_true h
      simp [Instr.indexAt, asIntOf, run_underlying hu, Instr.sureAddr, h0, h1, sizeOf, typeInfo, program, Sem.run, hi, e1]

theorem s_idxS {s : Slc} {i : Int} {k : IntKind} {size : Nat} (H : Has n ds a L) (hw : Region.wanted ⟨some d, .indexAddr t x y, ty, pos, af, g⟩ (yielded ops a.tmps) = true) (hx : ev L x = some s.v) (hy : ev L y = some (.int k i)) (h : slcB P t size = true) (ha : s.a = some p) (h0 : 0 ≤ i) (h1 : i < s.l) (hd : d < n)
    (kk : ∀ a, Has n ds a ((d, (.pointer (some (p.add (i.toNat * size))))) :: L) → wpList P ops Q rest a w) : wpList P ops Q (⟨some d, .indexAddr t x y, ty, pos, af, g⟩ :: rest) a w :=
  s_run H hw rfl hd (by have e := run_idxS (P := P) (w := w) (k := k) h ha h0 h1; simp only [execOp, H.eval hx, H.eval hy, Sem.run_bind, e, Result.andThen_ok, Sem.run_pure]) kk

theorem s_idxA {i : Int} {k : IntKind} {len size : Nat} (H : Has n ds a L) (hw : Region.wanted ⟨some d, .indexAddr t x y, ty, pos, af, g⟩ (yielded ops a.tmps) = true) (hx : ev L x = some (.pointer (some p))) (hy : ev L y = some (.int k i)) (h : arrB P t len size = true) (h0 : 0 ≤ i) (h1 : i < len) (hd : d < n)
    (kk : ∀ a, Has n ds a ((d, (.pointer (some (p.add (i.toNat * size))))) :: L) → wpList P ops Q rest a w) : wpList P ops Q (⟨some d, .indexAddr t x y, ty, pos, af, g⟩ :: rest) a w :=
  s_run H hw rfl hd (by have e := run_idxA (P := P) (w := w) (p := p) (k := k) h h0 h1; simp only [execOp, H.eval hx, H.eval hy, Sem.run_bind, e, Result.andThen_ok, Sem.run_pure]) kk

theorem run_idxStr {s : ByteArray} {i : Int} {k : IntKind} (h : strB P t = true) (h0 : 0 ≤ i) (h1 : i < s.size) :
    (Instr.index t (.string s) (.int k i)).run P w = .ok (.int .u8 (byteAt s i)) w := by
  unfold strB at h
  cases hu : P.underlying t with
  | none => simp [hu] at h
  | some u =>
    cases u <;> simp only [hu] at h <;> first | (exact absurd h Bool.false_ne_true) | skip
    have hlt : i.toNat < s.data.size := by have : s.data.size = s.size := rfl; omega
    have e : s[i.toNat]? = some s.data[i.toNat] := by
      show (if h : i.toNat < s.size then some _ else none) = _
      rw [dif_pos (by have : s.data.size = s.size := rfl; omega)]; rfl
    simp [Instr.index, asIntOf, run_underlying hu, h0, e, byteAt, Array.getElem?_eq_getElem hlt]

theorem s_idxStr {s : ByteArray} {i : Int} {k : IntKind} (H : Has n ds a L) (hw : Region.wanted ⟨some d, .index t x y, ty, pos, af, g⟩ (yielded ops a.tmps) = true) (hx : ev L x = some (.string s)) (hy : ev L y = some (.int k i)) (h : strB P t = true) (h0 : 0 ≤ i) (h1 : i < s.size) (hd : d < n)
    (kk : ∀ a, Has n ds a ((d, (.int .u8 (byteAt s i))) :: L) → wpList P ops Q rest a w) : wpList P ops Q (⟨some d, .index t x y, ty, pos, af, g⟩ :: rest) a w :=
  s_run H hw rfl hd (by have e := run_idxStr (P := P) (w := w) (k := k) h h0 h1; simp only [execOp, H.eval hx, H.eval hy, Sem.run_bind, e, Result.andThen_ok, Sem.run_pure]) kk

theorem s_box (H : Has n ds a L) (hw : Region.wanted ⟨some d, .box t x, ty, pos, af, g⟩ (yielded ops a.tmps) = true) (hx : ev L x = some v) (hd : d < n)
    (k : ∀ a, Has n ds a ((d, (.pointer (some ⟨w.heap.size, 0, none⟩))) :: L) → wpList P ops Q rest a (w.alloc (.cells v.cells t))) : wpList P ops Q (⟨some d, .box t x, ty, pos, af, g⟩ :: rest) a w :=
  s_run H hw rfl hd (by simp [execOp, H.eval hx, Instr.box, newVar, newRow, newObj, Sem.run]) k

def zeroB (P : Program) (t : TypeId) (v : Value) : Prop := (P.info? t).bind (·.zero) = some v
theorem run_zero (h : zeroB P t v) : (zeroValue t).run P w = .ok v w := by
  unfold zeroB at h
  cases hi : P.info? t with
  | none => simp [hi] at h
  | some i =>
    simp only [hi, Option.bind_some] at h
    simp [zeroValue, typeInfo, program, Sem.run, hi, h]

theorem s_alloc (H : Has n ds a L) (hw : Region.wanted ⟨some d, .alloc t, ty, pos, af, g⟩ (yielded ops a.tmps) = true) (hz : zeroB P t v) (hd : d < n)
    (k : ∀ a, Has n ds a ((d, (.pointer (some ⟨w.heap.size, 0, none⟩))) :: L) → wpList P ops Q rest a (w.alloc (.cells v.cells t))) : wpList P ops Q (⟨some d, .alloc t, ty, pos, af, g⟩ :: rest) a w :=
  s_run H hw rfl hd (by simp [execOp, Instr.alloc, run_zero hz, newVar, newRow, newObj, Sem.run]) k

theorem s_ext {vs : Array Value} {i : Nat} (H : Has n ds a L) (hw : Region.wanted ⟨some d, .extract x i, ty, pos, af, g⟩ (yielded ops a.tmps) = true) (hx : ev L x = some (.tuple vs)) (hv : vs[i]? = some v) (hd : d < n)
    (k : ∀ a, Has n ds a ((d, v) :: L) → wpList P ops Q rest a w) : wpList P ops Q (⟨some d, .extract x i, ty, pos, af, g⟩ :: rest) a w :=
  s_run H hw rfl hd (by simp [execOp, H.eval hx, Instr.extract, hv]) k

def partB (P : Program) (t i off m : Nat) : Bool :=
  match P.underlying t with
  | some (.struct fs) => (match fs[i]? with
    | some f => Nat.beq f.offset off && (bif Nat.beq m 0 then oneB P f.type else aggB P f.type m)
    | none => false)
  | _ => false
theorem isAgg_one (h : oneB P t = true) : (isAgg t).run P w = .ok false w := by
  unfold oneB at h
  cases hu : P.underlying t with
  | none => simp [hu] at h
  | some u =>
    unfold isAgg
    rw [Sem.run_bind, run_underlying hu w]
    cases u <;> simp_all
theorem isAgg_agg {m : Nat} (h : aggB P t m = true) : (isAgg t).run P w = .ok true w ∧ (sizeOf t).run P w = .ok m w := by
  unfold aggB at h
  simp only [Bool.and_eq_true] at h
  obtain ⟨h1, h2⟩ := h
  cases hu : P.underlying t with
  | none => simp [hu] at h1
  | some u =>
    cases hi : P.info? t with
    | none => simp [hi] at h2
    | some i =>
      have hs : i.size = m := Nat.eq_of_beq_eq_true (by simpa [hi] using h2)
      refine ⟨?_, by simp [sizeOf, typeInfo, program, Sem.run, hi, hs]⟩
      unfold isAgg
      rw [Sem.run_bind, run_underlying hu w]
      cases u <;> simp_all
theorem run_part1 {cs : Array Value} {i off : Nat} (h : partB P t i off 0 = true) (hv : cs[off]? = some v) : (Instr.field t (.agg cs) i).run P w = .ok v w := by
  unfold partB at h
  cases hu : P.underlying t with
  | none => simp [hu] at h
  | some u =>
    cases u <;> simp only [hu] at h <;> first | (exact absurd h Bool.false_ne_true) | skip
    rename_i fs
    cases hf : fs[i]? with
    | none => simp [hf] at h
    | some f =>
      simp only [hf, Bool.and_eq_true] at h
      have e1 := Nat.eq_of_beq_eq_true h.1
      have e2 : oneB P f.type = true := h.2
      simp [Instr.field, run_underlying hu, hf, asAgg, part, isAgg_one e2, e1, hv]
theorem run_partN {cs : Array Value} {i off m : Nat} (h : partB P t i off (m + 1) = true) : (Instr.field t (.agg cs) i).run P w = .ok (.agg (cs.extract off (off + (m + 1)))) w := by
  unfold partB at h
  cases hu : P.underlying t with
  | none => simp [hu] at h
  | some u =>
    cases u <;> simp only [hu] at h <;> first | (exact absurd h Bool.false_ne_true) | skip
    rename_i fs
    cases hf : fs[i]? with
    | none => simp [hf] at h
    | some f =>
      simp only [hf, Bool.and_eq_true] at h
      have e1 := Nat.eq_of_beq_eq_true h.1
      have e2 : aggB P f.type (m + 1) = true := h.2
      obtain ⟨e3, e4⟩ := isAgg_agg (w := w) e2
      simp [Instr.field, run_underlying hu, hf, asAgg, part, e3, e4, e1]

theorem s_fv1 {cs : Array Value} {i off : Nat} (H : Has n ds a L) (hw : Region.wanted ⟨some d, .field t x i, ty, pos, af, g⟩ (yielded ops a.tmps) = true) (hx : ev L x = some (.agg cs)) (h : partB P t i off 0 = true) (hv : cs[off]? = some v) (hd : d < n)
    (k : ∀ a, Has n ds a ((d, v) :: L) → wpList P ops Q rest a w) : wpList P ops Q (⟨some d, .field t x i, ty, pos, af, g⟩ :: rest) a w :=
  s_run H hw rfl hd (by simp [execOp, H.eval hx, run_part1 h hv]) k

theorem s_fvN {cs l : Array Value} {i off m : Nat} (H : Has n ds a L) (hw : Region.wanted ⟨some d, .field t x i, ty, pos, af, g⟩ (yielded ops a.tmps) = true) (hx : ev L x = some (.agg cs)) (h : partB P t i off (m + 1) = true) (hv : cs.extract off (off + (m + 1)) = l) (hd : d < n)
    (k : ∀ a, Has n ds a ((d, (.agg l)) :: L) → wpList P ops Q rest a w) : wpList P ops Q (⟨some d, .field t x i, ty, pos, af, g⟩ :: rest) a w :=
  s_run H hw rfl hd (by rw [← hv]; simp [execOp, H.eval hx, run_partN h]) k

theorem run_size1 (h : oneB P t = true) : (sizeOf t).run P w = .ok 1 w := by
  unfold oneB at h
  simp only [Bool.and_eq_true] at h
  cases hi : P.info? t with
  | none => simp [hi] at h
  | some i =>
    have hs : i.size = 1 := Nat.eq_of_beq_eq_true (by simpa [hi] using h.2)
    simp [sizeOf, typeInfo, program, Sem.run, hi, hs]
/-- A value of one cell. -/
def Value.flat : Value → Bool
  | .agg _ | .tuple _ => false
  | _ => true
theorem run_store1 (hv : Value.flat v = true) (hc : (w.cell? p).isSome = true) (hf : w.frozen? p = false) : (store p v).run P w = .ok () (w.setCell p v) := by
  obtain ⟨u, hu⟩ := Option.isSome_iff_exists.1 hc
  cases v <;> first | (simp [Value.flat] at hv; done) | simp [store, Sem.run, hu, hf]
theorem run_storeVar1 (h1 : oneB P t = true) (hv : Value.flat v = true) (hc : (w.cell? p).isSome = true) (hf : w.frozen? p = false) : (storeVar t p v).run P w = .ok () (w.setCell p v) := by
  have e : v.cells = #[v] := by cases v <;> first | (simp [Value.flat] at hv; done) | rfl
  have hs := run_store1 (P := P) hv hc hf
  simp [storeVar, e, run_size1 h1, storeCells, hs, Addr.add_zero']
theorem s_sto {dst : Option Tmp} (H : Has n ds a L) (hw : Region.wanted ⟨dst, .store t x y, ty, pos, af, g⟩ (yielded ops a.tmps) = true) (hdst : dst = none) (hx : ev L x = some (.pointer (some p))) (hy : ev L y = some v) (h1 : oneB P t = true) (hv : Value.flat v = true)
    (hs : (w.cell? p).isSome = true) (hf : w.frozen? p = false) (k : Has n ds a L → wpList P ops Q rest a (w.setCell p v)) : wpList P ops Q (⟨dst, .store t x y, ty, pos, af, g⟩ :: rest) a w :=
  s_run0 H hw hdst (by simp [execOp, H.eval hx, H.eval hy, Instr.storeAt, Instr.sureAddr, run_storeVar1 h1 hv hs hf]) k
/-- Stores of the cells of a whole value, one behind the other. -/
def StoN (p : Addr) : Nat → List Value → World → (World → Prop) → Prop
  | _, [], w, K => K w
  | i, v :: r, w, K => (w.cell? (p.add i)).isSome = true ∧ w.frozen? (p.add i) = false ∧ StoN p (i + 1) r (w.setCell (p.add i) v) K
theorem run_stoN (l : List Value) : ∀ (i : Nat) (w : World) (K : World → Prop), (l.all Value.flat) = true → StoN p i l w K → ∃ w', (storeCells p l i).run P w = .ok () w' ∧ K w' := by
  induction l with
  | nil => intro i w K _ h; exact ⟨w, by simp [storeCells], h⟩
  | cons v r ih =>
    intro i w K hl h
    obtain ⟨h1, h2, h3⟩ := h
    simp only [List.all_cons, Bool.and_eq_true] at hl
    obtain ⟨w', hr, hk⟩ := ih (i + 1) _ K hl.2 h3
    exact ⟨w', by simp only [storeCells, Sem.run_bind, run_store1 (P := P) hl.1 h1 h2, Result.andThen_ok, hr], hk⟩
theorem s_stoN {dst : Option Tmp} {l : List Value} {m : Nat} (H : Has n ds a L) (hw : Region.wanted ⟨dst, .store t x y, ty, pos, af, g⟩ (yielded ops a.tmps) = true) (hdst : dst = none) (hx : ev L x = some (.pointer (some p))) (hy : ev L y = some (.agg l.toArray)) (h1 : aggB P t m = true) (hm : l.length = m) (hv : l.all Value.flat = true)
    {K : World → Prop} (hs : StoN p 0 l w K) (k : ∀ w', K w' → Has n ds a L → wpList P ops Q rest a w') : wpList P ops Q (⟨dst, .store t x y, ty, pos, af, g⟩ :: rest) a w := by
  obtain ⟨w', hr, hk⟩ := run_stoN (P := P) l 0 w K hv hs
  obtain ⟨_, e4⟩ := isAgg_agg (w := w) h1
  refine s_run0 H hw hdst ?_ (k w' hk)
  simp [execOp, H.eval hx, H.eval hy, Instr.storeAt, Instr.sureAddr, storeVar, Value.cells, e4, hm, hr]

theorem s_bslc {len e : Nat} {parts : Array (Nat × Operand)} {cs : Array Value} (H : Has n ds a L) (hw : Region.wanted ⟨some d, .buildSlice t len parts, ty, pos, af, g⟩ (yielded ops a.tmps) = true) (hr : (Instr.buildSlice t len (parts.map fun (i, x) => (i, a.eval x))).run P w = .ok (.slice (some ⟨w.heap.size, 0, none⟩) len len) (w.alloc (.cells cs e))) (hd : d < n)
    (k : ∀ a, Has n ds a ((d, (.slice (some ⟨w.heap.size, 0, none⟩) len len)) :: L) → wpList P ops Q rest a (w.alloc (.cells cs e))) : wpList P ops Q (⟨some d, .buildSlice t len parts, ty, pos, af, g⟩ :: rest) a w :=
  s_run H hw rfl hd (by simp [execOp]; simp [hr]) k

theorem s_build {parts : Array (Nat × Operand)} (H : Has n ds a L) (hw : Region.wanted ⟨some d, .build t parts, ty, pos, af, g⟩ (yielded ops a.tmps) = true) (hr : (Instr.build t (parts.map fun (i, x) => (i, a.eval x))).run P w = .ok v w) (hd : d < n)
    (k : ∀ a, Has n ds a ((d, v) :: L) → wpList P ops Q rest a w) : wpList P ops Q (⟨some d, .build t parts, ty, pos, af, g⟩ :: rest) a w :=
  s_run H hw rfl hd (by simp [execOp]; simp [hr]) k

theorem s_iface (H : Has n ds a L) (hw : Region.wanted ⟨some d, .makeInterface t x, ty, pos, af, g⟩ (yielded ops a.tmps) = true) (hx : ev L x = some v) (h : notIfaceB P t = true) (hd : d < n)
    (k : ∀ a, Has n ds a ((d, (.iface t v)) :: L) → wpList P ops Q rest a w) : wpList P ops Q (⟨some d, .makeInterface t x, ty, pos, af, g⟩ :: rest) a w :=
  s_run H hw rfl hd (by cases hu : P.underlying t with | none => simp [notIfaceB, hu] at h | some u => (cases u <;> first | (simp [notIfaceB, hu] at h; done) | simp [execOp, H.eval hx, Instr.makeInterface, run_underlying hu])) k

theorem s_mk {s : Slc} (H : Has n ds a L) (hw : Region.wanted ⟨some d, .makeSlice t x y, ty, pos, af, g⟩ (yielded ops a.tmps) = true) (hx : ev L x = some vx) (hy : ev L y = some vy) (hr : (Instr.makeSlice t vx vy).run P w = .ok s.v w1) (hd : d < n)
    (k : ∀ a, Has n ds a ((d, s.v) :: L) → wpList P ops Q rest a w1) : wpList P ops Q (⟨some d, .makeSlice t x y, ty, pos, af, g⟩ :: rest) a w :=
  s_run H hw rfl hd (by simp [execOp, H.eval hx, H.eval hy, hr]) k

theorem s_slice {lo hi mx : Option Operand} {l' h' m' : Option Value} (H : Has n ds a L) (hw : Region.wanted ⟨some d, .slice t x lo hi mx, ty, pos, af, g⟩ (yielded ops a.tmps) = true) (hx : ev L x = some vx) (hl : lo.bind (ev L) = l' ∧ lo.isSome = l'.isSome) (hh : hi.bind (ev L) = h' ∧ hi.isSome = h'.isSome) (hm : mx.bind (ev L) = m' ∧ mx.isSome = m'.isSome) (hr : (Instr.sliceAt t vx l' h' m').run P w = .ok v w) (hd : d < n)
    (k : ∀ a, Has n ds a ((d, v) :: L) → wpList P ops Q rest a w) : wpList P ops Q (⟨some d, .slice t x lo hi mx, ty, pos, af, g⟩ :: rest) a w :=
  s_run H hw rfl hd (by have e : ∀ (o : Option Operand) (u : Option Value), o.bind (ev L) = u ∧ o.isSome = u.isSome → o.map a.eval = u := (by intro o u ⟨h1, h2⟩; cases o with | none => (simpa using h1) | some q => (cases u with | none => simp at h2 | some u => (simp at h1; simp [H.eval h1]))); simp [execOp, H.eval hx, e lo l' hl, e hi h' hh, e mx m' hm, hr]) k

/-- A call of a named Go function that has a body. -/
def bodyB (P : Program) (f : FuncId) : Bool := match P.funcs[f]? with | some fn => fn.body.isSome && !(fn.name == "runtime.NumGoroutine") | none => false
theorem run_callFunc {f : FuncId} {args : Array Value} (h : bodyB P f = true) : (callFunc f args).run P w = .ok (.enter f args) w := by
  unfold bodyB at h
  cases hf : P.funcs[f]? with
  | none => simp [hf] at h
  | some fn =>
    simp only [hf, Bool.and_eq_true, Bool.not_eq_true'] at h
    have hb : fn.body.isNone = false := by cases hb : fn.body <;> simp_all
    simp only [callFunc, program, Sem.run_bind, Sem.run, Result.andThen_ok, hf, h.2, hb, Bool.false_eq_true, if_false, Sem.run_pure]
theorem s_call {f : FuncId} {as : Array Operand} {ats : Array TypeId} {args : Array Value} {K : Value → World → Prop} {Kp : List PanicEntry → World → Prop} (H : Has n ds a L)
    (hw : Region.wanted ⟨some d, .call ⟨.value (.func f), as, ats⟩, ty, pos, af, g⟩ (yielded ops a.tmps) = true) (hb : bodyB P f = true) (ha : as.map a.eval = args) (hd : d < n)
    (hc : Calls P f args w (CallK K Kp)) (k : ∀ v w' a, K v w' → Has n ds a ((d, v) :: L) → wpList P ops Q rest a w') (kp : ∀ c w', Kp c w' → Has n ds a L → Q (.panic c) a w') :
    wpList P ops Q (⟨some d, .call ⟨.value (.func f), as, ats⟩, ty, pos, af, g⟩ :: rest) a w := by
  unfold wpList
  rw [if_pos hw]
  refine .inl ?_
  unfold Oper.wp
  have hr : (execOp a.eval ⟨some d, .call ⟨.value (.func f), as, ats⟩, ty, pos, af, g⟩).run P w = .ok (.enter f args) w := by
    have e : #[] ++ as.map a.eval ++ #[] = args := by simpa using ha
    simp only [execOp, resolve, Act.eval, Deferred.ofValue, Sem.run_bind, Sem.run_pure, Result.andThen_ok, invoke]
    rw [e]
    exact run_callFunc hb
  rw [hr, Oper.upon_enter]
  refine hc.mono ?_
  rintro (v | c | _) w' h
  · exact k v w' _ h (H.put hd v)
  · exact kp c w' h H
  · exact h.elim
/-- A call through a value. -/
def CallV (P : Program) (fv : Value) (args : Array Value) (w : World) (R : Ending → World → Prop) : Prop := ∃ f cap, fv = .func (.func f) #[] cap ∧ bodyB P f = true ∧ Calls P f (args ++ cap) w R
theorem s_callV {x : Operand} {fv : Value} {as : Array Operand} {ats : Array TypeId} {args : Array Value} {K : Value → World → Prop} {Kp : List PanicEntry → World → Prop} (H : Has n ds a L)
    (hw : Region.wanted ⟨some d, .call ⟨.value x, as, ats⟩, ty, pos, af, g⟩ (yielded ops a.tmps) = true) (hx : ev L x = some fv) (ha : as.map a.eval = args) (hd : d < n)
    (hc : CallV P fv args w (CallK K Kp)) (k : ∀ v w' a, K v w' → Has n ds a ((d, v) :: L) → wpList P ops Q rest a w') (kp : ∀ c w', Kp c w' → Has n ds a L → Q (.panic c) a w') :
    wpList P ops Q (⟨some d, .call ⟨.value x, as, ats⟩, ty, pos, af, g⟩ :: rest) a w := by
  obtain ⟨f, cap, rfl, hb, hc⟩ := hc
  unfold wpList
  rw [if_pos hw]
  refine .inl ?_
  unfold Oper.wp
  have hr : (execOp a.eval ⟨some d, .call ⟨.value x, as, ats⟩, ty, pos, af, g⟩).run P w = .ok (.enter f (args ++ cap)) w := by
    have e : #[] ++ as.map a.eval ++ cap = args ++ cap := by rw [ha]; simp
    simp only [execOp, resolve, H.eval hx, Deferred.ofValue, Sem.run_bind, Sem.run_pure, Result.andThen_ok, invoke]
    rw [e]
    exact run_callFunc hb
  rw [hr, Oper.upon_enter]
  refine hc.mono ?_
  rintro (v | c | _) w' h
  · exact k v w' _ h (H.put hd v)
  · exact kp c w' h H
  · exact h.elim
theorem s_callV0 {x : Operand} {fv : Value} {as : Array Operand} {ats : Array TypeId} {args : Array Value} {K : Value → World → Prop} {Kp : List PanicEntry → World → Prop} (H : Has n ds a L)
    (hw : Region.wanted ⟨none, .call ⟨.value x, as, ats⟩, ty, pos, af, g⟩ (yielded ops a.tmps) = true) (hx : ev L x = some fv) (ha : as.map a.eval = args)
    (hc : CallV P fv args w (CallK K Kp)) (k : ∀ v w', K v w' → Has n ds a L → wpList P ops Q rest a w') (kp : ∀ c w', Kp c w' → Has n ds a L → Q (.panic c) a w') :
    wpList P ops Q (⟨none, .call ⟨.value x, as, ats⟩, ty, pos, af, g⟩ :: rest) a w := by
  obtain ⟨f, cap, rfl, hb, hc⟩ := hc
  unfold wpList
  rw [if_pos hw]
  refine .inl ?_
  unfold Oper.wp
  have hr : (execOp a.eval ⟨none, .call ⟨.value x, as, ats⟩, ty, pos, af, g⟩).run P w = .ok (.enter f (args ++ cap)) w := by
    have e : #[] ++ as.map a.eval ++ cap = args ++ cap := by rw [ha]; simp
    simp only [execOp, resolve, H.eval hx, Deferred.ofValue, Sem.run_bind, Sem.run_pure, Result.andThen_ok, invoke]
    rw [e]
    exact run_callFunc hb
  rw [hr, Oper.upon_enter]
  refine hc.mono ?_
  rintro (v | c | _) w' h
  · exact k v w' h H
  · exact kp c w' h H
  · exact h.elim
/-- A closure is made. -/
theorem s_mkf {f : Fn} {xs : Array Operand} {cap : Array Value} (H : Has n ds a L) (hw : Region.wanted ⟨some d, .makeFunc f #[] xs, ty, pos, af, g⟩ (yielded ops a.tmps) = true) (hx : xs.map a.eval = cap) (hd : d < n)
    (k : ∀ a, Has n ds a ((d, .func f #[] cap) :: L) → wpList P ops Q rest a w) : wpList P ops Q (⟨some d, .makeFunc f #[] xs, ty, pos, af, g⟩ :: rest) a w :=
  s_run H hw rfl hd (by subst hx; simp [execOp, Instr.makeFunc]) k
theorem s_call0 {f : FuncId} {as : Array Operand} {ats : Array TypeId} {args : Array Value} {K : Value → World → Prop} {Kp : List PanicEntry → World → Prop} (H : Has n ds a L)
    (hw : Region.wanted ⟨none, .call ⟨.value (.func f), as, ats⟩, ty, pos, af, g⟩ (yielded ops a.tmps) = true) (hb : bodyB P f = true) (ha : as.map a.eval = args)
    (hc : Calls P f args w (CallK K Kp)) (k : ∀ v w', K v w' → Has n ds a L → wpList P ops Q rest a w') (kp : ∀ c w', Kp c w' → Has n ds a L → Q (.panic c) a w') :
    wpList P ops Q (⟨none, .call ⟨.value (.func f), as, ats⟩, ty, pos, af, g⟩ :: rest) a w := by
  unfold wpList
  rw [if_pos hw]
  refine .inl ?_
  unfold Oper.wp
  have hr : (execOp a.eval ⟨none, .call ⟨.value (.func f), as, ats⟩, ty, pos, af, g⟩).run P w = .ok (.enter f args) w := by
    have e : #[] ++ as.map a.eval ++ #[] = args := by simpa using ha
    simp only [execOp, resolve, Act.eval, Deferred.ofValue, Sem.run_bind, Sem.run_pure, Result.andThen_ok, invoke]
    rw [e]
    exact run_callFunc hb
  rw [hr, Oper.upon_enter]
  refine hc.mono ?_
  rintro (v | c | _) w' h
  · exact k v w' h H
  · exact kp c w' h H
  · exact h.elim
/-- A builtin that gives a value. -/
theorem s_blt {b : Builtin} {as : Array Operand} {ats : Array TypeId} {args : Array Value} (H : Has n ds a L)
    (hw : Region.wanted ⟨some d, .call ⟨.builtin b, as, ats⟩, ty, pos, af, g⟩ (yielded ops a.tmps) = true) (ha : as.map a.eval = args) (hd : d < n)
    (hr : ∀ cs, (builtin b ats ty cs args).run P w = .ok (.value v) w1) (k : ∀ a, Has n ds a ((d, v) :: L) → wpList P ops Q rest a w1) :
    wpList P ops Q (⟨some d, .call ⟨.builtin b, as, ats⟩, ty, pos, af, g⟩ :: rest) a w :=
  s_run H hw rfl hd (by simp only [execOp, resolve, ha, Sem.run_bind, Sem.run_pure, Result.andThen_ok, invoke, hr]) k
theorem s_blt0 {b : Builtin} {as : Array Operand} {ats : Array TypeId} {args : Array Value} (H : Has n ds a L)
    (hw : Region.wanted ⟨none, .call ⟨.builtin b, as, ats⟩, ty, pos, af, g⟩ (yielded ops a.tmps) = true) (ha : as.map a.eval = args)
    (hr : ∀ cs, (builtin b ats ty cs args).run P w = .ok (.value v) w1) (k : Has n ds a L → wpList P ops Q rest a w1) :
    wpList P ops Q (⟨none, .call ⟨.builtin b, as, ats⟩, ty, pos, af, g⟩ :: rest) a w := by
  unfold wpList
  rw [if_pos hw]
  refine .inl ?_
  unfold Oper.wp
  have hr' : (execOp a.eval ⟨none, .call ⟨.builtin b, as, ats⟩, ty, pos, af, g⟩).run P w = .ok (.value v) w1 := by
    simp only [execOp, resolve, ha, Sem.run_bind, Sem.run_pure, Result.andThen_ok, invoke, hr]
  rw [hr', Oper.upon_value]
  exact k H
/-- The text's own panic. -/
theorem s_panic {dst : Option Tmp} {u : Value} (H : Has n ds a L) (hw : Region.wanted ⟨dst, .panic x, ty, pos, af, g⟩ (yielded ops a.tmps) = true) (hx : ev L x = some (.iface t u))
    (k : Has n ds a L → Q (.panic [{ v := .iface t u, recovered := false }]) a w) : wpList P ops Q (⟨dst, .panic x, ty, pos, af, g⟩ :: rest) a w := by
  unfold wpList
  rw [if_pos hw]
  refine .inl ?_
  unfold Oper.wp
  have hr : (execOp a.eval ⟨dst, .panic x, ty, pos, af, g⟩).run P w = .halt (.panic (.iface t u)) w := by
    simp [execOp, H.eval hx, Instr.panic, goPanic, Sem.run]
  rw [hr, Oper.upon_panic]
  exact k H
theorem s_panicB {dst : Option Tmp} {ats : Array TypeId} {u : Value} (H : Has n ds a L) (hw : Region.wanted ⟨dst, .call ⟨.builtin .panic, #[x], ats⟩, ty, pos, af, g⟩ (yielded ops a.tmps) = true) (hx : ev L x = some (.iface t u))
    (k : Has n ds a L → Q (.panic [{ v := .iface t u, recovered := false }]) a w) : wpList P ops Q (⟨dst, .call ⟨.builtin .panic, #[x], ats⟩, ty, pos, af, g⟩ :: rest) a w := by
  unfold wpList
  rw [if_pos hw]
  refine .inl ?_
  unfold Oper.wp
  have hr : (execOp a.eval ⟨dst, .call ⟨.builtin .panic, #[x], ats⟩, ty, pos, af, g⟩).run P w = .halt (.panic (.iface t u)) w := by
    simp [execOp, resolve, invoke, builtin, H.eval hx, Instr.panic, goPanic, Sem.run]
  rw [hr, Oper.upon_panic]
  exact k H

end laws
end
/-! ## Quiet laws -/
section
variable {P : Program} {ops : Array Oper} {Z : Act → Prop} {rest : List Oper} {a : Act} {w : World} {n : Nat} {ds : List Deferred} {L : List (Nat × Value)}
  {d : Nat} {ty : TypeId} {pos : String} {af : Array Edge} {g : Option (Nat × Bool)} {x y z : Operand} {v vx vy : Value} {t : TypeId} {p : Addr}
theorem z_run {o : Oper} (H : Has n ds a L) (hw : Region.wanted o (yielded ops a.tmps) = true) (hdst : o.dst = some d) (hd : d < n)
    (hr : ∀ m, (execOp a.eval o).run P (w.drewN m) = .ok (.value v) (w.drewN m)) (k : ∀ a, Has n ds a ((d, v) :: L) → wpQuiet P ops (fun w' => ∃ n, w' = w.drewN n) Z rest a) : wpQuiet P ops (fun w' => ∃ n, w' = w.drewN n) Z (o :: rest) a := by
  unfold wpQuiet
  rw [if_pos hw]
  refine ⟨v, fun w' hw' => ?_, by rw [hdst]; exact k _ (H.put hd v)⟩
  obtain ⟨m, e⟩ := hw'
  subst e
  unfold Oper.quietAt
  rw [hr m]
  exact ⟨rfl, rfl⟩
theorem z_skip {o : Oper} (H : Has n ds a L) (hw : Region.wanted o (yielded ops a.tmps) = false) (hdst : o.dst = some d) (hd : d < n)
    (k : ∀ a, Has n ds a ((d, undef) :: L) → wpQuiet P ops (fun w' => ∃ n, w' = w.drewN n) Z rest a) : wpQuiet P ops (fun w' => ∃ n, w' = w.drewN n) Z (o :: rest) a := by
  unfold wpQuiet
  rw [if_neg (by rw [hw]; simp), hdst]
  exact k _ (H.put hd _)
theorem cells_drew {m : Nat} {l : List Value} : ∀ {i : Nat}, Cells w p i l → Cells (w.drewN m) p i l := by
  induction l with
  | nil => intro i _; trivial
  | cons v r ih => intro i h; exact ⟨h.1, ih h.2⟩
theorem z_move (H : Has n ds a L) (hw : Region.wanted ⟨some d, .move x, ty, pos, af, g⟩ (yielded ops a.tmps) = true) (hx : ev L x = some v) (hd : d < n)
    (k : ∀ a, Has n ds a ((d, v) :: L) → wpQuiet P ops (fun w' => ∃ n, w' = w.drewN n) Z rest a) : wpQuiet P ops (fun w' => ∃ n, w' = w.drewN n) Z (⟨some d, .move x, ty, pos, af, g⟩ :: rest) a :=
  z_run H hw rfl hd (fun mm => by rw [← H.eval hx]; rfl) k
theorem z_assign (H : Has n ds a L) (hw : Region.wanted ⟨some d, .assign x, ty, pos, af, g⟩ (yielded ops a.tmps) = true) (hx : ev L x = some v) (hd : d < n)
    (k : ∀ a, Has n ds a ((d, v) :: L) → wpQuiet P ops (fun w' => ∃ n, w' = w.drewN n) Z rest a) : wpQuiet P ops (fun w' => ∃ n, w' = w.drewN n) Z (⟨some d, .assign x, ty, pos, af, g⟩ :: rest) a :=
  z_run H hw rfl hd (fun mm => by rw [← H.eval hx]; rfl) k
theorem z_pickT (H : Has n ds a L) (hw : Region.wanted ⟨some d, .pick z x y, ty, pos, af, g⟩ (yielded ops a.tmps) = true) (hz : ev L z = some (.bool true)) (hx : ev L x = some v) (hd : d < n)
    (k : ∀ a, Has n ds a ((d, v) :: L) → wpQuiet P ops (fun w' => ∃ n, w' = w.drewN n) Z rest a) : wpQuiet P ops (fun w' => ∃ n, w' = w.drewN n) Z (⟨some d, .pick z x y, ty, pos, af, g⟩ :: rest) a :=
  z_run H hw rfl hd (fun mm => by simp [execOp, H.eval hz, H.eval hx, asBool]) k
theorem z_pickF (H : Has n ds a L) (hw : Region.wanted ⟨some d, .pick z x y, ty, pos, af, g⟩ (yielded ops a.tmps) = true) (hz : ev L z = some (.bool false)) (hy : ev L y = some v) (hd : d < n)
    (k : ∀ a, Has n ds a ((d, v) :: L) → wpQuiet P ops (fun w' => ∃ n, w' = w.drewN n) Z rest a) : wpQuiet P ops (fun w' => ∃ n, w' = w.drewN n) Z (⟨some d, .pick z x y, ty, pos, af, g⟩ :: rest) a :=
  z_run H hw rfl hd (fun mm => by simp [execOp, H.eval hz, H.eval hy, asBool]) k
theorem z_bin {bo : BinOp} {u : TypeId} (H : Has n ds a L) (hw : Region.wanted ⟨some d, .binOp bo t x y u, ty, pos, af, g⟩ (yielded ops a.tmps) = true) (hx : ev L x = some vx) (hy : ev L y = some vy) (hr : RB P bo t x y vx vy v) (hd : d < n)
    (k : ∀ a, Has n ds a ((d, v) :: L) → wpQuiet P ops (fun w' => ∃ n, w' = w.drewN n) Z rest a) : wpQuiet P ops (fun w' => ∃ n, w' = w.drewN n) Z (⟨some d, .binOp bo t x y u, ty, pos, af, g⟩ :: rest) a :=
  z_run H hw rfl hd (fun mm => by have e := hr (w.drewN mm); simp only [execOp, H.eval hx, H.eval hy]; rw [Sem.run_bind, e]; rfl) k
theorem z_un {uo : UnOp} (H : Has n ds a L) (hw : Region.wanted ⟨some d, .unOp uo t x, ty, pos, af, g⟩ (yielded ops a.tmps) = true) (hx : ev L x = some vx) (hr : ∀ w, (Op.unary uo vx).run P w = .ok v w) (hd : d < n)
    (k : ∀ a, Has n ds a ((d, v) :: L) → wpQuiet P ops (fun w' => ∃ n, w' = w.drewN n) Z rest a) : wpQuiet P ops (fun w' => ∃ n, w' = w.drewN n) Z (⟨some d, .unOp uo t x, ty, pos, af, g⟩ :: rest) a :=
  z_run H hw rfl hd (fun mm => by have e := hr (w.drewN mm); simp [execOp, H.eval hx, e]) k
theorem z_cv {u : TypeId} (H : Has n ds a L) (hw : Region.wanted ⟨some d, .convert t u x, ty, pos, af, g⟩ (yielded ops a.tmps) = true) (hx : ev L x = some vx) (hr : ∀ w, (convert t u vx).run P w = .ok v w) (hd : d < n)
    (k : ∀ a, Has n ds a ((d, v) :: L) → wpQuiet P ops (fun w' => ∃ n, w' = w.drewN n) Z rest a) : wpQuiet P ops (fun w' => ∃ n, w' = w.drewN n) Z (⟨some d, .convert t u x, ty, pos, af, g⟩ :: rest) a :=
  z_run H hw rfl hd (fun mm => by simp [execOp, H.eval hx, hr]) k
/-- In a region that draws. -/
def ToStrD (P : Program) (t1 t2 : TypeId) (w : World) (x : Value) (K : ByteArray → Prop) : Prop := ∃ s, (∀ k : Nat, (convert t1 t2 x).run P (w.drewN k) = .ok (.string s) (w.drewN k)) ∧ K s
theorem z_cvD {u : TypeId} (H : Has n ds a L) (hw : Region.wanted ⟨some d, .convert t u x, ty, pos, af, g⟩ (yielded ops a.tmps) = true) (hx : ev L x = some vx) (hr : ∀ k : Nat, (convert t u vx).run P (w.drewN k) = .ok v (w.drewN k)) (hd : d < n)
    (k : ∀ a, Has n ds a ((d, v) :: L) → wpQuiet P ops (fun w' => ∃ n, w' = w.drewN n) Z rest a) : wpQuiet P ops (fun w' => ∃ n, w' = w.drewN n) Z (⟨some d, .convert t u x, ty, pos, af, g⟩ :: rest) a :=
  z_run H hw rfl hd (fun mm => by simp [execOp, H.eval hx, hr]) k
theorem z_nil (H : Has n ds a L) (hw : Region.wanted ⟨some d, .nilCheck x, ty, pos, af, g⟩ (yielded ops a.tmps) = true) (hx : ev L x = some (.pointer (some p))) (hd : d < n)
    (k : ∀ a, Has n ds a ((d, (.pointer (some p))) :: L) → wpQuiet P ops (fun w' => ∃ n, w' = w.drewN n) Z rest a) : wpQuiet P ops (fun w' => ∃ n, w' = w.drewN n) Z (⟨some d, .nilCheck x, ty, pos, af, g⟩ :: rest) a :=
  z_run H hw rfl hd (fun mm => by simp [execOp, H.eval hx]) k
theorem z_load (H : Has n ds a L) (hw : Region.wanted ⟨some d, .load t x, ty, pos, af, g⟩ (yielded ops a.tmps) = true) (hx : ev L x = some (.pointer (some p))) (h1 : oneB P t = true) (hc : w.cell? p = some v) (hd : d < n)
    (k : ∀ a, Has n ds a ((d, v) :: L) → wpQuiet P ops (fun w' => ∃ n, w' = w.drewN n) Z rest a) : wpQuiet P ops (fun w' => ∃ n, w' = w.drewN n) Z (⟨some d, .load t x, ty, pos, af, g⟩ :: rest) a :=
  z_run H hw rfl hd (fun mm => by simp [execOp, H.eval hx, Instr.loadAt, Instr.sureAddr, run_load1 (w := w.drewN mm) h1 hc]) k
theorem z_loadN {l : List Value} {m : Nat} (H : Has n ds a L) (hw : Region.wanted ⟨some d, .load t x, ty, pos, af, g⟩ (yielded ops a.tmps) = true) (hx : ev L x = some (.pointer (some p))) (h1 : aggB P t m = true) (hm : l.length = m) (hc : Cells w p 0 l) (hd : d < n)
    (k : ∀ a, Has n ds a ((d, (.agg l.toArray)) :: L) → wpQuiet P ops (fun w' => ∃ n, w' = w.drewN n) Z rest a) : wpQuiet P ops (fun w' => ∃ n, w' = w.drewN n) Z (⟨some d, .load t x, ty, pos, af, g⟩ :: rest) a :=
  z_run H hw rfl hd (fun mm => by simp [execOp, H.eval hx, Instr.loadAt, Instr.sureAddr, run_loadN (w := w.drewN mm) h1 hm (cells_drew hc)]) k
theorem z_fld {i off : Nat} (H : Has n ds a L) (hw : Region.wanted ⟨some d, .fieldAddr t x i, ty, pos, af, g⟩ (yielded ops a.tmps) = true) (hx : ev L x = some (.pointer (some p))) (h1 : fldB P t i off = true) (hd : d < n)
    (k : ∀ a, Has n ds a ((d, (.pointer (some (p.add off)))) :: L) → wpQuiet P ops (fun w' => ∃ n, w' = w.drewN n) Z rest a) : wpQuiet P ops (fun w' => ∃ n, w' = w.drewN n) Z (⟨some d, .fieldAddr t x i, ty, pos, af, g⟩ :: rest) a :=
  z_run H hw rfl hd (fun mm => by simp [execOp, H.eval hx, run_field h1]) k
theorem z_idxS {s : Slc} {i : Int} {k : IntKind} {size : Nat} (H : Has n ds a L) (hw : Region.wanted ⟨some d, .indexAddr t x y, ty, pos, af, g⟩ (yielded ops a.tmps) = true) (hx : ev L x = some s.v) (hy : ev L y = some (.int k i)) (h : slcB P t size = true) (ha : s.a = some p) (h0 : 0 ≤ i) (h1 : i < s.l) (hd : d < n)
    (kk : ∀ a, Has n ds a ((d, (.pointer (some (p.add (i.toNat * size))))) :: L) → wpQuiet P ops (fun w' => ∃ n, w' = w.drewN n) Z rest a) : wpQuiet P ops (fun w' => ∃ n, w' = w.drewN n) Z (⟨some d, .indexAddr t x y, ty, pos, af, g⟩ :: rest) a :=
  z_run H hw rfl hd (fun mm => by have e := run_idxS (P := P) (w := w.drewN mm) (k := k) h ha h0 h1; simp only [execOp, H.eval hx, H.eval hy, Sem.run_bind, e, Result.andThen_ok, Sem.run_pure]) kk
theorem z_idxA {i : Int} {k : IntKind} {len size : Nat} (H : Has n ds a L) (hw : Region.wanted ⟨some d, .indexAddr t x y, ty, pos, af, g⟩ (yielded ops a.tmps) = true) (hx : ev L x = some (.pointer (some p))) (hy : ev L y = some (.int k i)) (h : arrB P t len size = true) (h0 : 0 ≤ i) (h1 : i < len) (hd : d < n)
    (kk : ∀ a, Has n ds a ((d, (.pointer (some (p.add (i.toNat * size))))) :: L) → wpQuiet P ops (fun w' => ∃ n, w' = w.drewN n) Z rest a) : wpQuiet P ops (fun w' => ∃ n, w' = w.drewN n) Z (⟨some d, .indexAddr t x y, ty, pos, af, g⟩ :: rest) a :=
  z_run H hw rfl hd (fun mm => by have e := run_idxA (P := P) (w := w.drewN mm) (p := p) (k := k) h h0 h1; simp only [execOp, H.eval hx, H.eval hy, Sem.run_bind, e, Result.andThen_ok, Sem.run_pure]) kk
theorem z_idxStr {s : ByteArray} {i : Int} {k : IntKind} (H : Has n ds a L) (hw : Region.wanted ⟨some d, .index t x y, ty, pos, af, g⟩ (yielded ops a.tmps) = true) (hx : ev L x = some (.string s)) (hy : ev L y = some (.int k i)) (h : strB P t = true) (h0 : 0 ≤ i) (h1 : i < s.size) (hd : d < n)
    (kk : ∀ a, Has n ds a ((d, (.int .u8 (byteAt s i))) :: L) → wpQuiet P ops (fun w' => ∃ n, w' = w.drewN n) Z rest a) : wpQuiet P ops (fun w' => ∃ n, w' = w.drewN n) Z (⟨some d, .index t x y, ty, pos, af, g⟩ :: rest) a :=
  z_run H hw rfl hd (fun mm => by have e := run_idxStr (P := P) (w := w.drewN mm) (k := k) h h0 h1; simp only [execOp, H.eval hx, H.eval hy, Sem.run_bind, e, Result.andThen_ok, Sem.run_pure]) kk
theorem z_ext {vs : Array Value} {i : Nat} (H : Has n ds a L) (hw : Region.wanted ⟨some d, .extract x i, ty, pos, af, g⟩ (yielded ops a.tmps) = true) (hx : ev L x = some (.tuple vs)) (hv : vs[i]? = some v) (hd : d < n)
    (k : ∀ a, Has n ds a ((d, v) :: L) → wpQuiet P ops (fun w' => ∃ n, w' = w.drewN n) Z rest a) : wpQuiet P ops (fun w' => ∃ n, w' = w.drewN n) Z (⟨some d, .extract x i, ty, pos, af, g⟩ :: rest) a :=
  z_run H hw rfl hd (fun mm => by simp [execOp, H.eval hx, Instr.extract, hv]) k
theorem z_fv1 {cs : Array Value} {i off : Nat} (H : Has n ds a L) (hw : Region.wanted ⟨some d, .field t x i, ty, pos, af, g⟩ (yielded ops a.tmps) = true) (hx : ev L x = some (.agg cs)) (h : partB P t i off 0 = true) (hv : cs[off]? = some v) (hd : d < n)
    (k : ∀ a, Has n ds a ((d, v) :: L) → wpQuiet P ops (fun w' => ∃ n, w' = w.drewN n) Z rest a) : wpQuiet P ops (fun w' => ∃ n, w' = w.drewN n) Z (⟨some d, .field t x i, ty, pos, af, g⟩ :: rest) a :=
  z_run H hw rfl hd (fun mm => by simp [execOp, H.eval hx, run_part1 h hv]) k
theorem z_fvN {cs l : Array Value} {i off m : Nat} (H : Has n ds a L) (hw : Region.wanted ⟨some d, .field t x i, ty, pos, af, g⟩ (yielded ops a.tmps) = true) (hx : ev L x = some (.agg cs)) (h : partB P t i off (m + 1) = true) (hv : cs.extract off (off + (m + 1)) = l) (hd : d < n)
    (k : ∀ a, Has n ds a ((d, (.agg l)) :: L) → wpQuiet P ops (fun w' => ∃ n, w' = w.drewN n) Z rest a) : wpQuiet P ops (fun w' => ∃ n, w' = w.drewN n) Z (⟨some d, .field t x i, ty, pos, af, g⟩ :: rest) a :=
  z_run H hw rfl hd (fun mm => by rw [← hv]; simp [execOp, H.eval hx, run_partN h]) k
theorem z_iface (H : Has n ds a L) (hw : Region.wanted ⟨some d, .makeInterface t x, ty, pos, af, g⟩ (yielded ops a.tmps) = true) (hx : ev L x = some v) (h : notIfaceB P t = true) (hd : d < n)
    (k : ∀ a, Has n ds a ((d, (.iface t v)) :: L) → wpQuiet P ops (fun w' => ∃ n, w' = w.drewN n) Z rest a) : wpQuiet P ops (fun w' => ∃ n, w' = w.drewN n) Z (⟨some d, .makeInterface t x, ty, pos, af, g⟩ :: rest) a :=
  z_run H hw rfl hd (fun mm => by cases hu : P.underlying t with | none => simp [notIfaceB, hu] at h | some u => (cases u <;> first | (simp [notIfaceB, hu] at h; done) | simp [execOp, H.eval hx, Instr.makeInterface, run_underlying hu])) k
theorem z_slice {lo hi mx : Option Operand} {l' h' m' : Option Value} (H : Has n ds a L) (hw : Region.wanted ⟨some d, .slice t x lo hi mx, ty, pos, af, g⟩ (yielded ops a.tmps) = true) (hx : ev L x = some vx) (hl : lo.bind (ev L) = l' ∧ lo.isSome = l'.isSome) (hh : hi.bind (ev L) = h' ∧ hi.isSome = h'.isSome) (hm : mx.bind (ev L) = m' ∧ mx.isSome = m'.isSome) (hr : ∀ w, (Instr.sliceAt t vx l' h' m').run P w = .ok v w) (hd : d < n)
    (k : ∀ a, Has n ds a ((d, v) :: L) → wpQuiet P ops (fun w' => ∃ n, w' = w.drewN n) Z rest a) : wpQuiet P ops (fun w' => ∃ n, w' = w.drewN n) Z (⟨some d, .slice t x lo hi mx, ty, pos, af, g⟩ :: rest) a :=
  z_run H hw rfl hd (fun mm => by have e : ∀ (o : Option Operand) (u : Option Value), o.bind (ev L) = u ∧ o.isSome = u.isSome → o.map a.eval = u := (by intro o u ⟨h1, h2⟩; cases o with | none => (simpa using h1) | some q => (cases u with | none => simp at h2 | some u => (simp at h1; simp [H.eval h1]))); simp [execOp, H.eval hx, e lo l' hl, e hi h' hh, e mx m' hm, hr]) k
theorem z_blt {b : Builtin} {as : Array Operand} {ats : Array TypeId} {args : Array Value} (H : Has n ds a L)
    (hw : Region.wanted ⟨some d, .call ⟨.builtin b, as, ats⟩, ty, pos, af, g⟩ (yielded ops a.tmps) = true) (ha : as.map a.eval = args) (hd : d < n)
    (hr : ∀ cs w, (builtin b ats ty cs args).run P w = .ok (.value v) w) (k : ∀ a, Has n ds a ((d, v) :: L) → wpQuiet P ops (fun w' => ∃ n, w' = w.drewN n) Z rest a) :
    wpQuiet P ops (fun w' => ∃ n, w' = w.drewN n) Z (⟨some d, .call ⟨.builtin b, as, ats⟩, ty, pos, af, g⟩ :: rest) a :=
  z_run H hw rfl hd (fun mm => by simp only [execOp, resolve, ha, Sem.run_bind, Sem.run_pure, Result.andThen_ok, invoke, hr]) k
end
end Go.Vc
