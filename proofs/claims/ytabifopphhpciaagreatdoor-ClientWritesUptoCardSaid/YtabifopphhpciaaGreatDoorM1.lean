/-
  The ground of the seat's proofs: an environment of known slots in place of the whole frame, one law for each kind of operation, and the words in which a function's verification condition is said. Nothing of any program stands here.
-/
import Derived.WalkKit
import Derived.KernelRfl
import Derived.Deep.Quiet
import Derived.Scope
import Derived.Maps.AppendAt
import Derived.Lib.ConvBytes
import Derived.Laws.BytesArg
namespace Go.Vc
open Go

/-! ## Known slots -/
abbrev Env := List (Nat × Value)
def Env.get : List (Nat × Value) → Nat → Option Value
  | [], _ => none
  | (k, v) :: r, t => bif Nat.beq k t then some v else Env.get r t
def ev (L : List (Nat × Value)) : Operand → Option Value
  | .tmp t => Env.get L t
  | .const v => some v
  | .global g => some (.pointer (some ⟨g, 0, none⟩))
  | .func f => some (.func (.func f) #[] #[])
structure Has (n : Nat) (ds : List Deferred) (a : Act) (L : List (Nat × Value)) : Prop where
  size : a.tmps.size = n
  defers : a.defers = ds
  get : ∀ t v, Env.get L t = some v → a.tmps[t]? = some v

theorem Has.eval {n : Nat} {ds : List Deferred} {a : Act} {L : List (Nat × Value)} (h : Has n ds a L) {x : Operand} {v : Value} (hx : ev L x = some v) : a.eval x = v := by
  cases x with
  | tmp t =>
    have := h.get t v hx
    simp [Act.eval, Array.getD, Array.getElem?_eq_some_iff] at this ⊢
    obtain ⟨h1, h2⟩ := this
    rw [dif_pos h1]
    exact h2
  | const c => simpa [ev, Act.eval] using hx
  | global g => simpa [ev, Act.eval] using hx
  | func f => simpa [ev, Act.eval] using hx

theorem Has.put {n : Nat} {ds : List Deferred} {a : Act} {L : List (Nat × Value)} (h : Has n ds a L) {d : Nat} (hd : d < n) (v : Value) : Has n ds (a.put (some d) v) ((d, v) :: L) := by
  refine ⟨by simp [Act.put, h.size], by simpa [Act.put] using h.defers, ?_⟩
  intro t u hu
  simp only [Env.get] at hu
  simp only [Act.put, Array.getElem?_setIfInBounds]
  by_cases hk : d = t
  · subst hk
    have hb : Nat.beq d d = true := Nat.beq_refl d
    rw [hb] at hu
    simp only [cond_true, Option.some.injEq] at hu
    subst hu
    rw [if_pos rfl, if_pos (by rw [h.size]; exact hd)]
  · have hb : Nat.beq d t = false := by
      cases hc : Nat.beq d t with
      | false => rfl
      | true => exact absurd (Nat.eq_of_beq_eq_true hc) hk
    rw [hb] at hu
    rw [if_neg hk]
    exact h.get t u hu

def Sub : List (Nat × Value) → List (Nat × Value) → Prop
  | [], _ => True
  | (k, v) :: r, L => Env.get L k = some v ∧ Sub r L
theorem sub_of : ∀ {L' L : List (Nat × Value)}, (L'.map fun p => Env.get L p.1) = (L'.map fun p => some p.2) → Sub L' L
  | [], _, _ => True.intro
  | (_, _) :: _, _, h => by
    injection h with h1 h2
    exact ⟨h1, sub_of h2⟩
theorem Has.weaken {n : Nat} {ds : List Deferred} {a : Act} {L L' : List (Nat × Value)} (h : Has n ds a L) (hs : Sub L' L) : Has n ds a L' := by
  refine ⟨h.size, h.defers, ?_⟩
  induction L' with
  | nil => intro t v hv; simp [Env.get] at hv
  | cons p r ih =>
    obtain ⟨k, u⟩ := p
    obtain ⟨h1, h2⟩ := hs
    intro t v hv
    simp only [Env.get] at hv
    cases hb : Nat.beq k t with
    | true =>
      rw [hb] at hv
      simp only [cond_true, Option.some.injEq] at hv
      subst hv
      rw [← Nat.eq_of_beq_eq_true hb]
      exact h.get k _ h1
    | false =>
      rw [hb] at hv
      exact ih h2 t v hv

theorem Has.wk {n : Nat} {ds : List Deferred} {a : Act} {L L' : List (Nat × Value)} (H : Has n ds a L) (h : (L'.map fun p => Env.get L p.1) = (L'.map fun p => some p.2)) : Has n ds a L' := H.weaken (sub_of h)
def number : Nat → List Value → List (Nat × Value)
  | _, [] => []
  | k, v :: r => (k, v) :: number (k + 1) r
theorem get_number (l : List Value) : ∀ (k t : Nat) (v : Value), Env.get (number k l) t = some v → k ≤ t ∧ l[t - k]? = some v := by
  induction l with
  | nil => intro k t v h; simp [number, Env.get] at h
  | cons x r ih =>
    intro k t v h
    simp only [number, Env.get] at h
    cases hb : Nat.beq k t with
    | true =>
      rw [hb] at h
      have e := Nat.eq_of_beq_eq_true hb
      subst e
      simpa using h
    | false =>
      rw [hb] at h
      obtain ⟨h1, h2⟩ := ih (k + 1) t v h
      refine ⟨by omega, ?_⟩
      have e : t - k = (t - (k + 1)) + 1 := by omega
      rw [e, List.getElem?_cons_succ]
      exact h2
theorem enter {P : Program} {f : FuncId} {fn : Func} {c : Code} {l : List Value} {w : World} {R : Ending → World → Prop} (hf : P.funcs[f]? = some fn) (hb : fn.body = some c) {n : Nat} (hn : fn.ntmps = n) (hl : l.length ≤ n)
    (h : ∀ a, Has n [] a (number 0 l) → c.wp P (bodyPost P fn R) a w) : Calls P f l.toArray w R := by
  refine calls_of_wp hf hb (h _ ⟨?_, rfl, ?_⟩)
  · simp [hn]; omega
  · intro t v hv
    obtain ⟨_, h2⟩ := get_number l 0 t v hv
    have hlt := (List.getElem?_eq_some_iff.1 h2).1
    rw [Nat.sub_zero] at h2
    simp only [Nat.sub_zero] at hlt
    rw [Array.getElem?_append_left (by simpa using hlt)]
    simpa using h2

end Go.Vc
namespace Go
abbrev Value.i (n : Int) : Value := .int .i64 n
end Go
namespace Go.Vc
open Go
/-! ## Words of the conditions -/
structure Slc where
  a : Option Addr
  l : Nat
  c : Nat
abbrev Slc.v (s : Slc) : Value := .slice s.a s.l s.c
abbrev Slc.nil : Slc := ⟨none, 0, 0⟩
def New (w : World) (cs : Array Value) (e : TypeId) (K : Nat → World → Prop) : Prop := K w.heap.size (w.alloc (.cells cs e))
def Sto (w : World) (a : Addr) (v : Value) (K : World → Prop) : Prop := (w.cell? a).isSome = true ∧ w.frozen? a = false ∧ K (w.setCell a v)
def App (P : Program) (t1 t2 ty : TypeId) (w : World) (x y : Value) (K : Slc → World → Prop) : Prop := ∃ s w', (Builtin.append_ #[t1, t2] ty #[x, y]).run P w = .ok s.v w' ∧ K s w'
def Cpy (P : Program) (t1 t2 ty : TypeId) (w : World) (x y : Value) (K : Int → World → Prop) : Prop := ∃ n w', (Builtin.copy_ #[t1, t2] ty #[x, y]).run P w = .ok (.int .i64 n) w' ∧ K n w'
abbrev cI (w : World) (a : Addr) (n : Int) : Prop := w.cell? a = some (.int .i64 n)
abbrev cB (w : World) (a : Addr) (b : Bool) : Prop := w.cell? a = some (.bool b)
abbrev cS (w : World) (a : Addr) (s : Slc) : Prop := w.cell? a = some (Slc.v s)
abbrev cP (w : World) (a : Addr) (p : Option Addr) : Prop := w.cell? a = some (.pointer p)
abbrev cT (w : World) (a : Addr) (s : ByteArray) : Prop := w.cell? a = some (.string s)
abbrev pn (Q : Ending → World → Prop) : List PanicEntry → World → Prop := fun c w => Q (.panicked c) w
def ToStrAt (P : Program) (t1 t2 : TypeId) (w : World) (x : Value) (s : ByteArray) : Prop := (convert t1 t2 x).run P w = .ok (.string s) w
def ToStr (P : Program) (t1 t2 : TypeId) (w : World) (x : Value) (K : ByteArray → Prop) : Prop := ∃ s, (convert t1 t2 x).run P w = .ok (.string s) w ∧ K s
def ToBytes (P : Program) (t1 t2 : TypeId) (w : World) (x : Value) (K : Slc → World → Prop) : Prop := ∃ s w', (convert t1 t2 x).run P w = .ok s.v w' ∧ K s w'
def Lkp (P : Program) (t : TypeId) (c : Bool) (w : World) (m k : Value) (K : Value → Prop) : Prop := ∃ v, (Instr.lookup t m k c).run P w = .ok v w ∧ K v
def Mup (P : Program) (t : TypeId) (w : World) (m k v : Value) (K : World → Prop) : Prop := ∃ w', (Instr.mapUpdate t m k v).run P w = .ok () w' ∧ K w'
def Dlt (P : Program) (t kt ty : TypeId) (w : World) (m k : Value) (K : World → Prop) : Prop := ∃ w', (Builtin.delete_ #[t, kt] ty #[m, k]).run P w = .ok (.tuple #[]) w' ∧ K w'
def NewM (P : Program) (t : TypeId) (w : World) (K : Nat → World → Prop) : Prop := ∃ g w', (Instr.makeMap t none).run P w = .ok (.map (some g)) w' ∧ K g w'
def MLen (P : Program) (t ty : TypeId) (w : World) (m : Value) (K : Int → Prop) : Prop := ∃ n, (Builtin.len_ #[t] ty #[m]).run P w = .ok (.int .i64 n) w ∧ K n
def Rng (P : Program) (t : TypeId) (w : World) (m : Value) (K : Nat → World → Prop) : Prop := ∃ it w', (Instr.range t m).run P w = .ok (.pointer (some ⟨it, 0, none⟩)) w' ∧ K it w'
def Nxt (P : Program) (ty : TypeId) (w : World) (it : Value) (K : Bool → World → Prop) : Prop := ∃ b r w', (Instr.next it false ty).run P w = .ok (.tuple ⟨.bool b :: r⟩) w' ∧ K b w'
def Etr (P : Program) (w : World) (it : Value) (K : Value → Prop) : Prop := ∃ v, (Instr.entry it).run P w = .ok v w ∧ K v
def CvB (P : Program) (t : TypeId) (w : World) (x : Value) (K : World → Prop) : Prop := ∃ w', (convert t t x).run P w = .ok x w' ∧ K w'
def Mk (P : Program) (t : TypeId) (w : World) (x y : Value) (K : Slc → World → Prop) : Prop := ∃ s w', (Instr.makeSlice t x y).run P w = .ok s.v w' ∧ K s w'
def CallK (K : Value → World → Prop) (Kp : List PanicEntry → World → Prop) : Ending → World → Prop
  | .returned v, w => K v w
  | .panicked c, w => Kp c w
  | .outgrown, _ => False
def byteAt (s : ByteArray) (i : Int) : Int := ((s.data[i.toNat]?.map UInt8.toNat).getD 0 : Nat)
def Slc.cut (s : Slc) (size l h : Nat) : Slc := ⟨if s.c = l then s.a else s.a.map (·.add (l * size)), h - l, s.c - l⟩
def wr (k : IntKind) (n : Int) : Int := k.wrap n
def shlI (k : IntKind) (x y : Int) : Int := k.wrap (x * 2 ^ min y.toNat k.bits)
def shrI (k : IntKind) (x y : Int) : Int := x.fdiv (2 ^ min y.toNat k.bits)
def andI (k : IntKind) (x y : Int) : Int := k.wrap (BitVec.ofInt k.bits x &&& BitVec.ofInt k.bits y).toNat
def orI (k : IntKind) (x y : Int) : Int := k.wrap (BitVec.ofInt k.bits x ||| BitVec.ofInt k.bits y).toNat
def xorI (k : IntKind) (x y : Int) : Int := k.wrap (BitVec.ofInt k.bits x ^^^ BitVec.ofInt k.bits y).toNat
def andNotI (k : IntKind) (x y : Int) : Int := k.wrap (BitVec.ofInt k.bits x &&& ~~~(BitVec.ofInt k.bits y)).toNat
def notI (k : IntKind) (n : Int) : Int := xorI k (if k.signed then -1 else k.max) n

/-! ## Closed questions to a program's tables -/
def oneB (P : Program) (t : TypeId) : Bool :=
  (match P.underlying t with
    | some (.struct _) | some (.array _ _) | none => false
    | some _ => true) && (match P.info? t with | some i => Nat.beq i.size 1 | none => false)
def aggB (P : Program) (t : TypeId) (n : Nat) : Bool :=
  (match P.underlying t with
    | some (.struct _) | some (.array _ _) => true
    | _ => false) && (match P.info? t with | some i => Nat.beq i.size n | none => false)
def fldB (P : Program) (t i off : Nat) : Bool :=
  match P.underlying t with
  | some (.struct fs) => (match fs[i]? with
    | some f => Nat.beq f.offset off && (match P.info? f.type with | some i => !Nat.beq i.size 0 | none => false)
    | none => false)
  | _ => false
def fldTyB (P : Program) (t i off u : Nat) : Bool :=
  match P.underlying t with
  | some (.struct fs) => (match fs[i]? with
    | some f => Nat.beq f.offset off && Nat.beq f.type u
    | none => false)
  | _ => false
def slcB (P : Program) (t size : Nat) : Bool :=
  match P.underlying t with
  | some (.slice e) => (match P.info? e with | some i => Nat.beq i.size size | none => false)
  | _ => false
def arrB (P : Program) (t len size : Nat) : Bool :=
  match P.underlying t with
  | some (.array n e) => Nat.beq n len && (match P.info? e with | some i => Nat.beq i.size size | none => false)
  | _ => false
def strB (P : Program) (t : Nat) : Bool := match P.underlying t with | some .string => true | _ => false
def intB (P : Program) (t : Nat) (k : IntKind) : Bool := match P.underlying t with | some (.int k') => decide (k = k') | _ => false
def ptrB (P : Program) (t : Nat) : Bool := match P.underlying t with | some (.pointer _) => true | _ => false
def ifcB (P : Program) (t : Nat) : Bool := match P.underlying t with | some (.interface _) => true | _ => false
def NilI (v : Value) (b : Bool) : Prop := (v = .nilIface ∧ b = true) ∨ ((∃ u y, v = .iface u y) ∧ b = false)
def funcB (P : Program) (t : Nat) : Bool := match P.underlying t with | some (.func ..) => true | _ => false
def NilF (v : Value) (b : Bool) : Prop := (v = .nilFunc ∧ b = true) ∨ ((∃ f x y, v = .func f x y) ∧ b = false)
def isMapB (P : Program) (t : Nat) : Bool := match P.underlying t with | some (.map _ _) => true | _ => false
def isSlcB (P : Program) (t : Nat) : Bool := match P.underlying t with | some (.slice _) => true | _ => false
def notIfaceB (P : Program) (t : Nat) : Bool := match P.underlying t with | some (.interface _) => false | some _ => true | none => false
def someB (P : Program) (t : Nat) : Bool := match P.underlying t with | some _ => true | none => false
end Go.Vc

namespace Go.Vc
open Go

section
variable {P : Program} {ops : Array Oper} {Q : Exit → Act → World → Prop} {rest : List Oper} {a : Act} {w w' : World} {n : Nat} {ds : List Deferred} {L : List (Nat × Value)}
  {d : Nat} {ty : TypeId} {pos : String} {af : Array Edge} {g : Option (Nat × Bool)}

theorem s_run {o : Oper} {v : Value} (H : Has n ds a L) (hw : Region.wanted o (yielded ops a.tmps) = true) (hdst : o.dst = some d) (hd : d < n)
    (hr : (execOp a.eval o).run P w = .ok (.value v) w') (k : ∀ a, Has n ds a ((d, v) :: L) → wpList P ops Q rest a w') : wpList P ops Q (o :: rest) a w := by
  unfold wpList
  rw [if_pos hw]
  refine .inl ?_
  unfold Oper.wp
  rw [hr, Oper.upon_value, hdst]
  exact k _ (H.put hd v)
theorem s_run0 {o : Oper} (H : Has n ds a L) (hw : Region.wanted o (yielded ops a.tmps) = true) (hdst : o.dst = none)
    (hr : (execOp a.eval o).run P w = .ok .skip w') (k : Has n ds a L → wpList P ops Q rest a w') : wpList P ops Q (o :: rest) a w := by
  unfold wpList
  rw [if_pos hw]
  refine .inl ?_
  unfold Oper.wp
  rw [hr, Oper.upon_skip, hdst]
  exact k H
theorem s_skip {o : Oper} (H : Has n ds a L) (hw : Region.wanted o (yielded ops a.tmps) = false) (hdst : o.dst = some d) (hd : d < n)
    (k : ∀ a, Has n ds a ((d, undef) :: L) → wpList P ops Q rest a w) : wpList P ops Q (o :: rest) a w := by
  unfold wpList
  rw [if_neg (by rw [hw]; simp), hdst]
  exact k _ (H.put hd _)
theorem s_skip0 {o : Oper} (H : Has n ds a L) (hw : Region.wanted o (yielded ops a.tmps) = false) (hdst : o.dst = none)
    (k : Has n ds a L → wpList P ops Q rest a w) : wpList P ops Q (o :: rest) a w := by
  unfold wpList
  rw [if_neg (by rw [hw]; simp), hdst]
  exact k H
theorem wantG {j t : Nat} {b : Bool} {dst : Option Tmp} {op : Op} (H : Has n ds a L) (ht : (ops[j]?).bind (·.dst) = some t) (hb : Env.get L t = some (.bool b)) :
    Region.wanted ⟨dst, op, ty, pos, af, some (j, b)⟩ (yielded ops a.tmps) = true := by
  have h := H.get t _ hb
  have e : yielded ops a.tmps j = some b := by
    unfold yielded
    rw [ht]
    simp only [Option.bind_some, h]
  simp [Region.wanted, e]
theorem wantN {j t : Nat} {b c : Bool} {dst : Option Tmp} {op : Op} (H : Has n ds a L) (ht : (ops[j]?).bind (·.dst) = some t) (hb : Env.get L t = some (.bool b)) (hc : b = !c) :
    Region.wanted ⟨dst, op, ty, pos, af, some (j, c)⟩ (yielded ops a.tmps) = false := by
  have h := H.get t _ hb
  have e : yielded ops a.tmps j = some b := by
    unfold yielded
    rw [ht]
    simp only [Option.bind_some, h]
  subst hc
  cases c <;> simp [Region.wanted, e]


section laws
variable {x y z : Operand} {v vx vy : Value} {t : TypeId} {p : Addr} {w1 : World}
theorem s_move (H : Has n ds a L) (hw : Region.wanted ⟨some d, .move x, ty, pos, af, g⟩ (yielded ops a.tmps) = true) (hx : ev L x = some v) (hd : d < n)
    (k : ∀ a, Has n ds a ((d, v) :: L) → wpList P ops Q rest a w) : wpList P ops Q (⟨some d, .move x, ty, pos, af, g⟩ :: rest) a w :=
  s_run H hw rfl hd (by rw [← H.eval hx]; rfl) k

theorem s_assign (H : Has n ds a L) (hw : Region.wanted ⟨some d, .assign x, ty, pos, af, g⟩ (yielded ops a.tmps) = true) (hx : ev L x = some v) (hd : d < n)
    (k : ∀ a, Has n ds a ((d, v) :: L) → wpList P ops Q rest a w) : wpList P ops Q (⟨some d, .assign x, ty, pos, af, g⟩ :: rest) a w :=
  s_run H hw rfl hd (by rw [← H.eval hx]; rfl) k

def RB (P : Program) (bo : BinOp) (t : TypeId) (x y : Operand) (vx vy v : Value) : Prop := ∀ w, (do eqGuard bo t x y vx vy; binOp bo t vx vy : Sem Value).run P w = .ok v w

theorem s_bin {bo : BinOp} {u : TypeId} (H : Has n ds a L) (hw : Region.wanted ⟨some d, .binOp bo t x y u, ty, pos, af, g⟩ (yielded ops a.tmps) = true) (hx : ev L x = some vx) (hy : ev L y = some vy) (hr : RB P bo t x y vx vy v) (hd : d < n)
    (k : ∀ a, Has n ds a ((d, v) :: L) → wpList P ops Q rest a w) : wpList P ops Q (⟨some d, .binOp bo t x y u, ty, pos, af, g⟩ :: rest) a w :=
  s_run H hw rfl hd (by have e := hr w; simp only [execOp, H.eval hx, H.eval hy]; rw [Sem.run_bind, e]; rfl) k

theorem s_cv {u : TypeId} (H : Has n ds a L) (hw : Region.wanted ⟨some d, .convert t u x, ty, pos, af, g⟩ (yielded ops a.tmps) = true) (hx : ev L x = some vx) (hr : (convert t u vx).run P w = .ok v w1) (hd : d < n)
    (k : ∀ a, Has n ds a ((d, v) :: L) → wpList P ops Q rest a w1) : wpList P ops Q (⟨some d, .convert t u x, ty, pos, af, g⟩ :: rest) a w :=
  s_run H hw rfl hd (by simp [execOp, H.eval hx, hr]) k

theorem s_lkp {c : Bool} (H : Has n ds a L) (hw : Region.wanted ⟨some d, .lookup t x y c, ty, pos, af, g⟩ (yielded ops a.tmps) = true) (hx : ev L x = some vx) (hy : ev L y = some vy) (hr : (Instr.lookup t vx vy c).run P w = .ok v w) (hd : d < n)
    (k : ∀ a, Has n ds a ((d, v) :: L) → wpList P ops Q rest a w) : wpList P ops Q (⟨some d, .lookup t x y c, ty, pos, af, g⟩ :: rest) a w :=
  s_run H hw rfl hd (by simp [execOp, H.eval hx, H.eval hy, hr]) k
def Tas (P : Program) (t u : TypeId) (c : Bool) (x : Value) (K : Value → Prop) : Prop := ∃ v, (∀ w, (Instr.typeAssert x t u c).run P w = .ok v w) ∧ K v
theorem s_mup {z : Operand} {vz : Value} (H : Has n ds a L) (hw : Region.wanted ⟨none, .mapUpdate t x y z, ty, pos, af, g⟩ (yielded ops a.tmps) = true) (hx : ev L x = some vx) (hy : ev L y = some vy) (hz : ev L z = some vz) (hr : (Instr.mapUpdate t vx vy vz).run P w = .ok () w1)
    (k : Has n ds a L → wpList P ops Q rest a w1) : wpList P ops Q (⟨none, .mapUpdate t x y z, ty, pos, af, g⟩ :: rest) a w :=
  s_run0 H hw rfl (by simp [execOp, H.eval hx, H.eval hy, H.eval hz, hr]) k
theorem s_ins {z : Operand} {vz : Value} (H : Has n ds a L) (hw : Region.wanted ⟨none, .insert t x y z, ty, pos, af, g⟩ (yielded ops a.tmps) = true) (hx : ev L x = some vx) (hy : ev L y = some vy) (hz : ev L z = some vz) (hr : (Instr.mapUpdate t vx vy vz).run P w = .ok () w1)
    (k : Has n ds a L → wpList P ops Q rest a w1) : wpList P ops Q (⟨none, .insert t x y z, ty, pos, af, g⟩ :: rest) a w :=
  s_run0 H hw rfl (by simp [execOp, H.eval hx, H.eval hy, H.eval hz, hr]) k
theorem s_mkm (H : Has n ds a L) (hw : Region.wanted ⟨some d, .makeMap t none, ty, pos, af, g⟩ (yielded ops a.tmps) = true) (hr : (Instr.makeMap t none).run P w = .ok v w1) (hd : d < n)
    (k : ∀ a, Has n ds a ((d, v) :: L) → wpList P ops Q rest a w1) : wpList P ops Q (⟨some d, .makeMap t none, ty, pos, af, g⟩ :: rest) a w :=
  s_run H hw rfl hd (by simp [execOp, hr]) k
theorem s_rng (H : Has n ds a L) (hw : Region.wanted ⟨some d, .range t x, ty, pos, af, g⟩ (yielded ops a.tmps) = true) (hx : ev L x = some vx) (hr : (Instr.range t vx).run P w = .ok v w1) (hd : d < n)
    (k : ∀ a, Has n ds a ((d, v) :: L) → wpList P ops Q rest a w1) : wpList P ops Q (⟨some d, .range t x, ty, pos, af, g⟩ :: rest) a w :=
  s_run H hw rfl hd (by simp [execOp, H.eval hx, hr]) k
theorem s_nxt {c : Bool} (H : Has n ds a L) (hw : Region.wanted ⟨some d, .next x c, ty, pos, af, g⟩ (yielded ops a.tmps) = true) (hx : ev L x = some vx) (hr : (Instr.next vx c ty).run P w = .ok v w1) (hd : d < n)
    (k : ∀ a, Has n ds a ((d, v) :: L) → wpList P ops Q rest a w1) : wpList P ops Q (⟨some d, .next x c, ty, pos, af, g⟩ :: rest) a w :=
  s_run H hw rfl hd (by simp [execOp, H.eval hx, hr]) k
theorem s_etr (H : Has n ds a L) (hw : Region.wanted ⟨some d, .entry x, ty, pos, af, g⟩ (yielded ops a.tmps) = true) (hx : ev L x = some vx) (hr : (Instr.entry vx).run P w = .ok v w) (hd : d < n)
    (k : ∀ a, Has n ds a ((d, v) :: L) → wpList P ops Q rest a w) : wpList P ops Q (⟨some d, .entry x, ty, pos, af, g⟩ :: rest) a w :=
  s_run H hw rfl hd (by simp [execOp, H.eval hx, hr]) k
theorem s_nil (H : Has n ds a L) (hw : Region.wanted ⟨some d, .nilCheck x, ty, pos, af, g⟩ (yielded ops a.tmps) = true) (hx : ev L x = some (.pointer (some p))) (hd : d < n)
    (k : ∀ a, Has n ds a ((d, (.pointer (some p))) :: L) → wpList P ops Q rest a w) : wpList P ops Q (⟨some d, .nilCheck x, ty, pos, af, g⟩ :: rest) a w :=
  s_run H hw rfl hd (by simp [execOp, H.eval hx]) k

theorem run_load1 (h1 : oneB P t = true) (hc : w.cell? p = some v) : (loadVar t p).run P w = .ok v w := by
  unfold oneB at h1
  cases hu : P.underlying t with
  | none => simp [hu] at h1
  | some u =>
    have hagg : (isAgg t).run P w = .ok false w := by
      unfold isAgg
      rw [Sem.run_bind, run_underlying hu w]
      cases u <;> simp_all
    simp [loadVar, Sem.run_bind, hagg, load, Sem.run, hc]

theorem s_load (H : Has n ds a L) (hw : Region.wanted ⟨some d, .load t x, ty, pos, af, g⟩ (yielded ops a.tmps) = true) (hx : ev L x = some (.pointer (some p))) (h1 : oneB P t = true) (hc : w.cell? p = some v) (hd : d < n)
    (k : ∀ a, Has n ds a ((d, v) :: L) → wpList P ops Q rest a w) : wpList P ops Q (⟨some d, .load t x, ty, pos, af, g⟩ :: rest) a w :=
  s_run H hw rfl hd (by simp [execOp, H.eval hx, Instr.loadAt, Instr.sureAddr, run_load1 h1 hc]) k

def Cells (w : World) (p : Addr) : Nat → List Value → Prop
  | _, [] => True
  | i, v :: r => w.cell? (p.add i) = some v ∧ Cells w p (i + 1) r
theorem run_loadFrom (l : List Value) : ∀ (i : Nat) (acc : Array Value), Cells w p i l → (loadCellsFrom p i l.length acc).run P w = .ok (acc ++ l.toArray) w := by
  induction l with
  | nil => intro i acc _; simp [loadCellsFrom]
  | cons v r ih =>
    intro i acc h
    obtain ⟨h1, h2⟩ := h
    simp only [List.length_cons, loadCellsFrom, Sem.run_bind, load, Sem.run, h1, Result.andThen_ok]
    rw [ih (i + 1) _ h2]
    simp
theorem run_loadN {l : List Value} {m : Nat} (h1 : aggB P t m = true) (hm : l.length = m) (hc : Cells w p 0 l) : (loadVar t p).run P w = .ok (.agg l.toArray) w := by
  unfold aggB at h1
  simp only [Bool.and_eq_true] at h1
  obtain ⟨h1, h2⟩ := h1
  cases hu : P.underlying t with
  | none => simp [hu] at h1
  | some u =>
    have hagg : (isAgg t).run P w = .ok true w := by
      unfold isAgg
      rw [Sem.run_bind, run_underlying hu w]
      cases u <;> simp_all
    cases hi : P.info? t with
    | none => simp [hi] at h2
    | some i =>
      have hs : i.size = l.length := by rw [hm]; simpa [hi] using Nat.eq_of_beq_eq_true (by simpa [hi] using h2)
      have hl := run_loadFrom (P := P) l 0 #[] hc
      simp only [loadVar, Sem.run_bind, hagg, Result.andThen_ok, if_true, sizeOf, typeInfo, program, Sem.run, hi, Sem.run_pure, hs, loadCells, hl]
      simp

theorem run_field {i off : Nat} (h : fldB P t i off = true) : (Instr.fieldAt t (.pointer (some p)) i).run P w = .ok (.pointer (some (p.add off))) w := by
  unfold fldB at h
  cases hu : P.underlying t with
  | none => simp [hu] at h
  | some u =>
    cases u <;> simp only [hu] at h <;> first | (exact absurd h Bool.false_ne_true) | skip
    rename_i fs
    cases hf : fs[i]? with
    | none => simp [hf] at h
    | some f =>
      simp only [hf] at h
      cases hi : P.info? f.type with
      | none => simp [hi] at h
      | some j =>
        simp only [hi, Bool.and_eq_true, Bool.not_eq_true'] at h
        have e1 := Nat.eq_of_beq_eq_true h.1
        have e2 : j.size ≠ 0 := fun e => by rw [e] at h; exact absurd h.2 (by decide)
        simp [Instr.fieldAt, run_underlying hu, hf, Instr.sureAddr, fieldPlace, sizeOf, typeInfo, program, Sem.run, hi, e1, e2]

theorem s_fld {i off : Nat} (H : Has n ds a L) (hw : Region.wanted ⟨some d, .fieldAddr t x i, ty, pos, af, g⟩ (yielded ops a.tmps) = true) (hx : ev L x = some (.pointer (some p))) (h1 : fldB P t i off = true) (hd : d < n)
    (k : ∀ a, Has n ds a ((d, (.pointer (some (p.add off)))) :: L) → wpList P ops Q rest a w) : wpList P ops Q (⟨some d, .fieldAddr t x i, ty, pos, af, g⟩ :: rest) a w :=
  s_run H hw rfl hd (by simp [execOp, H.eval hx, run_field h1]) k

theorem run_idxS {s : Slc} {i : Int} {k : IntKind} {size : Nat} (h : slcB P t size = true) (ha : s.a = some p) (h0 : 0 ≤ i) (h1 : i < s.l) :
    (Instr.indexAt t s.v (.int k i)).run P w = .ok (.pointer (some (p.add (i.toNat * size)))) w := by
  unfold slcB at h
  cases hu : P.underlying t with
  | none => simp [hu] at h
  | some u =>
    cases u <;> simp only [hu] at h <;> first | (exact absurd h Bool.false_ne_true) | skip
    rename_i e
    cases hi : P.info? e with
    | none => simp [hi] at h
    | some j =>
      simp only [hi] at h
      have e1 := Nat.eq_of_beq_eq_true h
      simp [Instr.indexAt, asIntOf, run_underlying hu, ha, h0, h1, sizeOf, typeInfo, program, Sem.run, hi, e1]
theorem run_idxA {i : Int} {k : IntKind} {len size : Nat} (h : arrB P t len size = true) (h0 : 0 ≤ i) (h1 : i < len) :
    (Instr.indexAt t (.pointer (some p)) (.int k i)).run P w = .ok (.pointer (some (p.add (i.toNat * size)))) w := by
  unfold arrB at h
  cases hu : P.underlying t with
  | none => simp [hu] at h
  | some u =>
    cases u <;> simp only [hu] at h <;> first | (exact absurd h Bool.false_ne_true) | skip
    rename_i n e
    simp only [Bool.and_eq_true] at h
    obtain ⟨h2, h⟩ := h
    have e0 := Nat.eq_of_beq_eq_true h2
    subst e0
    cases hi : P.info? e with
    | none => simp [hi] at h
    | some j =>
      simp only [hi] at h
      have e1 := Nat.eq_of_beq_eq_true h
      simp [Instr.indexAt, asIntOf, run_underlying hu, Instr.sureAddr, h0, h1, sizeOf, typeInfo, program, Sem.run, hi, e1]

theorem run_idxStr {s : ByteArray} {i : Int} {k : IntKind} (h : strB P t = true) (h0 : 0 ≤ i) (h1 : i < s.size) :
    (Instr.index t (.string s) (.int k i)).run P w = .ok (.int .u8 (byteAt s i)) w := by
  unfold strB at h
  cases hu : P.underlying t with
  | none => simp [hu] at h
  | some u =>
    cases u <;> simp only [hu] at h <;> first | (exact absurd h Bool.false_ne_true) | skip
    have hlt : i.toNat < s.data.size := by have : s.data.size = s.size := rfl; omega
    have e : s[i.toNat]? = some s.data[i.toNat] := by
      show (if h : i.toNat < s.size then some _ else none) = _
      rw [dif_pos (by have : s.data.size = s.size := rfl; omega)]; rfl
    simp [Instr.index, asIntOf, run_underlying hu, h0, e, byteAt, Array.getElem?_eq_getElem hlt]

theorem s_box (H : Has n ds a L) (hw : Region.wanted ⟨some d, .box t x, ty, pos, af, g⟩ (yielded ops a.tmps) = true) (hx : ev L x = some v) (hd : d < n)
    (k : ∀ a, Has n ds a ((d, (.pointer (some ⟨w.heap.size, 0, none⟩))) :: L) → wpList P ops Q rest a (w.alloc (.cells v.cells t))) : wpList P ops Q (⟨some d, .box t x, ty, pos, af, g⟩ :: rest) a w :=
  s_run H hw rfl hd (by simp [execOp, H.eval hx, Instr.box, newVar, newRow, newObj, Sem.run]) k

def zeroB (P : Program) (t : TypeId) (v : Value) : Prop := (P.info? t).bind (·.zero) = some v
theorem run_zero (h : zeroB P t v) : (zeroValue t).run P w = .ok v w := by
  unfold zeroB at h
  cases hi : P.info? t with
  | none => simp [hi] at h
  | some i =>
    simp only [hi, Option.bind_some] at h
    simp [zeroValue, typeInfo, program, Sem.run, hi, h]

theorem s_alloc (H : Has n ds a L) (hw : Region.wanted ⟨some d, .alloc t, ty, pos, af, g⟩ (yielded ops a.tmps) = true) (hz : zeroB P t v) (hd : d < n)
    (k : ∀ a, Has n ds a ((d, (.pointer (some ⟨w.heap.size, 0, none⟩))) :: L) → wpList P ops Q rest a (w.alloc (.cells v.cells t))) : wpList P ops Q (⟨some d, .alloc t, ty, pos, af, g⟩ :: rest) a w :=
  s_run H hw rfl hd (by simp [execOp, Instr.alloc, run_zero hz, newVar, newRow, newObj, Sem.run]) k

theorem s_ext {vs : Array Value} {i : Nat} (H : Has n ds a L) (hw : Region.wanted ⟨some d, .extract x i, ty, pos, af, g⟩ (yielded ops a.tmps) = true) (hx : ev L x = some (.tuple vs)) (hv : vs[i]? = some v) (hd : d < n)
    (k : ∀ a, Has n ds a ((d, v) :: L) → wpList P ops Q rest a w) : wpList P ops Q (⟨some d, .extract x i, ty, pos, af, g⟩ :: rest) a w :=
  s_run H hw rfl hd (by simp [execOp, H.eval hx, Instr.extract, hv]) k

def partB (P : Program) (t i off m : Nat) : Bool :=
  match P.underlying t with
  | some (.struct fs) => (match fs[i]? with
    | some f => Nat.beq f.offset off && (bif Nat.beq m 0 then oneB P f.type else aggB P f.type m)
    | none => false)
  | _ => false
theorem isAgg_one (h : oneB P t = true) : (isAgg t).run P w = .ok false w := by
  unfold oneB at h
  cases hu : P.underlying t with
  | none => simp [hu] at h
  | some u =>
    unfold isAgg
    rw [Sem.run_bind, run_underlying hu w]
    cases u <;> simp_all
theorem isAgg_agg {m : Nat} (h : aggB P t m = true) : (isAgg t).run P w = .ok true w ∧ (sizeOf t).run P w = .ok m w := by
  unfold aggB at h
  simp only [Bool.and_eq_true] at h
  obtain ⟨h1, h2⟩ := h
  cases hu : P.underlying t with
  | none => simp [hu] at h1
  | some u =>
    cases hi : P.info? t with
    | none => simp [hi] at h2
    | some i =>
      have hs : i.size = m := Nat.eq_of_beq_eq_true (by simpa [hi] using h2)
      refine ⟨?_, by simp [sizeOf, typeInfo, program, Sem.run, hi, hs]⟩
      unfold isAgg
      rw [Sem.run_bind, run_underlying hu w]
      cases u <;> simp_all
theorem run_part1 {cs : Array Value} {i off : Nat} (h : partB P t i off 0 = true) (hv : cs[off]? = some v) : (Instr.field t (.agg cs) i).run P w = .ok v w := by
  unfold partB at h
  cases hu : P.underlying t with
  | none => simp [hu] at h
  | some u =>
    cases u <;> simp only [hu] at h <;> first | (exact absurd h Bool.false_ne_true) | skip
    rename_i fs
    cases hf : fs[i]? with
    | none => simp [hf] at h
    | some f =>
      simp only [hf, Bool.and_eq_true] at h
      have e1 := Nat.eq_of_beq_eq_true h.1
      have e2 : oneB P f.type = true := h.2
      simp [Instr.field, run_underlying hu, hf, asAgg, part, isAgg_one e2, e1, hv]
theorem run_partN {cs : Array Value} {i off m : Nat} (h : partB P t i off (m + 1) = true) : (Instr.field t (.agg cs) i).run P w = .ok (.agg (cs.extract off (off + (m + 1)))) w := by
  unfold partB at h
  cases hu : P.underlying t with
  | none => simp [hu] at h
  | some u =>
    cases u <;> simp only [hu] at h <;> first | (exact absurd h Bool.false_ne_true) | skip
    rename_i fs
    cases hf : fs[i]? with
    | none => simp [hf] at h
    | some f =>
      simp only [hf, Bool.and_eq_true] at h
      have e1 := Nat.eq_of_beq_eq_true h.1
      have e2 : aggB P f.type (m + 1) = true := h.2
      obtain ⟨e3, e4⟩ := isAgg_agg (w := w) e2
      simp [Instr.field, run_underlying hu, hf, asAgg, part, e3, e4, e1]

theorem run_size1 (h : oneB P t = true) : (sizeOf t).run P w = .ok 1 w := by
  unfold oneB at h
  simp only [Bool.and_eq_true] at h
  cases hi : P.info? t with
  | none => simp [hi] at h
  | some i =>
    have hs : i.size = 1 := Nat.eq_of_beq_eq_true (by simpa [hi] using h.2)
    simp [sizeOf, typeInfo, program, Sem.run, hi, hs]
def Value.flat : Value → Bool
  | .agg _ | .tuple _ => false
  | _ => true
theorem run_store1 (hv : Value.flat v = true) (hc : (w.cell? p).isSome = true) (hf : w.frozen? p = false) : (store p v).run P w = .ok () (w.setCell p v) := by
  obtain ⟨u, hu⟩ := Option.isSome_iff_exists.1 hc
  cases v <;> first | (simp [Value.flat] at hv; done) | simp [store, Sem.run, hu, hf]
theorem run_storeVar1 (h1 : oneB P t = true) (hv : Value.flat v = true) (hc : (w.cell? p).isSome = true) (hf : w.frozen? p = false) : (storeVar t p v).run P w = .ok () (w.setCell p v) := by
  have e : v.cells = #[v] := by cases v <;> first | (simp [Value.flat] at hv; done) | rfl
  have hs := run_store1 (P := P) hv hc hf
  simp [storeVar, e, run_size1 h1, storeCells, hs, Addr.add_zero']
theorem s_sto {dst : Option Tmp} (H : Has n ds a L) (hw : Region.wanted ⟨dst, .store t x y, ty, pos, af, g⟩ (yielded ops a.tmps) = true) (hdst : dst = none) (hx : ev L x = some (.pointer (some p))) (hy : ev L y = some v) (h1 : oneB P t = true) (hv : Value.flat v = true)
    (hs : (w.cell? p).isSome = true) (hf : w.frozen? p = false) (k : Has n ds a L → wpList P ops Q rest a (w.setCell p v)) : wpList P ops Q (⟨dst, .store t x y, ty, pos, af, g⟩ :: rest) a w :=
  s_run0 H hw hdst (by simp [execOp, H.eval hx, H.eval hy, Instr.storeAt, Instr.sureAddr, run_storeVar1 h1 hv hs hf]) k
def StoN (p : Addr) : Nat → List Value → World → (World → Prop) → Prop
  | _, [], w, K => K w
  | i, v :: r, w, K => (w.cell? (p.add i)).isSome = true ∧ w.frozen? (p.add i) = false ∧ StoN p (i + 1) r (w.setCell (p.add i) v) K
theorem run_stoN (l : List Value) : ∀ (i : Nat) (w : World) (K : World → Prop), (l.all Value.flat) = true → StoN p i l w K → ∃ w', (storeCells p l i).run P w = .ok () w' ∧ K w' := by
  induction l with
  | nil => intro i w K _ h; exact ⟨w, by simp [storeCells], h⟩
  | cons v r ih =>
    intro i w K hl h
    obtain ⟨h1, h2, h3⟩ := h
    simp only [List.all_cons, Bool.and_eq_true] at hl
    obtain ⟨w', hr, hk⟩ := ih (i + 1) _ K hl.2 h3
    exact ⟨w', by simp only [storeCells, Sem.run_bind, run_store1 (P := P) hl.1 h1 h2, Result.andThen_ok, hr], hk⟩
theorem s_stoN {dst : Option Tmp} {l : List Value} {m : Nat} (H : Has n ds a L) (hw : Region.wanted ⟨dst, .store t x y, ty, pos, af, g⟩ (yielded ops a.tmps) = true) (hdst : dst = none) (hx : ev L x = some (.pointer (some p))) (hy : ev L y = some (.agg l.toArray)) (h1 : aggB P t m = true) (hm : l.length = m) (hv : l.all Value.flat = true)
    {K : World → Prop} (hs : StoN p 0 l w K) (k : ∀ w', K w' → Has n ds a L → wpList P ops Q rest a w') : wpList P ops Q (⟨dst, .store t x y, ty, pos, af, g⟩ :: rest) a w := by
  obtain ⟨w', hr, hk⟩ := run_stoN (P := P) l 0 w K hv hs
  obtain ⟨_, e4⟩ := isAgg_agg (w := w) h1
  refine s_run0 H hw hdst ?_ (k w' hk)
  simp [execOp, H.eval hx, H.eval hy, Instr.storeAt, Instr.sureAddr, storeVar, Value.cells, e4, hm, hr]

theorem s_bslc {len e : Nat} {parts : Array (Nat × Operand)} {cs : Array Value} (H : Has n ds a L) (hw : Region.wanted ⟨some d, .buildSlice t len parts, ty, pos, af, g⟩ (yielded ops a.tmps) = true) (hr : (Instr.buildSlice t len (parts.map fun (i, x) => (i, a.eval x))).run P w = .ok (.slice (some ⟨w.heap.size, 0, none⟩) len len) (w.alloc (.cells cs e))) (hd : d < n)
    (k : ∀ a, Has n ds a ((d, (.slice (some ⟨w.heap.size, 0, none⟩) len len)) :: L) → wpList P ops Q rest a (w.alloc (.cells cs e))) : wpList P ops Q (⟨some d, .buildSlice t len parts, ty, pos, af, g⟩ :: rest) a w :=
  s_run H hw rfl hd (by simp [execOp]; simp [hr]) k

theorem s_mk {s : Slc} (H : Has n ds a L) (hw : Region.wanted ⟨some d, .makeSlice t x y, ty, pos, af, g⟩ (yielded ops a.tmps) = true) (hx : ev L x = some vx) (hy : ev L y = some vy) (hr : (Instr.makeSlice t vx vy).run P w = .ok s.v w1) (hd : d < n)
    (k : ∀ a, Has n ds a ((d, s.v) :: L) → wpList P ops Q rest a w1) : wpList P ops Q (⟨some d, .makeSlice t x y, ty, pos, af, g⟩ :: rest) a w :=
  s_run H hw rfl hd (by simp [execOp, H.eval hx, H.eval hy, hr]) k

def bodyB (P : Program) (f : FuncId) : Bool := match P.funcs[f]? with | some fn => fn.body.isSome && !(fn.name == "runtime.NumGoroutine") | none => false
theorem run_callFunc {f : FuncId} {args : Array Value} (h : bodyB P f = true) : (callFunc f args).run P w = .ok (.enter f args) w := by
  unfold bodyB at h
  cases hf : P.funcs[f]? with
  | none => simp [hf] at h
  | some fn =>
    simp only [hf, Bool.and_eq_true, Bool.not_eq_true'] at h
    have hb : fn.body.isNone = false := by cases hb : fn.body <;> simp_all
    simp only [callFunc, program, Sem.run_bind, Sem.run, Result.andThen_ok, hf, h.2, hb, Bool.false_eq_true, if_false, Sem.run_pure]
theorem s_call {f : FuncId} {as : Array Operand} {ats : Array TypeId} {args : Array Value} {K : Value → World → Prop} {Kp : List PanicEntry → World → Prop} (H : Has n ds a L)
    (hw : Region.wanted ⟨some d, .call ⟨.value (.func f), as, ats⟩, ty, pos, af, g⟩ (yielded ops a.tmps) = true) (hb : bodyB P f = true) (ha : as.map a.eval = args) (hd : d < n)
    (hc : Calls P f args w (CallK K Kp)) (k : ∀ v w' a, K v w' → Has n ds a ((d, v) :: L) → wpList P ops Q rest a w') (kp : ∀ c w', Kp c w' → Has n ds a L → Q (.panic c) a w') :
    wpList P ops Q (⟨some d, .call ⟨.value (.func f), as, ats⟩, ty, pos, af, g⟩ :: rest) a w := by
  unfold wpList
  rw [if_pos hw]
  refine .inl ?_
  unfold Oper.wp
  have hr : (execOp a.eval ⟨some d, .call ⟨.value (.func f), as, ats⟩, ty, pos, af, g⟩).run P w = .ok (.enter f args) w := by
    have e : #[] ++ as.map a.eval ++ #[] = args := by simpa using ha
    simp only [execOp, resolve, Act.eval, Deferred.ofValue, Sem.run_bind, Sem.run_pure, Result.andThen_ok, invoke]
    rw [e]
    exact run_callFunc hb
  rw [hr, Oper.upon_enter]
  refine hc.mono ?_
  rintro (v | c | _) w' h
  · exact k v w' _ h (H.put hd v)
  · exact kp c w' h H
  · exact h.elim
def CallV (P : Program) (fv : Value) (args : Array Value) (w : World) (R : Ending → World → Prop) : Prop := ∃ f cap, fv = .func (.func f) #[] cap ∧ bodyB P f = true ∧ Calls P f (args ++ cap) w R
theorem s_callV {x : Operand} {fv : Value} {as : Array Operand} {ats : Array TypeId} {args : Array Value} {K : Value → World → Prop} {Kp : List PanicEntry → World → Prop} (H : Has n ds a L)
    (hw : Region.wanted ⟨some d, .call ⟨.value x, as, ats⟩, ty, pos, af, g⟩ (yielded ops a.tmps) = true) (hx : ev L x = some fv) (ha : as.map a.eval = args) (hd : d < n)
    (hc : CallV P fv args w (CallK K Kp)) (k : ∀ v w' a, K v w' → Has n ds a ((d, v) :: L) → wpList P ops Q rest a w') (kp : ∀ c w', Kp c w' → Has n ds a L → Q (.panic c) a w') :
    wpList P ops Q (⟨some d, .call ⟨.value x, as, ats⟩, ty, pos, af, g⟩ :: rest) a w := by
  obtain ⟨f, cap, rfl, hb, hc⟩ := hc
  unfold wpList
  rw [if_pos hw]
  refine .inl ?_
  unfold Oper.wp
  have hr : (execOp a.eval ⟨some d, .call ⟨.value x, as, ats⟩, ty, pos, af, g⟩).run P w = .ok (.enter f (args ++ cap)) w := by
    have e : #[] ++ as.map a.eval ++ cap = args ++ cap := by rw [ha]; simp
    simp only [execOp, resolve, H.eval hx, Deferred.ofValue, Sem.run_bind, Sem.run_pure, Result.andThen_ok, invoke]
    rw [e]
    exact run_callFunc hb
  rw [hr, Oper.upon_enter]
  refine hc.mono ?_
  rintro (v | c | _) w' h
  · exact k v w' _ h (H.put hd v)
  · exact kp c w' h H
  · exact h.elim
theorem s_callV0 {x : Operand} {fv : Value} {as : Array Operand} {ats : Array TypeId} {args : Array Value} {K : Value → World → Prop} {Kp : List PanicEntry → World → Prop} (H : Has n ds a L)
    (hw : Region.wanted ⟨none, .call ⟨.value x, as, ats⟩, ty, pos, af, g⟩ (yielded ops a.tmps) = true) (hx : ev L x = some fv) (ha : as.map a.eval = args)
    (hc : CallV P fv args w (CallK K Kp)) (k : ∀ v w', K v w' → Has n ds a L → wpList P ops Q rest a w') (kp : ∀ c w', Kp c w' → Has n ds a L → Q (.panic c) a w') :
    wpList P ops Q (⟨none, .call ⟨.value x, as, ats⟩, ty, pos, af, g⟩ :: rest) a w := by
  obtain ⟨f, cap, rfl, hb, hc⟩ := hc
  unfold wpList
  rw [if_pos hw]
  refine .inl ?_
  unfold Oper.wp
  have hr : (execOp a.eval ⟨none, .call ⟨.value x, as, ats⟩, ty, pos, af, g⟩).run P w = .ok (.enter f (args ++ cap)) w := by
    have e : #[] ++ as.map a.eval ++ cap = args ++ cap := by rw [ha]; simp
    simp only [execOp, resolve, H.eval hx, Deferred.ofValue, Sem.run_bind, Sem.run_pure, Result.andThen_ok, invoke]
    rw [e]
    exact run_callFunc hb
  rw [hr, Oper.upon_enter]
  refine hc.mono ?_
  rintro (v | c | _) w' h
  · exact k v w' h H
  · exact kp c w' h H
  · exact h.elim
def CallI (P : Program) (v : Value) (name : String) (args : Array Value) (w : World) (R : Ending → World → Prop) : Prop :=
  ∃ t x f r, v = .iface t x ∧ (∀ w, (method (P.types.size + Made.depth) t x name).run P w = .ok (f, r) w) ∧ bodyB P f = true ∧ Calls P f (#[r] ++ args) w R
theorem run_callI {as : Array Operand} {ats : Array TypeId} {args : Array Value} {nm : String} {x : Operand} {dst : Option Tmp} {t : TypeId} {u : Value} {f : FuncId} {r : Value} (H : Has n ds a L)
    (hx : ev L x = some (.iface t u)) (ha : as.map a.eval = args) (hm : ∀ w, (method (P.types.size + Made.depth) t u nm).run P w = .ok (f, r) w) (hb : bodyB P f = true) :
    (execOp a.eval ⟨dst, .call ⟨.invoke x nm, as, ats⟩, ty, pos, af, g⟩).run P w = .ok (.enter f (#[r] ++ args)) w := by
  have e : (#[Value.iface t u] ++ as.map a.eval)[0]? = some (.iface t u) := by rw [Array.getElem?_append_left (by simp)]; rfl
  have e2 : (#[Value.iface t u] ++ as.map a.eval).extract 1 (#[Value.iface t u] ++ as.map a.eval).size = args := by rw [ha]; simp
  simp only [execOp, resolve, H.eval hx, Sem.run_bind, Sem.run_pure, Result.andThen_ok, invoke, e, e2, callMethod, show ∀ w, (program).run P w = .ok P w from fun _ => rfl, hm]
  exact run_callFunc hb
theorem s_callI {x : Operand} {fv : Value} {nm : String} {as : Array Operand} {ats : Array TypeId} {args : Array Value} {K : Value → World → Prop} {Kp : List PanicEntry → World → Prop} (H : Has n ds a L)
    (hw : Region.wanted ⟨some d, .call ⟨.invoke x nm, as, ats⟩, ty, pos, af, g⟩ (yielded ops a.tmps) = true) (hx : ev L x = some fv) (ha : as.map a.eval = args) (hd : d < n)
    (hc : CallI P fv nm args w (CallK K Kp)) (k : ∀ v w' a, K v w' → Has n ds a ((d, v) :: L) → wpList P ops Q rest a w') (kp : ∀ c w', Kp c w' → Has n ds a L → Q (.panic c) a w') :
    wpList P ops Q (⟨some d, .call ⟨.invoke x nm, as, ats⟩, ty, pos, af, g⟩ :: rest) a w := by
  obtain ⟨t, u, f, r, rfl, hm, hb, hc⟩ := hc
  unfold wpList
  rw [if_pos hw]
  refine .inl ?_
  unfold Oper.wp
  rw [run_callI H hx ha hm hb, Oper.upon_enter]
  refine hc.mono ?_
  rintro (v | c | _) w' h
  · exact k v w' _ h (H.put hd v)
  · exact kp c w' h H
  · exact h.elim
theorem s_call0 {f : FuncId} {as : Array Operand} {ats : Array TypeId} {args : Array Value} {K : Value → World → Prop} {Kp : List PanicEntry → World → Prop} (H : Has n ds a L)
    (hw : Region.wanted ⟨none, .call ⟨.value (.func f), as, ats⟩, ty, pos, af, g⟩ (yielded ops a.tmps) = true) (hb : bodyB P f = true) (ha : as.map a.eval = args)
    (hc : Calls P f args w (CallK K Kp)) (k : ∀ v w', K v w' → Has n ds a L → wpList P ops Q rest a w') (kp : ∀ c w', Kp c w' → Has n ds a L → Q (.panic c) a w') :
    wpList P ops Q (⟨none, .call ⟨.value (.func f), as, ats⟩, ty, pos, af, g⟩ :: rest) a w := by
  unfold wpList
  rw [if_pos hw]
  refine .inl ?_
  unfold Oper.wp
  have hr : (execOp a.eval ⟨none, .call ⟨.value (.func f), as, ats⟩, ty, pos, af, g⟩).run P w = .ok (.enter f args) w := by
    have e : #[] ++ as.map a.eval ++ #[] = args := by simpa using ha
    simp only [execOp, resolve, Act.eval, Deferred.ofValue, Sem.run_bind, Sem.run_pure, Result.andThen_ok, invoke]
    rw [e]
    exact run_callFunc hb
  rw [hr, Oper.upon_enter]
  refine hc.mono ?_
  rintro (v | c | _) w' h
  · exact k v w' h H
  · exact kp c w' h H
  · exact h.elim
theorem s_blt {b : Builtin} {as : Array Operand} {ats : Array TypeId} {args : Array Value} (H : Has n ds a L)
    (hw : Region.wanted ⟨some d, .call ⟨.builtin b, as, ats⟩, ty, pos, af, g⟩ (yielded ops a.tmps) = true) (ha : as.map a.eval = args) (hd : d < n)
    (hr : ∀ cs, (builtin b ats ty cs args).run P w = .ok (.value v) w1) (k : ∀ a, Has n ds a ((d, v) :: L) → wpList P ops Q rest a w1) :
    wpList P ops Q (⟨some d, .call ⟨.builtin b, as, ats⟩, ty, pos, af, g⟩ :: rest) a w :=
  s_run H hw rfl hd (by simp only [execOp, resolve, ha, Sem.run_bind, Sem.run_pure, Result.andThen_ok, invoke, hr]) k
theorem s_blt0 {b : Builtin} {as : Array Operand} {ats : Array TypeId} {args : Array Value} (H : Has n ds a L)
    (hw : Region.wanted ⟨none, .call ⟨.builtin b, as, ats⟩, ty, pos, af, g⟩ (yielded ops a.tmps) = true) (ha : as.map a.eval = args)
    (hr : ∀ cs, (builtin b ats ty cs args).run P w = .ok (.value v) w1) (k : Has n ds a L → wpList P ops Q rest a w1) :
    wpList P ops Q (⟨none, .call ⟨.builtin b, as, ats⟩, ty, pos, af, g⟩ :: rest) a w := by
  unfold wpList
  rw [if_pos hw]
  refine .inl ?_
  unfold Oper.wp
  have hr' : (execOp a.eval ⟨none, .call ⟨.builtin b, as, ats⟩, ty, pos, af, g⟩).run P w = .ok (.value v) w1 := by
    simp only [execOp, resolve, ha, Sem.run_bind, Sem.run_pure, Result.andThen_ok, invoke, hr]
  rw [hr', Oper.upon_value]
  exact k H
theorem s_panic {dst : Option Tmp} {u : Value} (H : Has n ds a L) (hw : Region.wanted ⟨dst, .panic x, ty, pos, af, g⟩ (yielded ops a.tmps) = true) (hx : ev L x = some (.iface t u))
    (k : Has n ds a L → Q (.panic [{ v := .iface t u, recovered := false }]) a w) : wpList P ops Q (⟨dst, .panic x, ty, pos, af, g⟩ :: rest) a w := by
  unfold wpList
  rw [if_pos hw]
  refine .inl ?_
  unfold Oper.wp
  have hr : (execOp a.eval ⟨dst, .panic x, ty, pos, af, g⟩).run P w = .halt (.panic (.iface t u)) w := by
    simp [execOp, H.eval hx, Instr.panic, goPanic, Sem.run]
  rw [hr, Oper.upon_panic]
  exact k H
theorem s_panicB {dst : Option Tmp} {ats : Array TypeId} {u : Value} (H : Has n ds a L) (hw : Region.wanted ⟨dst, .call ⟨.builtin .panic, #[x], ats⟩, ty, pos, af, g⟩ (yielded ops a.tmps) = true) (hx : ev L x = some (.iface t u))
    (k : Has n ds a L → Q (.panic [{ v := .iface t u, recovered := false }]) a w) : wpList P ops Q (⟨dst, .call ⟨.builtin .panic, #[x], ats⟩, ty, pos, af, g⟩ :: rest) a w := by
  unfold wpList
  rw [if_pos hw]
  refine .inl ?_
  unfold Oper.wp
  have hr : (execOp a.eval ⟨dst, .call ⟨.builtin .panic, #[x], ats⟩, ty, pos, af, g⟩).run P w = .halt (.panic (.iface t u)) w := by
    simp [execOp, resolve, invoke, builtin, H.eval hx, Instr.panic, goPanic, Sem.run]
  rw [hr, Oper.upon_panic]
  exact k H

end laws
end
/-! ## Quiet laws -/
section
variable {P : Program} {ops : Array Oper} {Z : Act → Prop} {rest : List Oper} {a : Act} {w : World} {n : Nat} {ds : List Deferred} {L : List (Nat × Value)}
  {d : Nat} {ty : TypeId} {pos : String} {af : Array Edge} {g : Option (Nat × Bool)} {x y z : Operand} {v vx vy : Value} {t : TypeId} {p : Addr}
theorem cells_drew {m : Nat} {l : List Value} : ∀ {i : Nat}, Cells w p i l → Cells (w.drewN m) p i l := by
  induction l with
  | nil => intro i _; trivial
  | cons v r ih => intro i h; exact ⟨h.1, ih h.2⟩
def ToStrD (P : Program) (t1 t2 : TypeId) (w : World) (x : Value) (K : ByteArray → Prop) : Prop := ∃ s, (∀ k : Nat, (convert t1 t2 x).run P (w.drewN k) = .ok (.string s) (w.drewN k)) ∧ K s
end
end Go.Vc

namespace Go.Vc
open Go

section
variable {P : Program} {Q : Exit → Act → World → Prop} {a : Act} {w : World} {n : Nat} {ds : List Deferred} {L : List (Nat × Value)}

theorem c_seq {x y : Code} (h : ∀ K : Act → World → Prop, (∀ a w, y.wp P Q a w → K a w) → x.wp P (Exit.then K Q) a w) : (Code.seq x y).wp P Q a w := wp_seq_k h
theorem c_nil {ops : Array Oper} (h : Q .normal a w) : wpList P ops Q [] a w := wpList_nil h
theorem c_cond {c : Operand} {x y : Code} {b : Bool} (H : Has n ds a L) (hc : ev L c = some (.bool b)) (ht : b = true → x.wp P Q a w) (hf : b = false → y.wp P Q a w) : (Code.cond c x y).wp P Q a w :=
  wp_cond_split (H.eval hc) ht hf
theorem c_block {id : Nat} {c : Code} (h : c.wp P (Exit.inBlock id Q) a w) : (Code.block id c).wp P Q a w := wp_block h
theorem c_label {l : Nat} (h : Q .normal a w) : (Code.label l).wp P Q a w := wp_label h
theorem c_scope {c : Code} (h : c.wp P (Exit.noGoto Q) a w) : (Code.scope c).wp P Q a w := wp_scope_straight h
theorem c_exit {id : Nat} (h : Q (.exit id) a w) : (Code.exit id).wp P Q a w := wp_exit h
theorem c_ret (h : Q .ret a w) : Code.ret.wp P Q a w := wp_ret h
theorem c_skip (h : Q .normal a w) : Code.skip.wp P Q a w := wp_skip h
theorem x_here {id : Nat} (h : Q .normal a w) : Exit.inBlock id Q (.exit id) a w := by simp only [Exit.inBlock, if_true]; exact h
theorem x_there {id id' : Nat} (hne : Nat.beq id' id = false) (h : Q (.exit id') a w) : Exit.inBlock id Q (.exit id') a w := by
  have e : ¬ id' = id := fun e => by rw [e, Nat.beq_refl] at hne; exact absurd hne (by decide)
  simp only [Exit.inBlock, if_neg e]; exact h

theorem c_loop {σ : Type} {c : Code} (I : σ → World → Prop) (μ : σ → World → Nat) (L : σ → List (Nat × Value)) (s0 : σ) (h0 : I s0 w) (H0 : Has n ds a (L s0))
    (round : ∀ s a w, I s w → Has n ds a (L s) → c.wp P (Exit.then (fun a' w' => ∃ s', I s' w' ∧ μ s' w' < μ s w ∧ Has n ds a' (L s')) Q) a w) : (Code.loop c).wp P Q a w := by
  intro b k cs
  have key : ∀ m s a w, μ s w = m → I s w → Has n ds a (L s) →
      ∃ e a' w', Q e a' w' ∧ Arrives P (lone (b.at a (.code c :: .inLoop c :: k)) cs w) b k cs e a' w' := by
    intro m
    induction m using Nat.strongRecOn with
    | _ m ih =>
      intro s a w hm hI HH
      obtain ⟨e, a₁, w₁, hq, harr⟩ := round s a w hI HH b (.inLoop c :: k) cs
      cases e with
      | normal =>
        obtain ⟨s', hI₁, hlt, H₁⟩ := hq
        obtain ⟨e₂, a₂, w₂, hq₂, harr₂⟩ := ih (μ s' w₁) (hm ▸ hlt) s' a₁ w₁ rfl hI₁ H₁
        exact ⟨e₂, a₂, w₂, hq₂, .of_steps (Steps.trans harr (.one step_inLoop)) harr₂⟩
      | exit id => exact ⟨_, a₁, w₁, hq, .pass (x := .inLoop c) rfl (fun _ _ => .inl (by simp)) harr⟩
      | goto l => exact ⟨_, a₁, w₁, hq, .pass (x := .inLoop c) rfl (fun _ _ => .inl (by simp)) harr⟩
      | ret => exact ⟨_, a₁, w₁, hq, .pass (x := .inLoop c) rfl (fun _ _ => .inl (by simp)) harr⟩
      | panic ch => exact ⟨_, a₁, w₁, hq, .pass (x := .inLoop c) rfl (fun _ _ => .inl (by simp)) harr⟩
      | outgrown => exact ⟨_, a₁, w₁, hq, .pass (x := .inLoop c) rfl (fun _ _ => .inl (by simp)) harr⟩
  obtain ⟨e, a', w', hq, harr⟩ := key _ s0 a w rfl h0 H0
  exact ⟨e, a', w', hq, .of_steps (.one step_loop) harr⟩

def RV (P : Program) (L : List (Nat × Value)) (w : World) (r : ResultVar) (v : Value) : Prop :=
  match r with
  | .tmp t => Env.get L t = some v
  | .cell t u => ∃ p, Env.get L t = some (.pointer (some p)) ∧ (loadVar u p).run P w = .ok v w
def resF (tmps : Array Value) (r : ResultVar) : Sem Value :=
  match r with
  | .tmp t => pure (tmps.getD t undef)
  | .cell t u => do loadVar u (← asAddr (tmps.getD t undef))
theorem run_rv {r : ResultVar} {v : Value} (H : Has n ds a L) (h : RV P L w r v) : (resF a.tmps r).run P w = .ok v w := by
  cases r with
  | tmp t =>
    have e := H.eval (x := .tmp t) h
    simp only [Act.eval] at e
    simp only [resF, e, Sem.run_pure]
  | cell t u =>
    obtain ⟨p, h1, h3⟩ := h
    have e := H.eval (x := .tmp t) h1
    simp only [Act.eval] at e
    simp only [resF, e, asAddr, Sem.run_bind, Sem.run_pure, Result.andThen_ok, h3]
theorem results_eq (fn : Func) (tmps : Array Value) : results fn tmps = (do let vs ← fn.results.mapM (resF tmps); pure (if h : vs.size = 1 then vs[0] else .tuple vs)) := by
  unfold results resF
  rfl
section
variable {fn : Func} {R : Ending → World → Prop} {r0 r1 r2 r3 r4 r5 : ResultVar} {v0 v1 v2 v3 v4 v5 : Value}
theorem e_end (h : bodyPost P fn R .ret a w) : bodyPost P fn R .normal a w := h
theorem e_panic {c : List PanicEntry} (H : Has n [] a L) (h : R (.panicked c) w) : bodyPost P fn R (.panic c) a w := ⟨H.defers, h⟩
end
end

/-! ## Small words of the machine-made proofs -/
theorem lt_ {d n : Nat} (h : Nat.ble (d + 1) n = true) : d < n := Nat.le_of_ble_eq_true h
theorem Has.args {n : Nat} {ds : List Deferred} {a : Act} {L : List (Nat × Value)} (H : Has n ds a L) {xs : List Operand} : {vs : List Value} → (h : xs.map (ev L) = vs.map some) → xs.toArray.map a.eval = vs.toArray := by
  induction xs with
  | nil => intro vs h; cases vs <;> simp_all
  | cons x xs ih =>
    intro vs h
    cases vs with
    | nil => simp at h
    | cons v vs =>
      simp only [List.map_cons, List.cons.injEq] at h
      have e1 := H.eval h.1
      have e2 := ih h.2
      simp only [List.map_toArray, List.map_cons, e1] at e2 ⊢
      have e3 : xs.map a.eval = vs := by simpa using congrArg Array.toList e2
      rw [e3]
theorem Has.parts {n : Nat} {ds : List Deferred} {a : Act} {L : List (Nat × Value)} (H : Has n ds a L) {xs : List (Nat × Operand)} : {vs : List (Nat × Value)} → (h : xs.map (fun z => (z.1, ev L z.2)) = vs.map (fun z => (z.1, some z.2))) →
    (xs.toArray.map fun (i, x) => (i, a.eval x)) = vs.toArray := by
  induction xs with
  | nil => intro vs h; cases vs <;> simp_all
  | cons x xs ih =>
    intro vs h
    cases vs with
    | nil => simp at h
    | cons v vs =>
      simp only [List.map_cons, List.cons.injEq, Prod.mk.injEq] at h
      have e1 := H.eval h.1.2
      have e2 := ih h.2
      simp only [List.map_toArray, List.map_cons, e1, h.1.1] at e2 ⊢
      have e3 : (xs.map fun (i, x) => (i, a.eval x)) = vs := by simpa using congrArg Array.toList e2
      rw [e3]
structure NewBlk (w : World) (cs : Array Value) (e : TypeId) (b : Nat) (w1 : World) : Prop where
  at_ : b = w.heap.size
  is : w1 = w.alloc (.cells cs e)
theorem New.get {w : World} {cs : Array Value} {e : TypeId} {K : Nat → World → Prop} (h : New w cs e K) : ∃ b w1, NewBlk w cs e b w1 ∧ K b w1 := ⟨_, _, ⟨rfl, rfl⟩, h⟩
theorem New.intro {w : World} {cs : Array Value} {e : TypeId} {K : Nat → World → Prop} (h : ∀ b w1, NewBlk w cs e b w1 → K b w1) : New w cs e K := h _ _ ⟨rfl, rfl⟩
theorem NewBlk.heap {w w1 : World} {cs : Array Value} {e : TypeId} {b : Nat} (h : NewBlk w cs e b w1) : w1.heap[b]? = some (.cells cs e (0, 0)) := by
  rw [h.is, h.at_]; exact heap_alloc_new w _
theorem NewBlk.cell {w w1 : World} {cs : Array Value} {e : TypeId} {b : Nat} (h : NewBlk w cs e b w1) {i : Nat} {v : Value} (hv : cs[i]? = some v) : w1.cell? ⟨b, i, none⟩ = some v :=
  (cell_of_row w1 b i cs e (0, 0) h.heap).trans hv
theorem NewBlk.old {w w1 : World} {cs : Array Value} {e : TypeId} {b : Nat} (h : NewBlk w cs e b w1) {p : Addr} {v : Value} (hv : w.cell? p = some v) : w1.cell? p = some v := by
  rw [h.is, World.cell?_alloc_lt w _ p (World.block_lt_of_cell? w p hv)]; exact hv
theorem cell_off {w : World} {b i j : Nat} {v u : Value} (h : w.cell? ⟨b, i, none⟩ = some u) (hne : Nat.beq i j = false) : (w.setCell ⟨b, j, none⟩ v).cell? ⟨b, i, none⟩ = some u := by
  rw [World.cell?_setCell_other w _ _ _ (fun e => by
    injection e with _ e2
    rw [e2, Nat.beq_refl] at hne
    exact absurd hne (by decide))]
  exact h

theorem Has.ch {n : Nat} {ds : List Deferred} {a : Act} {L : List (Nat × Value)} (H : Has n ds a L) {t : Nat} {c b : Bool} (hg : Env.get L t = some (.bool c)) (hc : c = b) : Has n ds a ((t, .bool b) :: L) := by
  refine ⟨H.size, H.defers, ?_⟩
  intro u v hv
  simp only [Env.get] at hv
  cases hb : Nat.beq t u with
  | true =>
    rw [hb] at hv
    simp only [cond_true, Option.some.injEq] at hv
    subst hv
    rw [← Nat.eq_of_beq_eq_true hb, ← hc]
    exact H.get t _ hg
  | false =>
    rw [hb] at hv
    exact H.get u v hv
theorem Has.cT {n : Nat} {ds : List Deferred} {a : Act} {L : List (Nat × Value)} (H : Has n ds a L) (t : Nat) {c : Bool} (hc : c = true) (hg : Env.get L t = some (.bool c)) : Has n ds a ((t, .bool true) :: L) := H.ch hg hc
theorem Has.cF {n : Nat} {ds : List Deferred} {a : Act} {L : List (Nat × Value)} (H : Has n ds a L) (t : Nat) {c : Bool} (hc : c = false) (hg : Env.get L t = some (.bool c)) : Has n ds a ((t, .bool false) :: L) := H.ch hg hc
theorem wantU {ops : Array Oper} {a : Act} {n : Nat} {ds : List Deferred} {L : List (Nat × Value)} {ty : TypeId} {pos : String} {af : Array Edge} {j t : Nat} {c : Bool} {dst : Option Tmp} {op : Op}
    (H : Has n ds a L) (ht : (ops[j]?).bind (·.dst) = some t) (hb : Env.get L t = some undef) : Region.wanted ⟨dst, op, ty, pos, af, some (j, c)⟩ (yielded ops a.tmps) = false := by
  have h := H.get t _ hb
  have e : yielded ops a.tmps j = none := by
    unfold yielded
    rw [ht]
    simp only [Option.bind_some, h, undef]
  simp [Region.wanted, e]
inductive Tail {α : Type} : Nat → List α → List α → Prop
  | zero (l : List α) : Tail 0 l l
  | succ {m : Nat} {x : α} {l r : List α} (h : Tail m l r) : Tail (m + 1) (x :: l) r
theorem c_regD {P : Program} {Q : Exit → Act → World → Prop} {a : Act} {w : World} {id : Nat} {l : List Oper} (hm : P.follows .mixedOrders = true) (hB : Region.lexB .any l.toArray = true)
    (h : wpQuiet P l.toArray (fun w' => ∃ n, w' = w.drewN n) (fun a' => ∀ w', (∃ n, w' = w.drewN n) → Q .normal a' w') l a) : (Code.region id l.toArray true).wp P Q a w := wp_region_quiet_lit hm hB h
theorem NewBlk.go {P : Program} {ops : Array Oper} {Q : Exit → Act → World → Prop} {a : Act} {rest : List Oper} {w w1 : World} {cs : Array Value} {e : TypeId} {b : Nat} (h : NewBlk w cs e b w1)
    (hf : wpList P ops Q rest a w1) : wpList P ops Q rest a (w.alloc (.cells cs e)) := by rw [← h.is]; exact hf
abbrev blk (b : Nat) : Addr := ⟨b, 0, none⟩
structure SetAt (w : World) (p : Addr) (v : Value) (w1 : World) : Prop where
  is : w1 = w.setCell p v
theorem SetAt.off {w w1 : World} {b i j : Nat} {v u : Value} (h : SetAt w ⟨b, j, none⟩ v w1) (hc : w.cell? ⟨b, i, none⟩ = some u) (hne : Nat.beq i j = false) : w1.cell? ⟨b, i, none⟩ = some u := by
  rw [h.is]; exact cell_off hc hne

/-! ## == of structs -/
def QE (P : Program) (n : Nat) (t : TypeId) (x y : Value) (r : Bool) : Prop := ∀ (d : Nat) (w : World), (Op.equalIn (d + n) t x y).run P w = .ok r w
def QF (P : Program) (n : Nat) (fs : List Field) (xs ys : Array Value) (r : Bool) : Prop := ∀ (d : Nat) (w : World), (Op.eqFields (d + n) xs ys fs).run P w = .ok r w
theorem q_int {P : Program} {n : Nat} {t : TypeId} {k : IntKind} {a b : Int} (h : intB P t k = true) : QE P (n + 1) t (.int k a) (.int k b) (decide (a = b)) := by
  intro d w
  unfold intB at h
  cases hu : P.underlying t with
  | none => simp [hu] at h
  | some u =>
    cases u <;> simp only [hu] at h <;> first | (exact absurd h Bool.false_ne_true) | skip
    exact run_equalIn_int w (d + n) t k _ a b hu
theorem q_str {P : Program} {n : Nat} {t : TypeId} {a b : ByteArray} (h : strB P t = true) : QE P (n + 1) t (.string a) (.string b) (decide (a.toList = b.toList)) := by
  intro d w
  unfold strB at h
  cases hu : P.underlying t with
  | none => simp [hu] at h
  | some u =>
    cases u <;> simp only [hu] at h <;> first | (exact absurd h Bool.false_ne_true) | skip
    have e := run_equalIn_string w (d + n) t a b hu
    rw [show d + (n + 1) = d + n + 1 from rfl, e]
    by_cases hab : a.toList = b.toList <;> simp [hab]
theorem q_bool {P : Program} {n : Nat} {t : TypeId} {a b : Bool} (h : (match P.underlying t with | some .bool => true | _ => false) = true) : QE P (n + 1) t (.bool a) (.bool b) (decide (a = b)) := by
  intro d w
  cases hu : P.underlying t with
  | none => simp [hu] at h
  | some u =>
    cases u <;> simp only [hu] at h <;> first | (exact absurd h Bool.false_ne_true) | skip
    exact run_equalIn_bool' w (d + n) t a b hu
theorem q_struct {P : Program} {n : Nat} {t : TypeId} {fs : Array Field} {xs ys : Array Value} {r : Bool} (hu : P.underlying t = some (.struct fs)) (hp : P.stoodInHeld t = false) (h : QF P n fs.toList xs ys r) : QE P (n + 1) t (.agg xs) (.agg ys) r := by
  intro d w
  have hf : P.fieldsOf t = fs := by simp [Program.fieldsOf, hu]
  rw [show d + (n + 1) = d + n + 1 from rfl, run_equalIn_struct (P := P) w (d + n) t xs ys (by rw [hf]; exact hu) hp, hf]
  exact h d w
theorem qf_last {P : Program} {n : Nat} {f : Field} {xs ys : Array Value} {a b : Value} {r : Bool} (hn : (f.name == "_") = false) (ha : ∀ w, (part f.type xs f.offset).run P w = .ok a w) (hb : ∀ w, (part f.type ys f.offset).run P w = .ok b w)
    (he : QE P n f.type a b r) : QF P n [f] xs ys r := by
  intro d w
  have hn' : f.name ≠ "_" := by simpa using hn
  simp only [Op.eqFields, if_pos hn', Sem.run_bind, ha, hb, he d, Result.andThen_ok]
  cases r <;> simp
theorem qf_cons {P : Program} {n : Nat} {f : Field} {fs : List Field} {xs ys : Array Value} {a b : Value} {r s : Bool} (hn : (f.name == "_") = false) (ha : ∀ w, (part f.type xs f.offset).run P w = .ok a w) (hb : ∀ w, (part f.type ys f.offset).run P w = .ok b w)
    (he : QE P n f.type a b r) (hr : QF P n fs xs ys s) : QF P n (f :: fs) xs ys (r && s) := by
  intro d w
  have hn' : f.name ≠ "_" := by simpa using hn
  rw [Op.eqFields]
  simp only [if_pos hn', Sem.run_bind, ha, hb, he d, Result.andThen_ok]
  cases r
  · simp
  · simpa using hr d w
theorem p_one {P : Program} {t : TypeId} {cs : Array Value} {off : Nat} {v : Value} (h : oneB P t = true) (hv : cs[off]? = some v) (w : World) : (part t cs off).run P w = .ok v w := by
  simp [part, isAgg_one h, hv]
theorem p_agg {P : Program} {t : TypeId} {cs l : Array Value} {off m : Nat} (h : aggB P t m = true) (hv : cs.extract off (off + m) = l) (w : World) : (part t cs off).run P w = .ok (.agg l) w := by
  obtain ⟨e3, e4⟩ := isAgg_agg (w := w) h
  simp [part, e3, e4, hv]
theorem r_eqst {P : Program} {t : TypeId} {x y : Operand} {xs ys : Array Value} {r : Bool} {n : Nat} (hm : P.eqGuardType P.depth t = false) (h : QE P n t (.agg xs) (.agg ys) r) (hn : Nat.ble n 10000 = true) : RB P .eql t x y (.agg xs) (.agg ys) (.bool r) := by
  intro w
  have e := h (10000 - n) w
  rw [Nat.sub_add_cancel (Nat.le_of_ble_eq_true hn)] at e
  rw [Sem.run_bind, run_eqGuard_agg (P := P) w .eql t x y xs ys hm, Result.andThen_ok, run_eql_struct, e]
  rfl
theorem r_nest {P : Program} {t : TypeId} {x y : Operand} {xs ys : Array Value} {r : Bool} {n : Nat} (hm : P.eqGuardType P.depth t = false) (h : QE P n t (.agg xs) (.agg ys) r) (hn : Nat.ble n 10000 = true) : RB P .neq t x y (.agg xs) (.agg ys) (.bool (!r)) := by
  intro w
  have e := h (10000 - n) w
  rw [Nat.sub_add_cancel (Nat.le_of_ble_eq_true hn)] at e
  rw [Sem.run_bind, run_eqGuard_agg (P := P) w .neq t x y xs ys hm, Result.andThen_ok, run_neq_struct, e]
  rfl

/-! ## What pure operations come to -/
section
variable {P : Program} {t : TypeId} {x y : Operand} {k k' : IntKind} {a b : Int} {s u : ByteArray} {p q : Option Addr} {c d : Bool}
theorem r_add : RB P .add t x y (.int k a) (.int k b) (.int k (wr k (a + b))) := fun w => by simp [binOp, eqGuard, Op.intArith, wr]
theorem r_sub : RB P .sub t x y (.int k a) (.int k b) (.int k (wr k (a - b))) := fun w => by simp [binOp, eqGuard, Op.intArith, wr]
theorem r_mul : RB P .mul t x y (.int k a) (.int k b) (.int k (wr k (a * b))) := fun w => by simp [binOp, eqGuard, Op.intArith, wr]
theorem r_quo (h : b ≠ 0) : RB P .quo t x y (.int k a) (.int k b) (.int k (wr k (a.tdiv b))) := fun w => by simp [binOp, eqGuard, Op.intDiv, wr, h]
theorem r_rem (h : b ≠ 0) : RB P .rem t x y (.int k a) (.int k b) (.int k (a.tmod b)) := fun w => by simp [binOp, eqGuard, Op.intDiv, h]
theorem r_and : RB P .and t x y (.int k a) (.int k b) (.int k (andI k a b)) := fun w => by simp [binOp, eqGuard, Op.intBits, andI]
theorem r_or : RB P .or t x y (.int k a) (.int k b) (.int k (orI k a b)) := fun w => by simp [binOp, eqGuard, Op.intBits, orI]
theorem r_xor : RB P .xor t x y (.int k a) (.int k b) (.int k (xorI k a b)) := fun w => by simp [binOp, eqGuard, Op.intBits, xorI]
theorem r_andNot : RB P .andNot t x y (.int k a) (.int k b) (.int k (andNotI k a b)) := fun w => by simp [binOp, eqGuard, Op.intBits, andNotI]
theorem r_shl (h : 0 ≤ b) : RB P .shl t x y (.int k a) (.int k' b) (.int k (shlI k a b)) := fun w => by
  have : ¬ b < 0 := by omega
  simp [binOp, eqGuard, Op.shift, shlI, this]
theorem r_shr (h : 0 ≤ b) : RB P .shr t x y (.int k a) (.int k' b) (.int k (shrI k a b)) := fun w => by
  have : ¬ b < 0 := by omega
  simp [binOp, eqGuard, Op.shift, shrI, this]
theorem r_lss : RB P .lss t x y (.int k a) (.int k b) (.bool (decide (a < b))) := fun w => by simp [binOp, eqGuard, Op.intCmp]
theorem r_leq : RB P .leq t x y (.int k a) (.int k b) (.bool (decide (a ≤ b))) := fun w => by simp [binOp, eqGuard, Op.intCmp]
theorem r_gtr : RB P .gtr t x y (.int k a) (.int k b) (.bool (decide (b < a))) := fun w => by simp [binOp, eqGuard, Op.intCmp]
theorem r_geq : RB P .geq t x y (.int k a) (.int k b) (.bool (decide (b ≤ a))) := fun w => by simp [binOp, eqGuard, Op.intCmp]
theorem r_eql : RB P .eql t x y (.int k a) (.int k b) (.bool (decide (a = b))) := fun w => by simp [binOp, eqGuard_at_int, Op.intCmp]; rfl
theorem r_neq : RB P .neq t x y (.int k a) (.int k b) (.bool (decide (a ≠ b))) := fun w => by simp [binOp, eqGuard_at_int, Op.intCmp, bne]; rfl
theorem r_eqlS : RB P .eql t x y (.string s) (.string u) (.bool (decide (s.toList = u.toList))) := fun w => by
  have e : (s.toList == u.toList) = decide (s.toList = u.toList) := by by_cases h : s.toList = u.toList <;> simp [h]
  simp [binOp, eqGuard_at_string, Op.stringOp, e]
theorem r_neqS : RB P .neq t x y (.string s) (.string u) (.bool (decide (s.toList ≠ u.toList))) := fun w => by
  have e : (!(s.toList == u.toList)) = decide (s.toList ≠ u.toList) := by by_cases h : s.toList = u.toList <;> simp [h]
  simp only [binOp, eqGuard_at_string, Op.stringOp, e]
  simp
theorem r_lssS : RB P .lss t x y (.string s) (.string u) (.bool (Op.bytesLess s.toList u.toList)) := fun w => by
  simp [binOp, eqGuard, Op.stringOp]
theorem r_addS (h : s.size + u.size ≤ 9223372036854775807) : RB P .add t x y (.string s) (.string u) (.string (s ++ u)) := fun w => by
  have e : ¬ ((s.size + u.size : Nat) : Int) > IntKind.i64.max := by rw [IntKind.max_i64]; omega
  simp only [binOp, eqGuard_add, Op.stringOp, if_neg e]
  simp
theorem r_eqP0 (h : ptrB P t = true) : RB P .eql t x y (.pointer p) (.pointer none) (.bool p.isNone) := fun w => by
  unfold ptrB at h
  cases hu : P.underlying t with
  | none => simp [hu] at h
  | some ud =>
    cases ud <;> simp only [hu] at h <;> first | (exact absurd h Bool.false_ne_true) | skip
    have e : ∀ (dd : Nat) w, (Op.equalIn (dd + 1) t (.pointer p) (.pointer none)).run P w = .ok p.isNone w := fun dd w => by
      cases p <;> simp [Op.equalIn, run_underlying hu]
    simp only [binOp, eqGuard_at_pointer]
    simp [Op.equal, Op.maxDepth, e 9999]
theorem r_neP0 (h : ptrB P t = true) : RB P .neq t x y (.pointer p) (.pointer none) (.bool p.isSome) := fun w => by
  unfold ptrB at h
  cases hu : P.underlying t with
  | none => simp [hu] at h
  | some ud =>
    cases ud <;> simp only [hu] at h <;> first | (exact absurd h Bool.false_ne_true) | skip
    have e : ∀ (dd : Nat) w, (Op.equalIn (dd + 1) t (.pointer p) (.pointer none)).run P w = .ok p.isNone w := fun dd w => by
      cases p <;> simp [Op.equalIn, run_underlying hu]
    simp only [binOp, eqGuard_at_pointer]
    simp [Op.equal, Op.maxDepth, e 9999]
theorem eqGuard_nilc {op : BinOp} {t : TypeId} {x : Operand} {c : Value} {v : Value} {b : Bool} (hz : NilI v b) : eqGuard op t x (.const c) v .nilIface = pure () := by
  rcases hz with ⟨rfl, rfl⟩ | ⟨⟨u, y, rfl⟩, rfl⟩
  · cases op <;> cases x <;> rfl
  · cases op <;> rfl
theorem r_eqN {c : Value} {v : Value} {b : Bool} (h : ifcB P t = true) (hz : NilI v b) : RB P .eql t x (.const c) v .nilIface (.bool b) := fun w => by
  unfold ifcB at h
  cases hu : P.underlying t with
  | none => simp [hu] at h
  | some ud =>
    cases ud <;> simp only [hu] at h <;> first | (exact absurd h Bool.false_ne_true) | skip
    have e : ∀ (dd : Nat) w, (Op.equalIn (dd + 1) t v .nilIface).run P w = .ok b w := fun dd w => by
      rcases hz with ⟨rfl, rfl⟩ | ⟨⟨u, y, rfl⟩, rfl⟩ <;> simp [Op.equalIn, run_underlying hu]
    simp only [binOp, eqGuard_nilc hz]
    rcases hz with ⟨rfl, rfl⟩ | ⟨⟨u, y, rfl⟩, rfl⟩ <;> simp [Op.equal, Op.maxDepth, e 9999]
theorem r_neN {c : Value} {v : Value} {b : Bool} (h : ifcB P t = true) (hz : NilI v b) : RB P .neq t x (.const c) v .nilIface (.bool (!b)) := fun w => by
  unfold ifcB at h
  cases hu : P.underlying t with
  | none => simp [hu] at h
  | some ud =>
    cases ud <;> simp only [hu] at h <;> first | (exact absurd h Bool.false_ne_true) | skip
    have e : ∀ (dd : Nat) w, (Op.equalIn (dd + 1) t v .nilIface).run P w = .ok b w := fun dd w => by
      rcases hz with ⟨rfl, rfl⟩ | ⟨⟨u, y, rfl⟩, rfl⟩ <;> simp [Op.equalIn, run_underlying hu]
    simp only [binOp, eqGuard_nilc hz]
    rcases hz with ⟨rfl, rfl⟩ | ⟨⟨u, y, rfl⟩, rfl⟩ <;> simp [Op.equal, Op.maxDepth, e 9999]
theorem eqGuard_nilf {op : BinOp} {t : TypeId} {x y : Operand} {v : Value} {b : Bool} (hz : NilF v b) : eqGuard op t x y v .nilFunc = pure () := by
  rcases hz with ⟨rfl, rfl⟩ | ⟨⟨f, u, z, rfl⟩, rfl⟩ <;> cases op <;> rfl
theorem eqv_nilf {v : Value} {b : Bool} {w : World} (h : funcB P t = true) (hz : NilF v b) : (Op.equal t v .nilFunc).run P w = .ok b w := by
  unfold funcB at h
  cases hu : P.underlying t with
  | none => simp [hu] at h
  | some ud =>
    cases ud <;> simp only [hu] at h <;> first | (exact absurd h Bool.false_ne_true) | skip
    have e : ∀ (dd : Nat), (Op.equalIn (dd + 1) t v .nilFunc).run P w = .ok b w := fun dd => by
      rcases hz with ⟨rfl, rfl⟩ | ⟨⟨f, u, z, rfl⟩, rfl⟩ <;> simp [Op.equalIn, run_underlying hu]
    exact e 9999
theorem r_eqF {v : Value} {b : Bool} (h : funcB P t = true) (hz : NilF v b) : RB P .eql t x y v .nilFunc (.bool b) := fun w => by
  have e := eqv_nilf (w := w) h hz
  rw [eqGuard_nilf hz]
  rcases hz with ⟨rfl, rfl⟩ | ⟨⟨f, u, z, rfl⟩, rfl⟩ <;> simp [binOp, e]
theorem r_neF {v : Value} {b : Bool} (h : funcB P t = true) (hz : NilF v b) : RB P .neq t x y v .nilFunc (.bool (!b)) := fun w => by
  have e := eqv_nilf (w := w) h hz
  rw [eqGuard_nilf hz]
  rcases hz with ⟨rfl, rfl⟩ | ⟨⟨f, u, z, rfl⟩, rfl⟩ <;> simp [binOp, e]
theorem r_eqM0 {m : Option Nat} (h : isMapB P t = true) : RB P .eql t x y (.map m) (.map none) (.bool m.isNone) := fun w => by
  unfold isMapB at h
  cases hu : P.underlying t with
  | none => simp [hu] at h
  | some ud =>
    cases ud <;> simp only [hu] at h <;> first | (exact absurd h Bool.false_ne_true) | skip
    have e : ∀ (dd : Nat) w, (Op.equalIn (dd + 1) t (.map m) (.map none)).run P w = .ok m.isNone w := fun dd w => by
      cases m <;> simp [Op.equalIn, run_underlying hu]
    have e2 : ∀ w, (Op.equal t (.map m) (.map none)).run P w = .ok m.isNone w := fun w => e 9999 w
    simp [binOp, eqGuard, e2]
theorem r_neM0 {m : Option Nat} (h : isMapB P t = true) : RB P .neq t x y (.map m) (.map none) (.bool m.isSome) := fun w => by
  unfold isMapB at h
  cases hu : P.underlying t with
  | none => simp [hu] at h
  | some ud =>
    cases ud <;> simp only [hu] at h <;> first | (exact absurd h Bool.false_ne_true) | skip
    have e : ∀ (dd : Nat) w, (Op.equalIn (dd + 1) t (.map m) (.map none)).run P w = .ok m.isNone w := fun dd w => by
      cases m <;> simp [Op.equalIn, run_underlying hu]
    have e2 : ∀ w, (Op.equal t (.map m) (.map none)).run P w = .ok m.isNone w := fun w => e 9999 w
    simp [binOp, eqGuard, e2]
theorem r_eqS0 (h : isSlcB P t = true) {z : Slc} : RB P .eql t x y z.v (.slice none 0 0) (.bool z.a.isNone) := fun w => by
  unfold isSlcB at h
  cases hu : P.underlying t with
  | none => simp [hu] at h
  | some ud =>
    cases ud <;> simp only [hu] at h <;> first | (exact absurd h Bool.false_ne_true) | skip
    have e : ∀ (dd : Nat) w, (Op.equalIn (dd + 1) t z.v (.slice none 0 0)).run P w = .ok z.a.isNone w := fun dd w => by
      obtain ⟨p, l, c⟩ := z; cases p <;> simp [Op.equalIn, run_underlying hu]
    simp only [binOp, eqGuard_at_slice]
    simp [Op.equal, Op.maxDepth, e 9999]
theorem r_neS0 (h : isSlcB P t = true) {z : Slc} : RB P .neq t x y z.v (.slice none 0 0) (.bool z.a.isSome) := fun w => by
  unfold isSlcB at h
  cases hu : P.underlying t with
  | none => simp [hu] at h
  | some ud =>
    cases ud <;> simp only [hu] at h <;> first | (exact absurd h Bool.false_ne_true) | skip
    have e : ∀ (dd : Nat) w, (Op.equalIn (dd + 1) t z.v (.slice none 0 0)).run P w = .ok z.a.isNone w := fun dd w => by
      obtain ⟨p, l, c⟩ := z; cases p <;> simp [Op.equalIn, run_underlying hu]
    simp only [binOp, eqGuard_at_slice]
    simp [Op.equal, Op.maxDepth, e 9999]
theorem boolUnd {w : World} (h : (match P.underlying t with | some .bool => true | _ => false) = true) : (underlying t).run P w = .ok .bool w := by
  cases hu : P.underlying t with
  | none => simp [hu] at h
  | some ud =>
    cases ud <;> simp only [hu] at h <;> first | (exact absurd h Bool.false_ne_true) | skip
    exact run_underlying hu w
def boolB (P : Program) (t : Nat) : Bool := match P.underlying t with | some .bool => true | _ => false
theorem r_eqB (h : boolB P t = true) : RB P .eql t x y (.bool c) (.bool d) (.bool (decide (c = d))) := fun w => by
  have e : ∀ w, (underlying t).run P w = .ok .bool w := fun w => boolUnd h
  have e2 : ∀ (dd : Nat) w, (Op.equalIn (dd + 1) t (.bool c) (.bool d)).run P w = .ok (decide (c = d)) w := fun dd w => by
    simp [Op.equalIn, e]; rfl
  simp only [binOp, eqGuard_at_bool]
  simp [Op.equal, Op.maxDepth, e2 9999]
theorem r_neB (h : boolB P t = true) : RB P .neq t x y (.bool c) (.bool d) (.bool (decide (c ≠ d))) := fun w => by
  have e : ∀ w, (underlying t).run P w = .ok .bool w := fun w => boolUnd h
  have e2 : ∀ (dd : Nat) w, (Op.equalIn (dd + 1) t (.bool c) (.bool d)).run P w = .ok (decide (c = d)) w := fun dd w => by
    simp [Op.equalIn, e]; rfl
  simp only [binOp, eqGuard_at_bool]
  simp [Op.equal, Op.maxDepth, e2 9999]
theorem r_not (w : World) : (Op.unary .not (.bool c)).run P w = .ok (.bool (!c)) w := by simp [Op.unary]
theorem r_neg (w : World) : (Op.unary .neg (.int k a)).run P w = .ok (.int k (wr k (0 - a))) w := by simp [Op.unary, Op.intArith, wr]
theorem r_com (w : World) : (Op.unary .xor (.int k a)).run P w = .ok (.int k (notI k a)) w := by simp [Op.unary, Op.intBits, notI, xorI]
theorem r_cvI {w : World} {t1 t2 : TypeId} (h1 : someB P t1 = true) (h2 : intB P t2 k = true) : (convert t1 t2 (.int k' a)).run P w = .ok (.int k (wr k a)) w := by
  unfold someB at h1
  unfold intB at h2
  cases hu : P.underlying t1 with
  | none => simp [hu] at h1
  | some u1 =>
    cases hv : P.underlying t2 with
    | none => simp [hv] at h2
    | some u2 =>
      cases u2 <;> simp only [hv] at h2 <;> first | (exact absurd h2 Bool.false_ne_true) | skip
      have e := of_decide_eq_true h2
      subst e
      simp [convert, run_underlying hu, run_underlying hv, Conv.intToInt, wr]
theorem r_cvS {w : World} {t1 t2 : TypeId} (h1 : someB P t1 = true) (h2 : strB P t2 = true) : (convert t1 t2 (.string s)).run P w = .ok (.string s) w := by
  unfold someB at h1
  unfold strB at h2
  cases hu : P.underlying t1 with
  | none => simp [hu] at h1
  | some u1 =>
    cases hv : P.underlying t2 with
    | none => simp [hv] at h2
    | some u2 =>
      cases u2 <;> simp only [hv] at h2 <;> first | (exact absurd h2 Bool.false_ne_true) | skip
      cases u1 <;> simp [convert, run_underlying hu, run_underlying hv]
theorem b_lenS {w : World} {ty : TypeId} {cs : Array Bool} {z : Slc} (h : isSlcB P t = true) : (builtin .len #[t] ty cs #[z.v]).run P w = .ok (.value (.int .i64 z.l)) w := by
  unfold isSlcB at h
  cases hu : P.underlying t with
  | none => simp [hu] at h
  | some ud =>
    cases ud <;> simp only [hu] at h <;> first | (exact absurd h Bool.false_ne_true) | skip
    simp [builtin, Builtin.len_, run_underlying hu, goInt]
theorem b_lenT {w : World} {ty : TypeId} {cs : Array Bool} (h : strB P t = true) : (builtin .len #[t] ty cs #[.string s]).run P w = .ok (.value (.int .i64 s.size)) w := by
  unfold strB at h
  cases hu : P.underlying t with
  | none => simp [hu] at h
  | some ud =>
    cases ud <;> simp only [hu] at h <;> first | (exact absurd h Bool.false_ne_true) | skip
    simp [builtin, Builtin.len_, run_underlying hu, goInt]
def minI (a b : Int) : Int := if b < a then b else a
def maxI (a b : Int) : Int := if b > a then b else a
theorem b_capS {w : World} {ty : TypeId} {cs : Array Bool} {z : Slc} (h : isSlcB P t = true) : (builtin .cap #[t] ty cs #[z.v]).run P w = .ok (.value (.int .i64 z.c)) w := by
  unfold isSlcB at h
  cases hu : P.underlying t with
  | none => simp [hu] at h
  | some ud =>
    cases ud <;> simp only [hu] at h <;> first | (exact absurd h Bool.false_ne_true) | skip
    simp [builtin, Builtin.cap_, run_underlying hu, goInt]
theorem b_min {w : World} {ats : Array TypeId} {ty : TypeId} {cs : Array Bool} : (builtin .min ats ty cs #[.int k a, .int k b]).run P w = .ok (.value (.int k (minI a b))) w := by
  simp [builtin, Builtin.min_, Builtin.min2, minI]
theorem b_max {w : World} {ats : Array TypeId} {ty : TypeId} {cs : Array Bool} : (builtin .max ats ty cs #[.int k a, .int k b]).run P w = .ok (.value (.int k (maxI a b))) w := by
  simp [builtin, Builtin.max_, Builtin.max2, maxI]
theorem b_app {w w' : World} {t1 t2 ty : TypeId} {cs : Array Bool} {vx vy : Value} {z : Slc} (h : (Builtin.append_ #[t1, t2] ty #[vx, vy]).run P w = .ok z.v w') : (builtin .append #[t1, t2] ty cs #[vx, vy]).run P w = .ok (.value z.v) w' := by
  simp [builtin, h]
theorem b_dlt {w w' : World} {t1 t2 ty : TypeId} {cs : Array Bool} {vx vy : Value} (h : (Builtin.delete_ #[t1, t2] ty #[vx, vy]).run P w = .ok (.tuple #[]) w') : (builtin .delete #[t1, t2] ty cs #[vx, vy]).run P w = .ok (.value (.tuple #[])) w' := by
  simp [builtin, h]
theorem b_mlen {w : World} {t ty : TypeId} {cs : Array Bool} {m v : Value} (h : (Builtin.len_ #[t] ty #[m]).run P w = .ok v w) : (builtin .len #[t] ty cs #[m]).run P w = .ok (.value v) w := by
  simp [builtin, h]
theorem b_cpy {w w' : World} {t1 t2 ty : TypeId} {cs : Array Bool} {vx vy : Value} (h : (Builtin.copy_ #[t1, t2] ty #[vx, vy]).run P w = .ok (.int .i64 a) w') : (builtin .copy #[t1, t2] ty cs #[vx, vy]).run P w = .ok (.value (.int .i64 a)) w' := by
  simp [builtin, h]
theorem r_sliceStr {w : World} {lo hi : Option (IntKind × Int)} {l h : Int} (hs : strB P t = true) (hl : (lo.map fun z => z.2).getD (0 : Int) = l) (hh : (hi.map fun z => z.2).getD (s.size : Int) = h) (h0 : 0 ≤ l) (h1 : l ≤ h) (h2 : h ≤ s.size) :
    (Instr.sliceAt t (.string s) (lo.map fun z => .int z.1 z.2) (hi.map fun z => .int z.1 z.2) none).run P w = .ok (.string (s.extract l.toNat h.toNat)) w := by
  unfold strB at hs
  cases hu : P.underlying t with
  | none => simp [hu] at hs
  | some ud =>
    cases ud <;> simp only [hu] at hs <;> first | (exact absurd hs Bool.false_ne_true) | skip
    have h3 : 0 ≤ h := by omega
    cases lo <;> cases hi <;> simp at hl hh <;> subst hl <;> subst hh <;>
      simp [Instr.sliceAt, Instr.slice, Instr.sliceBounds, Instr.sliceBound, asIntOf, run_underlying hu, h0, h1, h2, h3] <;> (try omega)
theorem r_sliceSlc {w : World} {z : Slc} {size : Nat} {lo hi : Option (IntKind × Int)} {l h : Int} (hs : slcB P t size = true) (hl : (lo.map fun z => z.2).getD (0 : Int) = l) (hh : (hi.map fun z => z.2).getD (z.l : Int) = h) (h0 : 0 ≤ l) (h1 : l ≤ h) (h2 : h ≤ z.c) :
    (Instr.sliceAt t z.v (lo.map fun z => .int z.1 z.2) (hi.map fun z => .int z.1 z.2) none).run P w = .ok (z.cut size l.toNat h.toNat).v w := by
  unfold slcB at hs
  cases hu : P.underlying t with
  | none => simp [hu] at hs
  | some ud =>
    cases ud <;> simp only [hu] at hs <;> first | (exact absurd hs Bool.false_ne_true) | skip
    rename_i e
    cases hi' : P.info? e with
    | none => simp [hi'] at hs
    | some j =>
      simp only [hi'] at hs
      have e1 := Nat.eq_of_beq_eq_true hs
      have h3 : 0 ≤ h := by omega
      cases lo <;> cases hi <;> simp at hl hh <;> subst hl <;> subst hh <;>
        simp [Instr.sliceAt, Instr.slice, Instr.sliceBounds, Instr.sliceBound, asIntOf, run_underlying hu, sizeOf, typeInfo, program, Sem.run, hi', e1, Slc.cut, h0, h1, h2, h3] <;> (try omega)
end
end Go.Vc

namespace Go.Vc
open Go

/-! ## Calls -/
def Rt (Post : Value → World → Prop) : Ending → World → Prop
  | .returned v, w => Post v w
  | _, _ => False
theorem Rt.ok {Post : Value → World → Prop} {v : Value} {w : World} (h : Post v w) : Rt Post (.returned v) w := h
theorem call {P : Program} {f : FuncId} {args : Array Value} {w : World} {Post : Value → World → Prop} {K : Value → World → Prop} {Kp : List PanicEntry → World → Prop}
    (h : Calls P f args w (Rt Post)) (k : ∀ v w', Post v w' → K v w') : Calls P f args w (CallK K Kp) := by
  refine h.mono ?_
  rintro (v | c | _) w' hp
  · exact k v w' hp
  · exact hp.elim
  · exact hp.elim
theorem Rt.mono {P : Program} {f : FuncId} {args : Array Value} {w : World} {Post Post' : Value → World → Prop} (h : Calls P f args w (Rt Post)) (k : ∀ v w', Post v w' → Post' v w') : Calls P f args w (Rt Post') := by
  refine h.mono ?_
  rintro (v | c | _) w' hp
  · exact k v w' hp
  · exact hp.elim
  · exact hp.elim

/-! ## What may have changed -/
structure Fr (S : List Nat) (w w' : World) : Prop where
  os : w'.os = w.os
  tape : w'.tape = w.tape
  output : w'.output = w.output
  size : w.heap.size ≤ w'.heap.size
  block : ∀ k, k < w.heap.size → k ∉ S → w'.heap[k]? = w.heap[k]?
theorem Fr.refl (S : List Nat) (w : World) : Fr S w w := ⟨rfl, rfl, rfl, Nat.le_refl _, fun _ _ _ => rfl⟩
theorem Fr.trans {S T : List Nat} {a b c : World} (h : Fr S a b) (k : Fr T b c) : Fr (S ++ T) a c :=
  ⟨k.os.trans h.os, k.tape.trans h.tape, k.output.trans h.output, Nat.le_trans h.size k.size, fun i hi hn =>
    (k.block i (Nat.lt_of_lt_of_le hi h.size) (fun x => hn (List.mem_append_right _ x))).trans (h.block i hi (fun x => hn (List.mem_append_left _ x)))⟩
theorem Fr.sub {S T : List Nat} {a b : World} (h : Fr S a b) (hs : ∀ k, k ∈ S → k < a.heap.size → k ∈ T) : Fr T a b :=
  ⟨h.os, h.tape, h.output, h.size, fun i hi hn => h.block i hi (fun x => hn (hs i x hi))⟩
theorem Fr.local_ {S T : List Nat} {a b c : World} (h : Fr S a b) (k : Fr T b c) (hT : ∀ x, x ∈ T → x ∈ S ∨ a.heap.size ≤ x) : Fr S a c :=
  (h.trans k).sub fun i hi hlt => by
    rcases List.mem_append.1 hi with hi | hi
    · exact hi
    · rcases hT i hi with h1 | h1
      · exact h1
      · omega
theorem Fr.then_ {S : List Nat} {a b c : World} (h : Fr S a b) (k : Fr [] b c) : Fr S a c := h.local_ k fun _ hx => absurd hx (by simp)
theorem Fr.cell {S : List Nat} {w w' : World} (h : Fr S w w') {p : Addr} {v : Value} (hc : w.cell? p = some v) (hp : p.block ∉ S) : w'.cell? p = some v :=
  (World.cell?_of_block (h.block p.block (World.block_lt_of_cell? w p hc) hp)).trans hc
theorem Fr.drewN {S : List Nat} {w w' : World} (h : Fr S w w') (n : Nat) : Fr S w (w'.drewN n) := ⟨h.os, h.tape, h.output, h.size, h.block⟩
theorem NewBlk.fr {w w1 : World} {cs : Array Value} {e : TypeId} {b : Nat} (h : NewBlk w cs e b w1) : Fr [] w w1 := by
  rw [h.is]
  exact ⟨rfl, rfl, rfl, by simp, fun k hk _ => RowKit.Below.heap_alloc w _ k hk⟩
theorem Fr.set (w : World) (p : Addr) (v : Value) : Fr [p.block] w (w.setCell p v) :=
  ⟨rfl, rfl, rfl, by simp [World.setCell], fun k _ hn => heap_setCell_other w p k v (fun e => hn (by rw [e]; simp))⟩
theorem Fr.below {w w' : World} (h : Fr [] w w') : RowKit.Below w.heap.size w w' := ⟨h.os, h.tape, h.output, h.size, fun k hk => h.block k hk (by simp)⟩
theorem Fr.grown {w w' : World} {row : Option Nat} (h : w.grownBy w' row) : Fr row.toList w w' :=
  ⟨h.os, h.tape, h.output, h.size, fun k hk hn => h.block k hk (fun e => hn (by rw [← e]; simp))⟩

/-! ## Blocks known whole -/
def Blk (w : World) (g : Nat) (t : TypeId) (cs : Array Value) : Prop := w.heap[g]? = some (.cells cs t (0, 0))
section
variable {w w' : World} {g : Nat} {t : TypeId} {cs : Array Value} {S : List Nat}
theorem Blk.lt (h : Blk w g t cs) : g < w.heap.size := (Array.getElem?_eq_some_iff.1 h).1
theorem Blk.at_ (h : Blk w g t cs) (i : Nat) : w.cell? ⟨g, i, none⟩ = cs[i]? := cell_of_row w g i cs t (0, 0) h
theorem blk_add (b i : Nat) : (blk b).add i = ⟨b, i, none⟩ := by unfold Addr.add blk; split <;> simp_all
theorem blk_add2 (b i j : Nat) : ((blk b).add i).add j = ⟨b, i + j, none⟩ := by rw [blk_add]; unfold Addr.add; split <;> simp_all
theorem Blk.cell (h : Blk w g t cs) {i : Nat} {v : Value} (hv : cs[i]? = some v) : w.cell? ((blk g).add i) = some v := by rw [blk_add, h.at_, hv]
theorem Blk.cell2 (h : Blk w g t cs) {i j : Nat} {v : Value} (hv : cs[i + j]? = some v) : w.cell? (((blk g).add i).add j) = some v := by rw [blk_add2, h.at_, hv]
theorem Blk.frz (h : Blk w g t cs) (i : Nat) : w.frozen? ((blk g).add i) = false := by rw [blk_add]; unfold Blk at h; simp [World.frozen?, h]
theorem Blk.frz2 (h : Blk w g t cs) (i j : Nat) : w.frozen? (((blk g).add i).add j) = false := by rw [blk_add2]; unfold Blk at h; simp [World.frozen?, h]
theorem Blk.fr (h : Blk w g t cs) (f : Fr S w w') (hg : g ∉ S) : Blk w' g t cs := (f.block g h.lt hg).trans h
theorem Blk.set (h : Blk w g t cs) (i : Nat) (v : Value) : Blk (w.setCell ((blk g).add i) v) g t (cs.setIfInBounds i v) := by rw [blk_add]; exact heap_setCell_same w g i cs t v h
theorem Blk.set2 (h : Blk w g t cs) (i j : Nat) (v : Value) : Blk (w.setCell (((blk g).add i).add j) v) g t (cs.setIfInBounds (i + j) v) := by rw [blk_add2]; exact heap_setCell_same w g (i + j) cs t v h
theorem NewBlk.blk {b : Nat} (h : NewBlk w cs t b w') : Blk w' b t cs := h.heap
theorem Blk.ne_ {g' : Nat} {t' : TypeId} {cs' : Array Value} (h : Blk w g t cs) (h' : Blk w g' t' cs') (hne : t ≠ t') : g ≠ g' := by
  rintro rfl
  unfold Blk at h h'
  rw [h] at h'
  injection h' with h'
  injection h' with _ ht
  exact hne ht
theorem Blk.sto (h : Blk w g t cs) {i : Nat} (hi : i < cs.size) {v : Value} {K : World → Prop} (k : ∀ w', Blk w' g t (cs.setIfInBounds i v) → Fr [g] w w' → K w') : Sto w ((blk g).add i) v K := by
  refine ⟨?_, h.frz i, k _ (h.set i v) ?_⟩
  · rw [h.cell (v := cs[i]) (Array.getElem?_eq_getElem hi)]; rfl
  · have := Fr.set w ((Vc.blk g).add i) v
    rw [show ((Vc.blk g).add i).block = g by rw [blk_add]] at this
    exact this
theorem Blk.sto2 (h : Blk w g t cs) {i j : Nat} (hi : i + j < cs.size) {v : Value} {K : World → Prop} (k : ∀ w', Blk w' g t (cs.setIfInBounds (i + j) v) → Fr [g] w w' → K w') : Sto w (((blk g).add i).add j) v K := by
  refine ⟨?_, h.frz2 i j, k _ (h.set2 i j v) ?_⟩
  · rw [h.cell2 (v := cs[i + j]) (Array.getElem?_eq_getElem hi)]; rfl
  · have := Fr.set w (((Vc.blk g).add i).add j) v
    rw [show (((Vc.blk g).add i).add j).block = g by rw [blk_add2]] at this
    exact this
end

/-! ## Slices that read as lists of cells -/
structure Cel (w : World) (s : Slc) (size : Nat) (cs : List Value) : Prop where
  len : cs.length = s.l * size
  cap : s.l ≤ s.c
  at_ : ∀ i v, cs[i]? = some v → ∃ p, s.a = some p ∧ w.cell? (p.add i) = some v
def Slc.blks (s : Slc) : List Nat := match s.a with | some p => [p.block] | none => []
theorem block_add (a : Addr) (n : Nat) : (a.add n).block = a.block := by unfold Addr.add; split <;> rfl
theorem add_add (a : Addr) (i j : Nat) : (a.add i).add j = a.add (i + j) := by
  unfold Addr.add
  by_cases hi : i = 0 <;> by_cases hj : j = 0 <;> simp [hi, hj, Nat.add_assoc]
section
variable {w w' : World} {s : Slc} {size : Nat} {cs : List Value} {S : List Nat}
theorem Cel.fr (h : Cel w s size cs) (f : Fr S w w') (hS : ∀ k ∈ s.blks, k ∉ S) : Cel w' s size cs :=
  ⟨h.len, h.cap, fun i v hv => by
    obtain ⟨p, hp, hc⟩ := h.at_ i v hv
    exact ⟨p, hp, f.cell hc (by rw [block_add]; exact hS _ (by unfold Slc.blks; rw [hp]; simp))⟩⟩
theorem Cel.fr0 (h : Cel w s size cs) (f : Fr [] w w') : Cel w' s size cs := h.fr f fun _ _ => by simp
theorem Cel.drewN (h : Cel w s size cs) (n : Nat) : Cel (w.drewN n) s size cs := ⟨h.len, h.cap, h.at_⟩
theorem Cel.nil (w : World) (size : Nat) : Cel w Slc.nil size [] := ⟨by simp, Nat.le_refl _, fun i v h => by simp at h⟩
theorem Cel.get (h : Cel w s size cs) {i : Nat} (hi : i < cs.length) : ∃ p, s.a = some p ∧ w.cell? (p.add i) = some cs[i] := h.at_ i _ (List.getElem?_eq_getElem hi)
theorem Cel.lt (h : Cel w s size cs) (hz : cs ≠ []) : ∀ k ∈ s.blks, k < w.heap.size := by
  intro k hk
  have h0 : 0 < cs.length := List.length_pos_iff.2 hz
  obtain ⟨p, hp, hc⟩ := h.get h0
  unfold Slc.blks at hk
  rw [hp] at hk
  simp at hk
  subst hk
  have := World.block_lt_of_cell? w (p.add 0) hc
  rwa [block_add] at this
theorem Cel.block {b : Nat} {e : TypeId} {l : List Value} {n c : Nat} (hb : Blk w b e l.toArray) (hl : cs = l.take (n * size)) (hn : n * size ≤ l.length) (hc : n ≤ c) : Cel w ⟨some (blk b), n, c⟩ size cs := by
  subst hl
  refine ⟨by simp [Nat.min_eq_left hn], hc, fun i v hv => ⟨_, rfl, hb.cell ?_⟩⟩
  rw [List.getElem?_take] at hv
  split at hv
  · simpa using hv
  · cases hv
theorem Cel.cut (h : Cel w s size cs) {l k : Nat} (hl : l ≤ k) (hk : k ≤ s.l) : Cel w (s.cut size l k) size ((cs.drop (l * size)).take ((k - l) * size)) := by
  have h1 : k * size ≤ s.l * size := Nat.mul_le_mul_right _ hk
  have h2 : (k - l) * size = k * size - l * size := Nat.sub_mul _ _ _
  have hcap := h.cap
  refine ⟨?_, ?_, fun i v hv => ?_⟩
  · simp only [List.length_take, List.length_drop, h.len, Slc.cut]
    have : l * size ≤ k * size := Nat.mul_le_mul_right _ hl
    omega
  · simp only [Slc.cut]; omega
  · rw [List.getElem?_take] at hv
    split at hv
    · rename_i hi
      rw [List.getElem?_drop] at hv
      obtain ⟨p, hp, hc⟩ := h.at_ _ v hv
      have hlt : l < s.c := by
        have : 0 < (k - l) * size := by omega
        have : 0 < k - l := Nat.pos_of_mul_pos_right this
        omega
      refine ⟨p.add (l * size), ?_, by rw [add_add]; exact hc⟩
      simp only [Slc.cut, hp]
      rw [if_neg (by omega)]
      rfl
    · cases hv
end

/-! ## Slices that a function owns -/
def Own (e size : Nat) (w : World) (s : Slc) (cs : List Value) : Prop := w.ownsRow 0 e size s.v s.l cs
section
variable {e size : Nat} {w w' : World} {s : Slc} {cs : List Value} {S : List Nat}
theorem Own.nil (e size : Nat) (w : World) : Own e size w Slc.nil [] := World.ownsRow_nil w 0 e size
theorem ownBlock_eq (s : Slc) : s.v.ownBlock.toList = s.blks := by
  obtain ⟨a, l, c⟩ := s
  cases a <;> rfl
theorem Own.cel (h : Own e size w s cs) : Cel w s size cs := by
  unfold Own at h
  refine ⟨h.1, ?_, fun i v hv => ?_⟩
  · rcases h.2 with ⟨h1, _⟩ | ⟨g, cap, cur, h1, _, _, h2, _⟩
    · injection h1 with _ h3 h4; omega
    · injection h1 with _ h3 h4; omega
  · rcases h.2 with ⟨h1, h2⟩ | ⟨g, cap, cur, h1, _⟩
    · have := h.1
      rw [h2] at this
      have : cs = [] := List.eq_nil_of_length_eq_zero (by simpa using this)
      subst this
      simp at hv
    · injection h1 with h3 _ _
      exact ⟨_, h3, h.cells (g := g) (by obtain ⟨a, l, c⟩ := s; simp only at h3; subst h3; rfl) i v hv⟩
theorem Own.lt (h : Own e size w s cs) : ∀ k ∈ s.blks, k < w.heap.size := by
  intro k hk
  rw [← ownBlock_eq] at hk
  have hk : s.v.ownBlock = some k := by
    cases ho : s.v.ownBlock with
    | none => rw [ho] at hk; simp at hk
    | some j => rw [ho] at hk; simp at hk; rw [hk]
  exact (World.ownsRow.lt h k hk).2
theorem Own.fr (h : Own e size w s cs) (f : Fr S w w') (hS : ∀ k ∈ s.blks, k ∉ S) : Own e size w' s cs := by
  refine ⟨h.1, ?_⟩
  rcases h.2 with h1 | ⟨g, cap, cur, h1, h2, h3, r⟩
  · exact .inl h1
  · refine .inr ⟨g, cap, cur, h1, h2, ?_, r⟩
    rw [f.block g (Array.getElem?_eq_some_iff.1 h3).1 (hS g (by injection h1 with h4; unfold Slc.blks; rw [h4]; simp))]
    exact h3
theorem Own.fr0 (h : Own e size w s cs) (f : Fr [] w w') : Own e size w' s cs := h.fr f fun _ _ => by simp
theorem Own.ne {g : Nat} {t : TypeId} {ds : Array Value} (h : Own e size w s cs) (hb : Blk w g t ds) (hne : e ≠ t) : g ∉ s.blks := by
  intro hg
  rcases h.2 with ⟨h1, _⟩ | ⟨g', cap, cur, h1, h2, h3, r⟩
  · injection h1 with h4
    unfold Slc.blks at hg; rw [h4] at hg; simp at hg
  · injection h1 with h4
    unfold Slc.blks at hg; rw [h4] at hg; simp at hg
    subst hg
    exact Blk.ne_ (t := e) h3 hb hne rfl
theorem Own.made {b n : Nat} {l : List Value} (hb : Blk w b e l.toArray) (hn : n * size = l.length) (hm : n ≤ maxLen) : Own e size w ⟨some (blk b), n, n⟩ l := by
  refine ⟨hn.symm, .inr ⟨b, n, l.toArray, rfl, Nat.zero_le _, hb, Nat.le_refl _, hm, by simp [hn], ?_⟩⟩
  simp only
  rw [hn, List.take_of_length_le (by simp)]
end
structure SlT (P : Program) (t e size bytes : Nat) (z : Value) : Prop where
  ut : P.underlying t = some (.slice e)
  info : (P.info? e).map (fun i => (i.zero, i.size, i.bytes)) = some (some z, size, bytes)
  zs : z.cells.size = size
  pos : 0 < size
theorem App.own {P : Program} {t e size bytes ty : Nat} {z : Value} (T : SlT P t e size bytes z) {w : World} {s y : Slc} {xs ys : List Value} {K : Slc → World → Prop} (ho : Own e size w s xs) (hy : Cel w y size ys)
    (h1 : ∀ u ∈ ys, u.oneCell' = true) (hm : s.l + y.l ≤ maxLen) (hb : (s.l + y.l) * bytes ≤ 140737488355328)
    (k : ∀ s' w', Own e size w' s' (xs ++ ys) → s'.l = s.l + y.l → Fr s.blks w w' → (∀ x ∈ s'.blks, x ∈ s.blks ∨ x = w.heap.size) → K s' w') : App P t t ty w s.v y.v K := by
  cases hi : P.info? e with
  | none => have := T.info; rw [hi] at this; simp at this
  | some i =>
    have hinfo := T.info
    rw [hi] at hinfo
    simp only [Option.map_some, Option.some.injEq, Prod.mk.injEq] at hinfo
    obtain ⟨hz, hs, hby⟩ := hinfo
    have fin : ∀ (v' : Value) (w' : World), (Builtin.append_ #[t, t] ty #[s.v, y.v]).run P w = .ok v' w' → w'.ownsRow 0 e size v' (s.l + y.l) (xs ++ ys) → w.grownBy w' s.v.ownBlock →
        (v'.ownBlock = s.v.ownBlock ∨ v'.ownBlock = some w.heap.size) → App P t t ty w s.v y.v K := by
      intro v' w' hr h2 h3 h4
      obtain ⟨s', rfl, hl⟩ : ∃ s' : Slc, v' = s'.v ∧ s'.l = s.l + y.l := by
        rcases h2.2 with ⟨h5, h6⟩ | ⟨g, cap, cur, h5, _⟩
        · exact ⟨Slc.nil, h5, h6.symm⟩
        · exact ⟨⟨some ⟨g, 0, none⟩, s.l + y.l, cap⟩, h5, rfl⟩
      refine ⟨s', w', hr, k s' w' ?_ hl ?_ ?_⟩
      · unfold Own; rw [hl]; exact h2
      · have := Fr.grown h3
        rwa [ownBlock_eq] at this
      · intro x hx
        rw [← ownBlock_eq] at hx
        rcases h4 with h4 | h4
        · rw [h4, ownBlock_eq] at hx; exact .inl hx
        · rw [h4] at hx; simp at hx; exact .inr hx
    cases ha : y.a with
    | some ad =>
      have hc : ∀ j u, ys[j]? = some u → w.cell? (ad.add j) = some u := by
        intro j u hu
        obtain ⟨p, hp, hc⟩ := hy.at_ j u hu
        rw [ha] at hp
        injection hp with hp
        subst hp
        exact hc
      obtain ⟨v', w', hr, h2, h3, _, h4⟩ := run_append_own_at (P := P) w 0 t ty e i z size bytes T.ut hi hz hs hby T.zs T.pos s.v s.l xs ho ad y.l y.c ys hy.len hc h1 hm hb (Nat.zero_le _)
      refine fin v' w' ?_ h2 h3 h4
      rw [← hr]
      simp only [Slc.v, ha]
    | none =>
      have hys : ys = [] := by
        cases ys with
        | nil => rfl
        | cons v r =>
          obtain ⟨p, hp, _⟩ := hy.at_ 0 v rfl
          rw [ha] at hp
          cases hp
      subst hys
      have hyl : y.l = 0 := by
        have h5 : 0 = y.l * size := hy.len
        rcases Nat.mul_eq_zero.1 h5.symm with h6 | h6
        · exact h6
        · have := T.pos; omega
      refine fin s.v w ?_ ?_ (World.grownBy.refl w _) (.inl rfl)
      · rcases ho.2 with ⟨h5, h6⟩ | ⟨g, cap, cur, h5, _, _, hnc, _⟩
        · rw [h5]
          simp only [Slc.v, ha, hyl]
          simp [Builtin.append_, run_underlying T.ut, sizeOf, typeInfo, hi, Builtin.lenOf, Builtin.firstCells]
        · rw [h5]
          simp only [Slc.v, ha, hyl]
          simp [Builtin.append_, run_underlying T.ut, sizeOf, typeInfo, hi, Builtin.lenOf, Builtin.firstCells, hnc, storeCells]
      · rw [hyl, List.append_nil]; exact ho

/-! ## Bytes -/
abbrev u8v (b : UInt8) : Value := .int .u8 (b.toNat : Int)
def Byt (w : World) (s : Slc) (bs : List UInt8) : Prop := Cel w s 1 (bs.map u8v)
theorem Byt.len {w : World} {s : Slc} {bs : List UInt8} (h : Byt w s bs) : s.l = bs.length := by have := Cel.len h; simp at this; omega
theorem Byt.fr0 {w w' : World} {s : Slc} {bs : List UInt8} (h : Byt w s bs) (f : Fr [] w w') : Byt w' s bs := Cel.fr0 h f
theorem Byt.get {w : World} {s : Slc} {bs : List UInt8} (h : Byt w s bs) {i : Nat} (hi : i < bs.length) : ∃ p, s.a = some p ∧ w.cell? (p.add i) = some (u8v bs[i]) := by
  have := Cel.get h (i := i) (by simpa using hi)
  simpa using this
theorem one_u8 (bs : List UInt8) : ∀ u ∈ bs.map u8v, u.oneCell' = true := by
  intro u hu
  obtain ⟨b, _, rfl⟩ := List.mem_map.1 hu
  rfl

theorem App.zeros {P : Program} {t ti e size bytes ty : Nat} {z : Value} (T : SlT P t e size bytes z) (hti : P.underlying ti = some (.int .i64)) {w : World} {n : Nat} {K : Slc → World → Prop} (h0 : 0 < n) (hb : n * bytes ≤ 140737488355328) (hm : n ≤ 140737488355328)
    (k : ∀ b c cur w', n ≤ c → c ≤ maxLen → cur.size = c * size → Blk w' b e cur → Fr [] w w' → b = w.heap.size → K ⟨some (blk b), n, c⟩ w') : App P t ti ty w Slc.nil.v (.int .i64 (n : Int)) K := by
  cases hi : P.info? e with
  | none => have := T.info; rw [hi] at this; simp at this
  | some i =>
    have hinfo := T.info
    rw [hi] at hinfo
    simp only [Option.map_some, Option.some.injEq, Prod.mk.injEq] at hinfo
    obtain ⟨hz, hs, hby⟩ := hinfo
    have hn : n ≠ 0 := by omega
    have h63' : ¬ (9223372036854775807 < (n : Int)) := by omega
    have h48' : ¬ (281474976710656 < Builtin.nextslicecap n 0 * i.bytes) := by rw [nextslicecap_zero h0, hby]; omega
    have hneg : ¬ ((n : Int) < 0) := by omega
    have hbig : ¬ (281474976710656 < (n : Int) * (i.bytes : Int)) := by
      have : ((n * i.bytes : Nat) : Int) ≤ 140737488355328 := by rw [hby]; omega
      rw [Int.natCast_mul] at this
      omega
    have hw : IntKind.i64.wrap (n : Int) = n := by rw [IntKind.wrap_i64]; omega
    have hpos := T.pos
    have hsz : ¬ (n * i.size = 0) := by rw [hs]; intro h; rcases Nat.mul_eq_zero.1 h with h | h <;> omega
    have hr : (Builtin.append_ #[t, ti] ty #[Slc.nil.v, .int .i64 (n : Int)]).run P w = .ok (.slice (some ⟨w.heap.size, 0, none⟩) n (grownCap w n 0 e))
        (w.drew.alloc (.cells (Builtin.zeroCells z.cells n ++ Builtin.zeroCells z.cells (grownCap w n 0 e - n)) e)) := by
      simp [Builtin.append_, run_underlying T.ut, run_underlying hti, sizeOf, typeInfo, zeroValue, hi, hz, asInt, asIntOf, hw, hneg, hbig, Question.forced, h48', hn, hsz, h63', Builtin.firstCells, newRow, grownCap]
    refine ⟨⟨some (blk w.heap.size), n, grownCap w n 0 e⟩, _, hr, k _ _ _ _ (grownCap_ge w n 0 e) (grownCap_le_maxLen w n 0 e (by unfold maxLen; omega)) ?_ (heap_alloc_new w.drew _) ?_ rfl⟩
    · simp only [Array.size_append, size_zeroCells, T.zs]
      rw [← Nat.add_mul]
      congr 1
      have := grownCap_ge w n 0 e
      omega
    · exact ⟨rfl, rfl, rfl, by simp, fun k hk _ => RowKit.Below.heap_alloc w.drew _ k hk⟩
theorem Own.cut0 {e size : Nat} {w : World} {b n c : Nat} {cur : Array Value} (hB : Blk w b e cur) (hm : c ≤ maxLen) (hs : cur.size = c * size) : Own e size w ((⟨some (blk b), n, c⟩ : Slc).cut size 0 0) [] := by
  have e1 : ((⟨some (blk b), n, c⟩ : Slc).cut size 0 0) = ⟨some (blk b), 0, c⟩ := by
    simp [Slc.cut, Addr.add]
  rw [e1]
  exact ⟨by simp, .inr ⟨b, c, cur, rfl, Nat.zero_le _, hB, Nat.zero_le _, hm, hs, by simp⟩⟩
theorem ToBytes.rule {P : Program} {t1 t2 e : Nat} {w : World} {s : ByteArray} {K : Slc → World → Prop} (h1 : P.underlying t1 = some .string) (h2 : P.underlying t2 = some (.slice e)) (h3 : P.underlying e = some (.int .u8))
    (k : ∀ z w', Byt w' z s.data.toList → Fr [] w w' → (∀ x ∈ z.blks, x = w.heap.size) → K z w') : ToBytes P t1 t2 w (.string s) K := by
  refine ⟨⟨some (blk w.heap.size), s.size, grownCap w s.size 0 e⟩, _, Lib.run_convert_string_bytes (P := P) w t1 t2 e s h1 h2 h3, k _ _ ⟨?_, ?_, ?_⟩ ?_ ?_⟩
  · simp
  · exact grownCap_ge w s.size 0 e
  · intro i v hv
    refine ⟨_, rfl, ?_⟩
    rw [blk_add]
    simp only [List.getElem?_map, Option.map_eq_some_iff] at hv
    obtain ⟨b, hb, rfl⟩ := hv
    have hi : i < s.size := (List.getElem?_eq_some_iff.1 hb).1
    rw [Lib.bytesWorld_cell w e s i hi]
    simp [List.getD, hb]
  · refine ⟨by simp [Lib.bytesWorld, World.freeze]; rfl, by simp [Lib.bytesWorld, World.freeze], by simp [Lib.bytesWorld, World.freeze]; rfl, by rw [Lib.bytesWorld_size]; omega, fun k hk _ => Lib.bytesWorld_at_old w e s k hk⟩
  · intro x hx; simp [Slc.blks] at hx; exact hx
theorem ToStr.rule {P : Program} {t1 t2 e : Nat} {w : World} {s : Slc} {bs : List UInt8} {K : ByteArray → Prop} (h1 : P.underlying t1 = some (.slice e)) (h2 : P.underlying t2 = some .string) (h3 : P.underlying e = some (.int .u8)) (hb : Byt w s bs) (k : K ⟨bs.toArray⟩) : ToStr P t1 t2 w s.v K := by
  obtain ⟨a, l, c⟩ := s
  have hlen := hb.len
  simp only at hlen
  cases a with
  | none =>
    have : bs = [] := by
      cases bs with
      | nil => rfl
      | cons b r => obtain ⟨p, hp, _⟩ := hb.get (i := 0) (by simp); cases hp
    subst this
    exact ⟨_, run_convert_bytes_nil (P := P) w t1 e h1 h3 l c t2 h2, k⟩
  | some p =>
    have hc : ∀ j v, (bs.map u8v)[j]? = some v → w.cell? (p.add j) = some v := by
      intro j v hv
      obtain ⟨q, hq, hcell⟩ := hb.at_ j v hv
      injection hq with hq
      subst hq
      exact hcell
    refine ⟨⟨bs.toArray⟩, ?_, k⟩
    have hl := run_loadCells_list (P := P) w p (bs.map u8v) hc
    have hx : bs.map u8v = (bs.map fun b => (b.toNat : Int)).map (Value.int .u8) := by simp
    rw [hx] at hl
    simp only [List.length_map] at hl
    rw [run_convert_bytes_string (P := P) w t1 t2 e _ l c h1 h3 h2, run_bytesToString w p l c (bs.map fun b => (b.toNat : Int)) (by simpa [hlen] using hl), foldl_push_bytes]
    simp [ByteArray.empty, ByteArray.emptyWithCapacity, Function.comp_def]
    rfl

/-! ## Numbers -/
theorem wr64 {n : Int} (h0 : -9223372036854775808 ≤ n) (h1 : n ≤ 9223372036854775807) : wr .i64 n = n := by unfold wr; rw [IntKind.wrap_i64]; omega
theorem wr8u {n : Int} (h0 : 0 ≤ n) (h1 : n ≤ 255) : wr .u8 n = n := by unfold wr; rw [IntKind.wrap_u8]; omega
theorem wr8_mod (n : Int) : wr .u8 n = n % 256 := by unfold wr; rw [IntKind.wrap_u8]
end Go.Vc

namespace Go.Vc
open Go
def W (P : Program) (ops : Array Oper) (Q : Exit → Act → World → Prop) (n : Nat) (ds : List Deferred) (l : List Oper) (L : List (Nat × Value)) (w : World) : Prop := ∀ a, Has n ds a L → wpList P ops Q l a w
section
variable {P : Program} {ops : Array Oper} {Q : Exit → Act → World → Prop} {n d : Nat} {ds : List Deferred} {rest l : List Oper} {L : List (Nat × Value)} {w : World} {a : Act} {x y z : Operand} {v vx vy : Value} {t ty : TypeId} {pos : String} {af : Array Edge} {p : Addr} {b c : Bool} {j s : Nat}
theorem mv (hx : ev L x = some v) (hd : Nat.ble (d + 1) n = true) (k : W P ops Q n ds rest ((d, v) :: L) w) : W P ops Q n ds (⟨some d, .move x, ty, pos, af, none⟩ :: rest) L w := fun _ H => s_move H rfl hx (lt_ hd) k
theorem ag (hx : ev L x = some v) (hd : Nat.ble (d + 1) n = true) (k : W P ops Q n ds rest ((d, v) :: L) w) : W P ops Q n ds (⟨some d, .assign x, ty, pos, af, none⟩ :: rest) L w := fun _ H => s_assign H rfl hx (lt_ hd) k
theorem fd {i off : Nat} (hx : ev L x = some (.pointer (some p))) (h1 : fldB P t i off = true) (hd : Nat.ble (d + 1) n = true) (k : W P ops Q n ds rest ((d, .pointer (some (p.add off))) :: L) w) : W P ops Q n ds (⟨some d, .fieldAddr t x i, ty, pos, af, none⟩ :: rest) L w := fun _ H => s_fld H rfl hx h1 (lt_ hd) k
theorem nl (hx : ev L x = some (.pointer (some p))) (hd : Nat.ble (d + 1) n = true) (k : W P ops Q n ds rest ((d, .pointer (some p)) :: L) w) : W P ops Q n ds (⟨some d, .nilCheck x, ty, pos, af, none⟩ :: rest) L w := fun _ H => s_nil H rfl hx (lt_ hd) k
theorem bn {bo : BinOp} {u : TypeId} (hx : ev L x = some vx) (hy : ev L y = some vy) (hr : RB P bo t x y vx vy v) (hd : Nat.ble (d + 1) n = true) (k : W P ops Q n ds rest ((d, v) :: L) w) : W P ops Q n ds (⟨some d, .binOp bo t x y u, ty, pos, af, none⟩ :: rest) L w := fun _ H => s_bin H rfl hx hy hr (lt_ hd) k
theorem ld (hx : ev L x = some (.pointer (some p))) (h1 : oneB P t = true) (hc : w.cell? p = some v) (hd : Nat.ble (d + 1) n = true) (k : W P ops Q n ds rest ((d, v) :: L) w) : W P ops Q n ds (⟨some d, .load t x, ty, pos, af, none⟩ :: rest) L w := fun _ H => s_load H rfl hx h1 hc (lt_ hd) k
theorem ex {vs : Array Value} {i : Nat} (hx : ev L x = some (.tuple vs)) (hv : vs[i]? = some v) (hd : Nat.ble (d + 1) n = true) (k : W P ops Q n ds rest ((d, v) :: L) w) : W P ops Q n ds (⟨some d, .extract x i, ty, pos, af, none⟩ :: rest) L w := fun _ H => s_ext H rfl hx hv (lt_ hd) k
theorem al {t' : TypeId} {cs : Array Value} {K : Nat → World → Prop} (h : New w cs t' K) (hz : zeroB P t v) (hc : v.cells = cs) (he : t = t') (hd : Nat.ble (d + 1) n = true) (k : ∀ b w1, NewBlk w cs t' b w1 → K b w1 → W P ops Q n ds rest ((d, .pointer (some (blk b))) :: L) w1) : W P ops Q n ds (⟨some d, .alloc t, ty, pos, af, none⟩ :: rest) L w := by
  subst hc he
  exact fun _ H => s_alloc H rfl hz (lt_ hd) fun a H => k w.heap.size _ ⟨rfl, rfl⟩ h a H
theorem bx {t' : TypeId} {cs : Array Value} {K : Nat → World → Prop} (h : New w cs t' K) (hx : ev L x = some v) (hc : v.cells = cs) (he : t = t') (hd : Nat.ble (d + 1) n = true) (k : ∀ b w1, NewBlk w cs t' b w1 → K b w1 → W P ops Q n ds rest ((d, .pointer (some (blk b))) :: L) w1) : W P ops Q n ds (⟨some d, .box t x, ty, pos, af, none⟩ :: rest) L w := by
  subst hc he
  exact fun _ H => s_box H rfl hx (lt_ hd) fun a H => k w.heap.size _ ⟨rfl, rfl⟩ h a H
theorem st {K : World → Prop} (h : Sto w p v K) (hx : ev L x = some (.pointer (some p))) (hy : ev L y = some v) (h1 : oneB P t = true) (hv : Value.flat v = true) (k : ∀ w1, SetAt w p v w1 → K w1 → W P ops Q n ds rest L w1) : W P ops Q n ds (⟨none, .store t x y, ty, pos, af, none⟩ :: rest) L w :=
  fun a H => s_sto H rfl rfl hx hy h1 hv h.1 h.2.1 fun H => k _ ⟨rfl⟩ h.2.2 a H
theorem cl {f : FuncId} {ats : Array TypeId} {xs : List Operand} {vs : List Value} {K : Value → World → Prop} {Kp : List PanicEntry → World → Prop} (hc : Calls P f vs.toArray w (CallK K Kp)) (hb : bodyB P f = true) (ha : xs.map (ev L) = vs.map some) (hd : Nat.ble (d + 1) n = true) (kp : ∀ c w' a, Kp c w' → Has n ds a L → Q (.panic c) a w') (k : ∀ v w1, K v w1 → W P ops Q n ds rest ((d, v) :: L) w1) :
    W P ops Q n ds (⟨some d, .call ⟨.value (.func f), xs.toArray, ats⟩, ty, pos, af, none⟩ :: rest) L w := fun a H => s_call H rfl hb (H.args ha) (lt_ hd) hc (fun v w1 a h H => k v w1 h a H) fun c w' h H => kp c w' a h H
theorem cd {A B : Prop} {x y : Code} {c : Operand} (H : Has n ds a L) (hc : ev L c = some (.bool b)) (h : (b = true → A) ∧ (b = false → B)) (ht : b = true → A → x.wp P Q a w) (hf : b = false → B → y.wp P Q a w) : (Code.cond c x y).wp P Q a w :=
  c_cond H hc (fun e => ht e (h.1 e)) fun e => hf e (h.2 e)
end
end Go.Vc
