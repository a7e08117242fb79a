/-
  The ground of the seat's proofs: an environment of known slots in place of the whole frame, one law for each kind of operation, and the words in which a function's verification condition is said. Nothing of any program stands here.
-/
import Derived.WalkKit
import Derived.KernelRfl
namespace Go.Vc
open Go

/-! ## Known slots -/
abbrev Env := List (Nat × Value)
def Env.get : List (Nat × Value) → Nat → Option Value
  | [], _ => none
  | (k, v) :: r, t => bif Nat.beq k t then some v else Env.get r t
def ev (L : List (Nat × Value)) : Operand → Option Value
  | .tmp t => Env.get L t
  | .const v => some v
  | .global g => some (.pointer (some ⟨g, 0, none⟩))
  | .func f => some (.func (.func f) #[] #[])
structure Has (n : Nat) (ds : List Deferred) (a : Act) (L : List (Nat × Value)) : Prop where
  size : a.tmps.size = n
  defers : a.defers = ds
  get : ∀ t v, Env.get L t = some v → a.tmps[t]? = some v

theorem Has.eval {n : Nat} {ds : List Deferred} {a : Act} {L : List (Nat × Value)} (h : Has n ds a L) {x : Operand} {v : Value} (hx : ev L x = some v) : a.eval x = v := by
  cases x with
  | tmp t =>
    have := h.get t v hx
    simp [Act.eval, Array.getD, Array.getElem?_eq_some_iff] at this ⊢
    obtain ⟨h1, h2⟩ := this
    rw [dif_pos h1]
    exact h2
  | const c => simpa [ev, Act.eval] using hx
  | global g => simpa [ev, Act.eval] using hx
  | func f => simpa [ev, Act.eval] using hx

theorem Has.put {n : Nat} {ds : List Deferred} {a : Act} {L : List (Nat × Value)} (h : Has n ds a L) {d : Nat} (hd : d < n) (v : Value) : Has n ds (a.put (some d) v) ((d, v) :: L) := by
  refine ⟨by simp [Act.put, h.size], by simpa [Act.put] using h.defers, ?_⟩
  intro t u hu
  simp only [Env.get] at hu
  simp only [Act.put, Array.getElem?_setIfInBounds]
  by_cases hk : d = t
  · subst hk
    have hb : Nat.beq d d = true := Nat.beq_refl d
    rw [hb] at hu
    simp only [cond_true, Option.some.injEq] at hu
    subst hu
    rw [if_pos rfl, if_pos (by rw [h.size]; exact hd)]
  · have hb : Nat.beq d t = false := by
      cases hc : Nat.beq d t with
      | false => rfl
      | true => exact absurd (Nat.eq_of_beq_eq_true hc) hk
    rw [hb] at hu
    rw [if_neg hk]
    exact h.get t u hu

/-- Every slot that L' names stands in L with the same value. -/
def Sub : List (Nat × Value) → List (Nat × Value) → Prop
  | [], _ => True
  | (k, v) :: r, L => Env.get L k = some v ∧ Sub r L
theorem Has.weaken {n : Nat} {ds : List Deferred} {a : Act} {L L' : List (Nat × Value)} (h : Has n ds a L) (hs : Sub L' L) : Has n ds a L' := by
  refine ⟨h.size, h.defers, ?_⟩
  induction L' with
  | nil => intro t v hv; simp [Env.get] at hv
  | cons p r ih =>
    obtain ⟨k, u⟩ := p
    obtain ⟨h1, h2⟩ := hs
    intro t v hv
    simp only [Env.get] at hv
    cases hb : Nat.beq k t with
    | true =>
      rw [hb] at hv
      simp only [cond_true, Option.some.injEq] at hv
      subst hv
      rw [← Nat.eq_of_beq_eq_true hb]
      exact h.get k _ h1
    | false =>
      rw [hb] at hv
      exact ih h2 t v hv

/-- At a function's entry the parameters' slots are known. -/
def number : Nat → List Value → List (Nat × Value)
  | _, [] => []
  | k, v :: r => (k, v) :: number (k + 1) r
theorem get_number (l : List Value) : ∀ (k t : Nat) (v : Value), Env.get (number k l) t = some v → k ≤ t ∧ l[t - k]? = some v := by
  induction l with
  | nil => intro k t v h; simp [number, Env.get] at h
  | cons x r ih =>
    intro k t v h
    simp only [number, Env.get] at h
    cases hb : Nat.beq k t with
    | true =>
      rw [hb] at h
      have e := Nat.eq_of_beq_eq_true hb
      subst e
      simpa using h
    | false =>
      rw [hb] at h
      obtain ⟨h1, h2⟩ := ih (k + 1) t v h
      refine ⟨by omega, ?_⟩
      have e : t - k = (t - (k + 1)) + 1 := by omega
      rw [e, List.getElem?_cons_succ]
      exact h2
theorem enter {P : Program} {f : FuncId} {fn : Func} {c : Code} {l : List Value} {w : World} {R : Ending → World → Prop} (hf : P.funcs[f]? = some fn) (hb : fn.body = some c) {n : Nat} (hn : fn.ntmps = n) (hl : l.length ≤ n)
    (h : ∀ a, Has n [] a (number 0 l) → c.wp P (bodyPost P fn R) a w) : Calls P f l.toArray w R := by
  refine calls_of_wp hf hb (h _ ⟨?_, rfl, ?_⟩)
  · simp [hn]; omega
  · intro t v hv
    obtain ⟨_, h2⟩ := get_number l 0 t v hv
    have hlt := (List.getElem?_eq_some_iff.1 h2).1
    rw [Nat.sub_zero] at h2
    simp only [Nat.sub_zero] at hlt
    rw [Array.getElem?_append_left (by simpa using hlt)]
    simpa using h2

end Go.Vc
namespace Go
abbrev Value.i (n : Int) : Value := .int .i64 n
end Go
namespace Go.Vc
open Go
/-! ## Words of the conditions -/
structure Slc where
  a : Option Addr
  l : Nat
  c : Nat
abbrev Slc.v (s : Slc) : Value := .slice s.a s.l s.c
abbrev Slc.nil : Slc := ⟨none, 0, 0⟩
/-- A new row of cells. -/
def New (w : World) (cs : Array Value) (e : TypeId) (K : Nat → World → Prop) : Prop := K w.heap.size (w.alloc (.cells cs e))
/-- A store into one cell. -/
def Sto (w : World) (a : Addr) (v : Value) (K : World → Prop) : Prop := (w.cell? a).isSome = true ∧ w.frozen? a = false ∧ K (w.setCell a v)
/-- append. -/
def App (P : Program) (t1 t2 ty : TypeId) (w : World) (x y : Value) (K : Slc → World → Prop) : Prop := ∃ s w', (Builtin.append_ #[t1, t2] ty #[x, y]).run P w = .ok s.v w' ∧ K s w'
/-- copy. -/
def Cpy (P : Program) (t1 t2 ty : TypeId) (w : World) (x y : Value) (K : Int → World → Prop) : Prop := ∃ n w', (Builtin.copy_ #[t1, t2] ty #[x, y]).run P w = .ok (.int .i64 n) w' ∧ K n w'
/-- A string made of a slice, a slice made of a string. -/
def ToStr (P : Program) (t1 t2 : TypeId) (w : World) (x : Value) (K : ByteArray → Prop) : Prop := ∃ s, (convert t1 t2 x).run P w = .ok (.string s) w ∧ K s
def ToBytes (P : Program) (t1 t2 : TypeId) (w : World) (x : Value) (K : Slc → World → Prop) : Prop := ∃ s w', (convert t1 t2 x).run P w = .ok s.v w' ∧ K s w'
/-- m[k], perhaps with whether it is there. -/
def Lkp (P : Program) (t : TypeId) (c : Bool) (w : World) (m k : Value) (K : Value → Prop) : Prop := ∃ v, (Instr.lookup t m k c).run P w = .ok v w ∧ K v
def Mup (P : Program) (t : TypeId) (w : World) (m k v : Value) (K : World → Prop) : Prop := ∃ w', (Instr.mapUpdate t m k v).run P w = .ok () w' ∧ K w'
def Dlt (P : Program) (t kt ty : TypeId) (w : World) (m k : Value) (K : World → Prop) : Prop := ∃ w', (Builtin.delete_ #[t, kt] ty #[m, k]).run P w = .ok (.tuple #[]) w' ∧ K w'
def NewM (P : Program) (t : TypeId) (w : World) (K : Nat → World → Prop) : Prop := ∃ g w', (Instr.makeMap t none).run P w = .ok (.map (some g)) w' ∧ K g w'
def MLen (P : Program) (t ty : TypeId) (w : World) (m : Value) (K : Int → Prop) : Prop := ∃ n, (Builtin.len_ #[t] ty #[m]).run P w = .ok (.int .i64 n) w ∧ K n
/-- A loop over a map: its iterator; whether there is a next entry; the entry. -/
def Rng (P : Program) (t : TypeId) (w : World) (m : Value) (K : Nat → World → Prop) : Prop := ∃ it w', (Instr.range t m).run P w = .ok (.pointer (some ⟨it, 0, none⟩)) w' ∧ K it w'
def Nxt (P : Program) (ty : TypeId) (w : World) (it : Value) (K : Bool → World → Prop) : Prop := ∃ b r w', (Instr.next it false ty).run P w = .ok (.tuple ⟨.bool b :: r⟩) w' ∧ K b w'
def Etr (P : Program) (w : World) (it : Value) (K : Value → Prop) : Prop := ∃ v, (Instr.entry it).run P w = .ok v w ∧ K v
/-- Bytes made of a constant. -/
def CvB (P : Program) (t : TypeId) (w : World) (x : Value) (K : World → Prop) : Prop := ∃ w', (convert t t x).run P w = .ok x w' ∧ K w'
/-- make([]T, l, c). -/
def Mk (P : Program) (t : TypeId) (w : World) (x y : Value) (K : Slc → World → Prop) : Prop := ∃ s w', (Instr.makeSlice t x y).run P w = .ok s.v w' ∧ K s w'
/-- How a call goes on: with its value, or out of the function with its panic. -/
def CallK (K : Value → World → Prop) (Kp : List PanicEntry → World → Prop) : Ending → World → Prop
  | .returned v, w => K v w
  | .panicked c, w => Kp c w
  | .outgrown, _ => False
/-- A byte of a string. -/
def byteAt (s : ByteArray) (i : Int) : Int := ((s.data[i.toNat]?.map UInt8.toNat).getD 0 : Nat)
/-- A cut of a slice whose elements have this many cells. -/
def Slc.cut (s : Slc) (size l h : Nat) : Slc := ⟨if s.c = l then s.a else s.a.map (·.add (l * size)), h - l, s.c - l⟩
def wr (k : IntKind) (n : Int) : Int := k.wrap n
def shlI (k : IntKind) (x y : Int) : Int := k.wrap (x * 2 ^ min y.toNat k.bits)
def shrI (k : IntKind) (x y : Int) : Int := x.fdiv (2 ^ min y.toNat k.bits)
def andI (k : IntKind) (x y : Int) : Int := k.wrap (BitVec.ofInt k.bits x &&& BitVec.ofInt k.bits y).toNat
def orI (k : IntKind) (x y : Int) : Int := k.wrap (BitVec.ofInt k.bits x ||| BitVec.ofInt k.bits y).toNat
def xorI (k : IntKind) (x y : Int) : Int := k.wrap (BitVec.ofInt k.bits x ^^^ BitVec.ofInt k.bits y).toNat
def andNotI (k : IntKind) (x y : Int) : Int := k.wrap (BitVec.ofInt k.bits x &&& ~~~(BitVec.ofInt k.bits y)).toNat
def notI (k : IntKind) (n : Int) : Int := xorI k (if k.signed then -1 else k.max) n

/-! ## Closed questions to a program's tables -/
def oneB (P : Program) (t : TypeId) : Bool :=
  (match P.underlying t with
    | some (.struct _) | some (.array _ _) | none => false
    | some _ => true) && (match P.info? t with | some i => Nat.beq i.size 1 | none => false)
def aggB (P : Program) (t : TypeId) (n : Nat) : Bool :=
  (match P.underlying t with
    | some (.struct _) | some (.array _ _) => true
    | _ => false) && (match P.info? t with | some i => Nat.beq i.size n | none => false)
/-- Field i of struct type t lies at off, is of type u, has some cells. -/
def fldB (P : Program) (t i off : Nat) : Bool :=
  match P.underlying t with
  | some (.struct fs) => (match fs[i]? with
    | some f => Nat.beq f.offset off && (match P.info? f.type with | some i => !Nat.beq i.size 0 | none => false)
    | none => false)
  | _ => false
def fldTyB (P : Program) (t i off u : Nat) : Bool :=
  match P.underlying t with
  | some (.struct fs) => (match fs[i]? with
    | some f => Nat.beq f.offset off && Nat.beq f.type u
    | none => false)
  | _ => false
def slcB (P : Program) (t size : Nat) : Bool :=
  match P.underlying t with
  | some (.slice e) => (match P.info? e with | some i => Nat.beq i.size size | none => false)
  | _ => false
def arrB (P : Program) (t len size : Nat) : Bool :=
  match P.underlying t with
  | some (.array n e) => Nat.beq n len && (match P.info? e with | some i => Nat.beq i.size size | none => false)
  | _ => false
def strB (P : Program) (t : Nat) : Bool := match P.underlying t with | some .string => true | _ => false
def intB (P : Program) (t : Nat) (k : IntKind) : Bool := match P.underlying t with | some (.int k') => decide (k = k') | _ => false
def ptrB (P : Program) (t : Nat) : Bool := match P.underlying t with | some (.pointer _) => true | _ => false
def ifcB (P : Program) (t : Nat) : Bool := match P.underlying t with | some (.interface _) => true | _ => false
/-- Whether an interface value is nil. -/
def NilI (v : Value) (b : Bool) : Prop := (v = .nilIface ∧ b = true) ∨ ((∃ u y, v = .iface u y) ∧ b = false)
def isMapB (P : Program) (t : Nat) : Bool := match P.underlying t with | some (.map _ _) => true | _ => false
def isSlcB (P : Program) (t : Nat) : Bool := match P.underlying t with | some (.slice _) => true | _ => false
def notIfaceB (P : Program) (t : Nat) : Bool := match P.underlying t with | some (.interface _) => false | some _ => true | none => false
def someB (P : Program) (t : Nat) : Bool := match P.underlying t with | some _ => true | none => false
end Go.Vc
