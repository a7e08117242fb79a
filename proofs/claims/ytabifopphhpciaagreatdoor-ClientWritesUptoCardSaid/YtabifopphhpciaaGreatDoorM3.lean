/-
  An executor: it reckons a function's condition from its code. Nothing of any program stands here.
-/
import Derived.Test.YtabifopphhpciaaGreatDoorM2
namespace Go.Vc.Ex
open Go Go.Vc
/-! ## Values, by what is known of them ahead -/
inductive LT where | i (k : IntKind) | b | s | p | c | m | v
abbrev LT.T : LT → Type | .i _ => Int | .b => Bool | .s => ByteArray | .p => Option Addr | .c => Slc | .m => Option Nat | .v => Value
inductive Lf where
  | i (k : IntKind) (lit : Bool) (e : Int) | b (lit e : Bool) | s (e : ByteArray) | p0 | p (id : Nat) (e : Option Addr) | a (key : Option (Nat × Nat)) (e : Addr)
  | c0 | c (e : Slc) | m0 | m (e : Option Nat) | v (e : Value) | i0 | f0 | f (t : TypeId) (e : Value) | fn (f : FuncId) | cl (f : FuncId) (caps : List Value)
def Lf.d : Lf → Value
  | .i k _ e => .int k e | .b _ e => .bool e | .s e => .string e | .p0 => .pointer none | .p _ e => .pointer e | .a _ e => .pointer (some e)
  | .c0 => Slc.v Slc.nil | .c e => Slc.v e | .m0 => .map none | .m e => .map e | .v e => e | .i0 => .nilIface | .f0 => .nilFunc | .f y e => .iface y e
  | .fn q => .func (.func q) #[] #[] | .cl q cs => .func (.func q) #[] cs.toArray
inductive SV where | l (x : Lf) | g (xs : List Lf) | t (xs : List (Bool × List Lf)) | no
def cmpD : Bool × List Lf → Value
  | (true, xs) => .agg (xs.map Lf.d).toArray
  | (false, [x]) => x.d
  | (false, _) => undef
def SV.d : SV → Value
  | .l y => y.d | .g ys => .agg (ys.map Lf.d).toArray | .t ys => .tuple (ys.map cmpD).toArray | .no => undef
def cmpS : Bool × List Lf → Option SV
  | (true, xs) => some (.g xs)
  | (false, [x]) => some (.l x)
  | _ => none
inductive ST where | l (l : LT) | g (ls : List LT) | t (cs : List (Bool × List LT))
def optMap {α β : Type} (f : α → Option β) : List α → Option (List β)
  | [] => some []
  | x :: r => match f x with | none => none | some y => match optMap f r with | none => none | some ys => some (y :: ys)
def litL : Value → Option Lf
  | .int k n => some (.i k true n) | .bool e => some (.b true e) | .string e => some (.s e) | .pointer none => some .p0 | .slice none 0 0 => some .c0
  | .map none => some .m0 | .nilIface => some .i0 | .nilFunc => some .f0 | _ => none
def litV : Value → Option SV
  | .agg cs => (optMap litL cs.toList).map .g
  | v => (litL v).map .l
structure St where
  E : List (Nat × SV)
  kn : List ((Nat × Nat) × Lf)
  nx : Nat
def lk : List (Nat × SV) → Nat → Option SV
  | [], _ => none
  | (k, v) :: r, t => bif Nat.beq k t then some v else lk r t
def ev (E : List (Nat × SV)) : Operand → Option SV
  | .tmp t => lk E t
  | .const v => litV v
  | .global g => some (.l (.a none (blk g)))
  | .func f => some (.l (.fn f))
def dE (E : List (Nat × SV)) : List (Nat × Value) := E.map fun z => (z.1, z.2.d)
def St.put (s : St) (d : Option Nat) (v : SV) : St := match d with | some d => { s with E := (d, v) :: s.E } | none => s
/-! A pointer that is not nil, in all its places. -/
def sbL (id : Nat) (a : Addr) : Lf → Lf
  | .p j e => bif Nat.beq j id then .a none a else .p j e
  | x => x
def sbV (id : Nat) (a : Addr) : SV → SV
  | .l x => .l (sbL id a x) | .g xs => .g (xs.map (sbL id a)) | .t xs => .t (xs.map fun z => (z.1, z.2.map (sbL id a))) | v => v
def St.sb (s : St) (id : Nat) (a : Addr) : St := { s with E := s.E.map fun z => (z.1, sbV id a z.2), kn := s.kn.map fun z => (z.1, sbL id a z.2) }
def knF : List ((Nat × Nat) × Lf) → Nat → Nat → Option Lf
  | [], _, _ => none
  | ((b, o), v) :: r, c, q => bif Nat.beq b c && Nat.beq o q then some v else knF r c q
def knAt (s : St) (key : Option (Nat × Nat)) (i : Nat) : Option Lf := match key with | some (b, o) => knF s.kn b (o + i) | none => none
/-! ## Operations -/
inductive Sh where | i (t : TypeId) (k : IntKind) | s (t : TypeId) | b (t : TypeId) | n (x y : Sh)
def eqS : Sh → List Lf → List Lf → Option (Bool × List Lf × List Lf)
  | .i _ k0, .i k _ a :: r, .i k' _ b :: q => if k = k' ∧ k = k0 then some (decide (a = b), r, q) else none
  | .s _, .s a :: r, .s b :: q => some (decide (a.toList = b.toList), r, q)
  | .b _, .b _ a :: r, .b _ b :: q => some (decide (a = b), r, q)
  | .n x y, r, q => match eqS x r q with | some (e, r, q) => (match eqS y r q with | some (e', r, q) => some (e && e', r, q) | none => none) | none => none
  | _, _, _ => none
inductive BK where | i | s | p | f | n | m | c | b
inductive I where
  | mv (x : Operand) | nc (x : Operand) | fd (x : Operand) (off : Nat) | bin (k : BK) (o : BinOp) (x y : Operand) | eq (ne : Bool) (h : Sh) (x y : Operand) | un (o : UnOp) (x : Operand)
  | cI (k : IntKind) (x : Operand) | cS (x : Operand) | tS (t u : TypeId) (x : Operand) | tB (t u : TypeId) (x : Operand) | cB (t : TypeId) (x : Operand)
  | ex (x : Operand) (q : Nat) | fv (x : Operand) (off : Nat) | fvN (x : Operand) (off m : Nat) | ifc (t : TypeId) (x : Operand) | mf (f : FuncId) (xs : List Operand)
  | bd (z : List Lf) (ps : List (Nat × Nat × Operand)) | bs (t : TypeId) (n : Nat) (z : List Lf) (ps : List (Nat × Nat × Operand))
  | ln (k : BK) (x : Operand) | cp (x : Operand) | mn (x y : Operand) | mx (x y : Operand)
  | xS (x y : Operand) (size : Nat) | xA (x y : Operand) (len size : Nat) | xT (x y : Operand)
  | sS (x : Operand) (lo hi : Option Operand) | sC (x : Operand) (lo hi : Option Operand) (size : Nat)
  | ld (x : Operand) (l : LT) | ldN (x : Operand) (ls : List LT) | st (x y : Operand) | stN (x y : Operand) (n : Nat)
  | al (t : TypeId) (z : SV) | bx (t : TypeId) (x : Operand) | mk (t : TypeId) (x y : Operand)
  | mm (t : TypeId) | mu (t : TypeId) (x y z : Operand) | lk (t : TypeId) (x y : Operand) (com : Bool) (r : ST) | ta (t u : TypeId) (com : Bool) (x : Operand) (r : ST)
  | rg (t : TypeId) (x : Operand) | et (x : Operand) (r : ST) | ml (t ty : TypeId) (x : Operand)
  | ap (t u ty : TypeId) (x y : Operand) | cy (t u ty : TypeId) (x y : Operand) | dl (t u ty : TypeId) (x y : Operand)
  | ca (f : FuncId) (xs : List Operand) (r : Option ST) | cv (x : Operand) (xs : List Operand) (r : Option ST) | ci (x : Operand) (nm : String) (xs : List Operand) (r : Option ST)
  | pn (x : Operand)
def I.ef : I → Bool
  | .tB .. | .cB .. | .bs .. | .st .. | .stN .. | .al .. | .bx .. | .mk .. | .mm .. | .mu .. | .lk .. | .rg .. | .et .. | .ml .. | .ap .. | .cy .. | .dl .. | .ca .. | .cv .. | .ci .. | .pn .. => true
  | _ => false
def slcE : Lf → Option Slc
  | .c0 => some Slc.nil | .c e => some e | _ => none
def ptrE : Lf → Option (Option Addr)
  | .p0 => some none | .p _ e => some e | .a _ e => some (some e) | _ => none
def binI (o : BinOp) (k1 : IntKind) (a : Int) (k2 : IntKind) (l : Bool) (b : Int) : Option Lf := match o with
  | .shl => if (l && decide (0 ≤ b)) = true then some (.i k1 false (shlI k1 a b)) else none
  | .shr => if (l && decide (0 ≤ b)) = true then some (.i k1 false (shrI k1 a b)) else none
  | .lss => if k1 = k2 then some (.b false (decide (a < b))) else none
  | .leq => if k1 = k2 then some (.b false (decide (a ≤ b))) else none
  | .gtr => if k1 = k2 then some (.b false (decide (b < a))) else none
  | .geq => if k1 = k2 then some (.b false (decide (b ≤ a))) else none
  | .eql => if k1 = k2 then some (.b false (decide (a = b))) else none
  | .neq => if k1 = k2 then some (.b false (decide (a ≠ b))) else none
  | .add => if k1 = k2 then some (.i k1 false (wr k1 (a + b))) else none
  | .sub => if k1 = k2 then some (.i k1 false (wr k1 (a - b))) else none
  | .mul => if k1 = k2 then some (.i k1 false (wr k1 (a * b))) else none
  | .and => if k1 = k2 then some (.i k1 false (andI k1 a b)) else none
  | .or => if k1 = k2 then some (.i k1 false (orI k1 a b)) else none
  | .xor => if k1 = k2 then some (.i k1 false (xorI k1 a b)) else none
  | .andNot => if k1 = k2 then some (.i k1 false (andNotI k1 a b)) else none
  | .quo => if (l && decide (0 < b) && decide (k1 = k2)) = true then some (.i k1 false (wr k1 (a.tdiv b))) else none
  | .rem => if (l && decide (0 < b) && decide (k1 = k2)) = true then some (.i k1 false (a.tmod b)) else none
def binS (o : BinOp) (a b : ByteArray) : Option Lf := match o with
  | .eql => some (.b false (decide (a.toList = b.toList))) | .neq => some (.b false (decide (a.toList ≠ b.toList))) | .lss => some (.b false (Op.bytesLess a.toList b.toList)) | _ => none
def binB (o : BinOp) (a b : Bool) : Option Lf := match o with
  | .eql => some (.b false (decide (a = b))) | .neq => some (.b false (decide (a ≠ b))) | _ => none
def binO {α : Type} (o : BinOp) (e : Option α) : Option Lf := match o with
  | .eql => some (.b false e.isNone) | .neq => some (.b false e.isSome) | _ => none
def binL (k : BK) (o : BinOp) (x y : Lf) : Option Lf := match k, y with
  | .i, .i k2 l b => (match x with | .i k1 _ a => binI o k1 a k2 l b | _ => none)
  | .s, .s b => (match x with | .s a => binS o a b | _ => none)
  | .b, .b _ b => (match x with | .b _ a => binB o a b | _ => none)
  | .p, .p0 => (ptrE x).bind (binO o)
  | .c, .c0 => (slcE x).bind fun e => binO o e.a
  | .m, .m0 => (match x with | .m e => binO o e | _ => none)
  | _, _ => none
def binP (k : BK) (o : BinOp) (x y : SV) : Option SV := match x, y with
  | .l x, .l y => (binL k o x y).map .l
  | _, _ => none
def keyAdd (key : Option (Nat × Nat)) (n : Nat) : Option (Nat × Nat) := key.map fun z => (z.1, z.2 + n)
def knN (s : St) (key : Option (Nat × Nat)) : Nat → List LT → Option (List Lf)
  | _, [] => some []
  | i, _ :: r => match knAt s key i with | none => none | some v => match knN s key (i + 1) r with | none => none | some vs => some (v :: vs)
def lvs : SV → Option (List Lf)
  | .l (.v _) => none | .l x => some [x] | .g xs => some xs | _ => none
def place (z : List Lf) (off size : Nat) (xs : List Lf) : Option (List Lf) := if xs.length = size ∧ off + size ≤ z.length then some (z.take off ++ xs ++ z.drop (off + size)) else none
def fillS (E : List (Nat × SV)) (z : List Lf) : List (Nat × Nat × Operand) → Option (List Lf)
  | [] => some z
  | (off, size, x) :: r => match (ev E x).bind lvs with | none => none | some xs => match place z off size xs with | none => none | some z' => fillS E z' r
def pu (s : St) : I → Option SV
  | .mv x => ev s.E x
  | .nc x => match ev s.E x with | some (.l (.a k e)) => some (.l (.a k e)) | _ => none
  | .fd x off => match ev s.E x with | some (.l (.a k e)) => some (.l (.a (keyAdd k off) (e.add off))) | _ => none
  | .bin k o x y => match ev s.E x, ev s.E y with | some a, some b => binP k o a b | _, _ => none
  | .eq ne h x y => match ev s.E x, ev s.E y with
    | some (.g a), some (.g b) => (match eqS h a b with | some (e, [], []) => some (.l (.b false (if ne then !e else e))) | _ => none)
    | _, _ => none
  | .un o x => match o, ev s.E x with
    | .not, some (.l (.b _ e)) => some (.l (.b false (!e))) | .neg, some (.l (.i k _ e)) => some (.l (.i k false (wr k (0 - e)))) | .xor, some (.l (.i k _ e)) => some (.l (.i k false (notI k e))) | _, _ => none
  | .cI k x => match ev s.E x with | some (.l (.i _ _ e)) => some (.l (.i k false (wr k e))) | _ => none
  | .cS x => match ev s.E x with | some (.l (.s e)) => some (.l (.s e)) | _ => none
  | .ex x q => match ev s.E x with | some (.t cs) => (cs[q]?).bind cmpS | _ => none
  | .fv x off => match ev s.E x with | some (.g xs) => (xs[off]?).map .l | _ => none
  | .fvN x off m => match ev s.E x with | some (.g xs) => some (.g ((xs.drop off).take m)) | _ => none
  | .ifc t x => (ev s.E x).map fun v => .l (.f t v.d)
  | .mf f xs => (optMap (ev s.E) xs).map fun vs => .l (.cl f (vs.map SV.d))
  | .bd z ps => (fillS s.E z ps).map .g
  | .ln .c x => match ev s.E x with | some (.l x) => (slcE x).map fun e => .l (.i .i64 false (e.l : Int)) | _ => none
  | .ln .s x => match ev s.E x with | some (.l (.s e)) => some (.l (.i .i64 false (e.size : Int))) | _ => none
  | .cp x => match ev s.E x with | some (.l x) => (slcE x).map fun e => .l (.i .i64 false (e.c : Int)) | _ => none
  | .mn x y => match ev s.E x, ev s.E y with | some (.l (.i k _ a)), some (.l (.i k' _ b)) => if k = k' then some (.l (.i k false (minI a b))) else none | _, _ => none
  | .mx x y => match ev s.E x, ev s.E y with | some (.l (.i k _ a)), some (.l (.i k' _ b)) => if k = k' then some (.l (.i k false (maxI a b))) else none | _, _ => none
  | .xA x y len size => match ev s.E x, ev s.E y with | some (.l (.a k e)), some (.l (.i _ true i)) => if decide (0 ≤ i) && decide (i < len) then some (.l (.a (keyAdd k (i.toNat * size)) (e.add (i.toNat * size)))) else none | _, _ => none
  | .ld x _ => match ev s.E x with | some (.l (.a k _)) => (knAt s k 0).map .l | _ => none
  | .ldN x ls => match ev s.E x with | some (.l (.a k _)) => (knN s k 0 ls).map .g | _ => none
  | _ => none
def ex1 (l : LT) (n : Nat) (K : Lf → Prop) : Prop := match l with
  | .i k => ∃ x : Int, K (.i k false x) | .b => ∃ x : Bool, K (.b false x) | .s => ∃ x : ByteArray, K (.s x) | .p => ∃ x : Option Addr, K (.p n x)
  | .c => ∃ x : Slc, K (.c x) | .m => ∃ x : Option Nat, K (.m x) | .v => ∃ x : Value, K (.v x)
def exL : List LT → Nat → (List Lf → Nat → Prop) → Prop
  | [], n, K => K [] n
  | l :: r, n, K => ex1 l n fun x => exL r (n + 1) fun xs => K (x :: xs)
def exC : List (Bool × List LT) → Nat → (List (Bool × List Lf) → Nat → Prop) → Prop
  | [], n, K => K [] n
  | (g, ls) :: r, n, K => exL ls n fun xs n => exC r n fun cs => K ((g, xs) :: cs)
def exT : ST → Nat → (SV → Nat → Prop) → Prop
  | .l l, n, K => ex1 l n fun x => K (.l x) (n + 1)
  | .g ls, n, K => exL ls n fun xs => K (.g xs)
  | .t cs, n, K => exC cs n fun xs => K (.t xs)
def ldN (s : St) (w : World) (e : Addr) (key : Option (Nat × Nat)) : Nat → List LT → Nat → (List Lf → Nat → Prop) → Prop
  | _, [], n, K => K [] n
  | i, l :: r, n, K => match knAt s key i with
    | some v => ldN s w e key (i + 1) r n fun vs => K (v :: vs)
    | none => ex1 l n fun x => w.cell? (e.add i) = some x.d ∧ ldN s w e key (i + 1) r (n + 1) fun vs => K (x :: vs)
def St.up (s : St) (n : Nat) : St := { s with nx := n }
def lo0 (E : List (Nat × SV)) : Option Operand → Option Int
  | none => some 0
  | some x => match ev E x with | some (.l (.i _ _ e)) => some e | _ => none
def hi0 (E : List (Nat × SV)) (z : Int) : Option Operand → Option Int
  | none => some z
  | some x => match ev E x with | some (.l (.i _ _ e)) => some e | _ => none
def co (P : Program) (md : Bool) (s : St) (w : World) (i : I) (K : SV → St → (SV → SV) → Prop) : Prop := match pu s i with
  | some v => K v s id
  | none => match i with
    | .ld x l => match ev s.E x with | some (.l (.a _ e)) => ex1 l s.nx fun v => w.cell? e = some v.d ∧ K (.l v) (s.up (s.nx + 1)) id | _ => False
    | .ldN x ls => match ev s.E x with | some (.l (.a k e)) => ldN s w e k 0 ls s.nx fun vs n => K (.g vs) (s.up n) id | _ => False
    | .nc x => match ev s.E x with
      | some (.l (.p j e)) => ∃ a : Addr, e = some a ∧ K (.l (.a none a)) (s.sb j a) (sbV j a)
      | some (.l .p0) => ∃ a : Addr, none = some a ∧ K (.l (.a none a)) s id
      | _ => False
    | .xS x y size => match ev s.E x, ev s.E y with
      | some (.l x), some (.l (.i _ _ i)) => (match slcE x with | some e => ∃ a : Addr, e.a = some a ∧ (0 : Int) ≤ i ∧ i < (e.l : Int) ∧ K (.l (.a none (a.add (i.toNat * size)))) s id | none => False)
      | _, _ => False
    | .xA x y len size => match ev s.E x, ev s.E y with
      | some (.l (.a _ e)), some (.l (.i _ _ i)) => (0 : Int) ≤ i ∧ i < (len : Int) ∧ K (.l (.a none (e.add (i.toNat * size)))) s id
      | _, _ => False
    | .xT x y => match ev s.E x, ev s.E y with
      | some (.l (.s e)), some (.l (.i _ _ i)) => (0 : Int) ≤ i ∧ i < (e.size : Int) ∧ K (.l (.i .u8 false (byteAt e i))) s id
      | _, _ => False
    | .sS x lo hi => match ev s.E x with
      | some (.l (.s e)) => (match lo0 s.E lo, hi0 s.E (e.size : Int) hi with | some l, some h => (0 : Int) ≤ l ∧ l ≤ h ∧ h ≤ (e.size : Int) ∧ K (.l (.s (e.extract l.toNat h.toNat))) s id | _, _ => False)
      | _ => False
    | .sC x lo hi size => match ev s.E x with
      | some (.l x) => (match slcE x with
        | some e => (match lo0 s.E lo, hi0 s.E (e.l : Int) hi with | some l, some h => (0 : Int) ≤ l ∧ l ≤ h ∧ h ≤ (e.c : Int) ∧ K (.l (.c (e.cut size l.toNat h.toNat))) s id | _, _ => False)
        | none => False)
      | _ => False
    | .bin k o x y => match ev s.E x, ev s.E y with
      | some (.l (.i k1 _ a)), some (.l (.i k2 _ b)) => (match k, o with
        | .i, .quo => if k1 = k2 then b ≠ 0 ∧ K (.l (.i k1 false (wr k1 (a.tdiv b)))) s id else False
        | .i, .rem => if k1 = k2 then b ≠ 0 ∧ K (.l (.i k1 false (a.tmod b))) s id else False
        | .i, .shl => (0 : Int) ≤ b ∧ K (.l (.i k1 false (shlI k1 a b))) s id
        | .i, .shr => (0 : Int) ≤ b ∧ K (.l (.i k1 false (shrI k1 a b))) s id
        | _, _ => False)
      | some (.l (.s a)), some (.l (.s b)) => (match k, o with | .s, .add => a.size + b.size ≤ 9223372036854775807 ∧ K (.l (.s (a ++ b))) s id | _, _ => False)
      | some x, some (.l .i0) => (match k, o with
        | .f, .eql => ∃ n : Bool, NilI x.d n ∧ K (.l (.b false n)) s id
        | .f, .neq => ∃ n : Bool, NilI x.d n ∧ K (.l (.b false (!n))) s id
        | _, _ => False)
      | some x, some (.l .f0) => (match k, o with
        | .n, .eql => ∃ n : Bool, NilF x.d n ∧ K (.l (.b false n)) s id
        | .n, .neq => ∃ n : Bool, NilF x.d n ∧ K (.l (.b false (!n))) s id
        | _, _ => False)
      | _, _ => False
    | .tS t u x => match ev s.E x with
      | some v => if md then ToStrD P t u w v.d fun e => K (.l (.s e)) s id else ToStr P t u w v.d fun e => K (.l (.s e)) s id
      | none => False
    | .ta t u com x r => match ev s.E x with
      | some v => Tas P t u com v.d fun z => exT r s.nx fun y n => z = y.d ∧ K y (s.up n) id
      | none => False
    | _ => False
def flats : List Lf → Prop → Prop
  | [], K => K
  | .v e :: r, K => Value.flat e = true ∧ flats r K
  | _ :: r, K => flats r K
def St.new (s : St) (cs : List Lf) : St := ⟨s.E, (cs.zipIdx.map fun z => ((s.nx, z.2), z.1)) ++ s.kn, s.nx + 1⟩
def St.wr (s : St) : St := { s with kn := [] }
def St.wr1 (s : St) (key : Option (Nat × Nat)) : St := match key with
  | some (b, o) => { s with kn := s.kn.filter fun z => Nat.beq z.1.1 b && !Nat.beq z.1.2 o }
  | none => { s with kn := [] }
def ret (r : Option ST) (s : St) (K : SV → St → World → Prop) : Value → World → Prop := match r with
  | some r => fun z w => exT r s.nx fun y n => z = y.d ∧ K y (s.wr.up n) w
  | none => fun _ w => K .no s.wr w
def ef (P : Program) (Q : Ending → World → Prop) (s : St) (w : World) (i : I) (K : SV → St → World → Prop) : Prop := match i with
  | .bx t x => match (ev s.E x).bind lvs with | some cs => New w (cs.map Lf.d).toArray t fun b w => K (.l (.a (some (s.nx, 0)) (blk b))) (s.new cs) w | none => False
  | .al t z => match lvs z with | some cs => New w (cs.map Lf.d).toArray t fun b w => K (.l (.a (some (s.nx, 0)) (blk b))) (s.new cs) w | none => False
  | .bs t n z ps => match fillS s.E z ps with | some cs => New w (cs.map Lf.d).toArray t fun b w => K (.l (.c (Slc.mk (some (blk b)) n n))) (s.new cs) w | none => False
  | .st x y => match ev s.E x, ev s.E y with
    | some (.l (.a k e)), some (.l v) => flats [v] (Sto w e v.d fun w => K .no (s.wr1 k) w)
    | _, _ => False
  | .stN x y n => match ev s.E x, ev s.E y with
    | some (.l (.a _ e)), some (.g vs) => if Nat.beq vs.length n = true then flats vs (StoN e 0 (vs.map Lf.d) w fun w => K .no s.wr w) else False
    | _, _ => False
  | .mk t x y => match ev s.E x, ev s.E y with | some x, some y => Mk P t w x.d y.d fun e w => K (.l (.c e)) s.wr w | _, _ => False
  | .tB t u x => match ev s.E x with | some x => ToBytes P t u w x.d fun e w => K (.l (.c e)) s.wr w | none => False
  | .cB t x => match ev s.E x with | some x => CvB P t w x.d fun w => K x s.wr w | none => False
  | .mm t => NewM P t w fun g w => K (.l (.m (some g))) s.wr w
  | .mu t x y z => match ev s.E x, ev s.E y, ev s.E z with | some x, some y, some z => Mup P t w x.d y.d z.d fun w => K .no s.wr w | _, _, _ => False
  | .lk t x y com r => match ev s.E x, ev s.E y with | some x, some y => Lkp P t com w x.d y.d fun z => exT r s.nx fun v n => z = v.d ∧ K v (s.up n) w | _, _ => False
  | .rg t x => match ev s.E x with | some x => Rng P t w x.d fun it w => K (.l (.a (some (s.nx, 0)) (blk it))) (s.wr.up (s.nx + 1)) w | none => False
  | .et x r => match ev s.E x with | some (.l (.a k e)) => Etr P w (Lf.a k e).d fun z => exT r s.nx fun v n => z = v.d ∧ K v (s.up n) w | _ => False
  | .ml t ty x => match ev s.E x with | some x => MLen P t ty w x.d fun n => K (.l (.i .i64 false n)) s w | none => False
  | .ap t u ty x y => match ev s.E x, ev s.E y with | some x, some y => App P t u ty w x.d y.d fun e w => K (.l (.c e)) s.wr w | _, _ => False
  | .cy t u ty x y => match ev s.E x, ev s.E y with | some x, some y => Cpy P t u ty w x.d y.d fun n w => K (.l (.i .i64 false n)) s.wr w | _, _ => False
  | .dl t u ty x y => match ev s.E x, ev s.E y with | some x, some y => Dlt P t u ty w x.d y.d fun w => K (.t []) s.wr w | _, _ => False
  | .ca f xs r => match optMap (ev s.E) xs with | some vs => Calls P f (vs.map SV.d).toArray w (CallK (ret r s K) (pn Q)) | none => False
  | .cv x xs r => match ev s.E x, optMap (ev s.E) xs with
    | some (.l (.cl f cs)), some vs => if bodyB P f = true then Calls P f (vs.map SV.d ++ cs).toArray w (CallK (ret r s K) (pn Q)) else False
    | some (.l (.v e)), some vs => CallV P e (vs.map SV.d).toArray w (CallK (ret r s K) (pn Q))
    | _, _ => False
  | .ci x nm xs r => match ev s.E x, optMap (ev s.E) xs with | some x, some vs => CallI P x.d nm (vs.map SV.d).toArray w (CallK (ret r s K) (pn Q)) | _, _ => False
  | .pn x => match ev s.E x with | some (.l (.f t e)) => Q (.panicked [{ v := .iface t e, recovered := false }]) w | _ => False
  | _ => False
/-! ## Lists of operations, with what is taken together under a guard -/
inductive L where
  | nil | op (d : Option Nat) (i : I) (r : L) | nxt (d d2 ty : Nat) (x : Operand) (r : L) | grp (want : Bool) (gs : Nat) (eff : Bool) (body : L) (d : Nat) (mine other : Operand) (drop : List Nat) (r : L)
def bool? : Option SV → Option (Bool × Bool)
  | some (.l (.b l e)) => some (l, e) | _ => none
def St.drop (s : St) (ds : List Nat) : St := { s with E := s.E.filter fun z => !ds.any fun t => Nat.beq t z.1 }
def mixB (want l o v c : Bool) : Bool := match want, l, o with
  | true, true, false => c && v | false, true, true => c || v | _, _, _ => if c = want then v else o
def L.pu : L → St → Option St
  | .nil, s => some s
  | .op d i r, s => if i.ef then none else match Ex.pu s i with | some v => r.pu (s.put d v) | none => none
  | .nxt .., _ => none
  | .grp want gs eff body d mine other drop r, s => if eff then none else match bool? (lk s.E gs), bool? (ev s.E other), body.pu (s.put (some gs) (.l (.b true want))) with
    | some (_, c), some (l, o), some s2 => (match bool? (ev s2.E mine) with
      | some (_, v) => r.pu ((s.drop drop).put (some d) (.l (.b false (mixB want l o v c)))) | none => none)
    | _, _, _ => none
def L.den (P : Program) (md : Bool) (Q : Ending → World → Prop) : L → St → World → (St → World → Prop) → Prop
  | .nil, s, w, K => K s w
  | .op d i r, s, w, K => if i.ef then ef P Q s w i fun v s w => r.den P md Q (s.put d v) w K else co P md s w i fun v s _ => r.den P md Q (s.put d v) w K
  | .nxt d d2 ty x r, s, w, K => match ev s.E x with | some (.l (.a k e)) => Nxt P ty w (Lf.a k e).d fun b w => r.den P md Q ((s.drop [d]).put (some d2) (.l (.b false b))).wr w K | _ => False
  | .grp want gs eff body d mine other drop r, s, w, K => match bool? (lk s.E gs), bool? (ev s.E other) with
    | some (_, c), some (l, o) => let s1 := s.put (some gs) (.l (.b true want))
      if eff then ∃ R : Bool → World → Prop, ((c = want → body.den P md Q s1 w fun s2 w => match bool? (ev s2.E mine) with | some (_, v) => R v w | none => False) ∧ (c = !want → R o w)) ∧
        ∀ (x : Bool) (w : World), R x w → r.den P md Q ({ (s.drop drop).put (some d) (.l (.b false x)) with kn := [] }) w K
      else match body.pu s1 with
        | some s2 => (match bool? (ev s2.E mine) with | some (_, v) => r.den P md Q ((s.drop drop).put (some d) (.l (.b false (mixB want l o v c)))) w K | none => False)
        | none => ∃ x : Bool, (c = want → body.den P md Q s1 w fun s2 _ => match bool? (ev s2.E mine) with | some (_, v) => x = v | none => False) ∧ (c = !want → x = o) ∧
            r.den P md Q ((s.drop drop).put (some d) (.l (.b false x))) w K
    | _, _ => False
/-! ## A region that draws its order, and turns the world in one order -/
inductive AO where | op (i : I) | pick (c : Nat) (a b : Operand)
structure Ao where
  d : Option Nat
  g : Option (Nat × Bool)
  o : AO
structure Am where
  V : List (Nat × SV)
  L0 : List (Nat × SV)
  nx : Nat
def prS (R : Rg) (V : List (Nat × SV)) (l : List Nat) : List (Nat × SV) := l.filterMap fun p => match R.dstOf p, lk V p with | some d, some v => some (d, v) | _, _ => none
def envS (R : Rg) (A : Am) (i : Nat) : List (Nat × SV) :=
  prS R A.V (R.preOf i) ++ A.L0.filter fun x => (List.range R.dst.length).all fun q => decide (R.dstOf q ≠ some x.1) || decide (q = i) || (R.preOf q).contains i
def finS (R : Rg) (A : Am) : List (Nat × SV) := prS R A.V (List.range R.dst.length) ++ A.L0.filter fun x => (List.range R.dst.length).all fun q => decide (R.dstOf q ≠ some x.1)
def Am.lit (R : Rg) (A : Am) (t : Nat) (b : Bool) : Am :=
  { A with V := A.V.map fun z => (z.1, if R.dstOf z.1 = some t then .l (.b true b) else z.2) }
def Am.add (A : Am) (i : Nat) (v : SV) : Am := { A with V := (i, v) :: A.V }
def spl (R : Rg) (A : Am) (v : Option SV) (t : Nat) (K : Bool → Am → Prop) : Prop := match v with
  | some (.l (.b true e)) => K e A
  | some (.l (.b false e)) => (e = true → K true (A.lit R t true)) ∧ (e = false → K false (A.lit R t false))
  | _ => False
def grd (R : Rg) (i : Nat) (o : Ao) (A : Am) (Kr Ks : Am → Prop) : Prop := match o.g with
  | none => Kr A
  | some (t, want) => match lk (prS R A.V (R.preOf i)) t with
    | some .no => Ks A
    | v => spl R A v t fun b A => if b = want then Kr A else Ks A
def agN (w : World) (e : Addr) : Nat → List Lf → Prop → Prop
  | _, [], K => K
  | i, v :: r, K => w.cell? (e.add i) = some v.d ∧ agN w e (i + 1) r K
def cnj (w : World) (e : Addr) : Nat → List Lf → Prop
  | _, [] => True
  | i, [v] => w.cell? (e.add i) = some v.d
  | i, v :: r => w.cell? (e.add i) = some v.d ∧ cnj w e (i + 1) r
def again (P : Program) (R : Rg) (ops : List Ao) (A : Am) (w : World) : List Nat → Prop → Prop
  | [], K => K
  | i :: r, K => match ops[i]?, lk A.V i with
    | some ⟨_, _, .op (.ld x _)⟩, some (.l v) => (match ev (envS R A i) x with | some (.l (.a _ e)) => w.cell? e = some v.d ∧ again P R ops A w r K | _ => False)
    | some ⟨_, _, .op (.ldN x _)⟩, some (.g vs) => (match ev (envS R A i) x with | some (.l (.a _ e)) => agN w e 0 vs (again P R ops A w r K) | _ => False)
    | some ⟨_, _, .op (.tS t u x)⟩, some (.l (.s e)) => (match ev (envS R A i) x with | some v => ToStrAt P t u w v.d e ∧ again P R ops A w r K | _ => False)
    | _, _ => again P R ops A w r K
def stp (P : Program) (R : Rg) (ops : List Ao) (w : World) (i : Nat) (A : Am) (K : Am → Prop) : Prop := match ops[i]?, lk A.V i with
  | none, _ | _, some _ => False
  | some o, none => grd R i o A (fun A => match o.o with
      | .pick c a b => spl R A (lk (prS R A.V (R.preOf i)) c) c fun e A => match ev (envS R A i) (if e then a else b) with | some v => K (A.add i v) | none => False
      | .op x => co P false ⟨envS R A i, [], A.nx⟩ w x fun v s f => K ⟨(i, v) :: A.V.map (fun z => (z.1, f z.2)), A.L0.map (fun z => (z.1, f z.2)), s.nx⟩)
    fun A => K (A.add i .no)
def news (P : Program) (R : Rg) (ops : List Ao) (w : World) : List Nat → Am → (Am → Prop) → Prop
  | [], A, K => K A
  | i :: r, A, K => stp P R ops w i A fun A => news P R ops w r A K
def oldL (R : Rg) (j : Nat) : List Nat := (List.range R.dst.length).filter fun i => !R.eff.contains i && Nat.ble (R.loOf i + 1) j && Nat.ble j (R.hiOf i)
def newL (R : Rg) (j : Nat) : List Nat := (List.range R.dst.length).filter fun i => !R.eff.contains i && Nat.beq (R.loOf i) j
def stA (P : Program) (Q : Ending → World → Prop) (R : Rg) (ops : List Ao) (K : St → World → Prop) : List Nat → Nat → Am → World → Prop
  | [], j, A, w => again P R ops A w (oldL R j) (news P R ops w (newL R j) A fun A => K ⟨finS R A, [], A.nx⟩ w)
  | e :: rest, j, A, w => again P R ops A w (oldL R j) (news P R ops w (newL R j) A fun A => match ops[e]?, lk A.V e with
    | none, _ | _, some _ => False
    | some o, none => grd R e o A (fun A => match o.o with
        | .op x => ef P Q ⟨envS R A e, [], A.nx⟩ w x fun v s w => stA P Q R ops K rest (j + 1) { (A.add e v) with nx := s.nx } w
        | .pick .. => False)
      fun A => stA P Q R ops K rest (j + 1) (A.add e .no) w)
/-! ## A region that draws its order; those that turn the world stand in no one order -/
def toT : (l : LT) → Lf → Option l.T
  | .i k, .i k' _ e => if k = k' then some e else none
  | .b, .b _ e => some e | .s, .s e => some e | .p, x => ptrE x | .c, x => slcE x | .m, .m e => some e | .m, .m0 => some none | .v, x => some x.d | _, _ => none
def mkL : (l : LT) → Nat → l.T → Lf
  | .i k, _, e => .i k false e | .b, _, e => .b false e | .s, _, e => .s e | .p, n, e => .p n e | .c, _, e => .c e | .m, _, e => .m e | .v, _, e => .v e
def flatT : ST → List LT
  | .l l => [l] | .g ls => ls | .t cs => cs.flatMap Prod.snd
def flatV : SV → List Lf
  | .l x => [x] | .g xs => xs | .t cs => cs.flatMap Prod.snd | _ => []
def bldC : List (Bool × List LT) → List Lf → List (Bool × List Lf)
  | [], _ => []
  | (g, ls) :: r, xs => (g, xs.take ls.length) :: bldC r (xs.drop ls.length)
def bldV : ST → List Lf → SV
  | .l _, x :: _ => .l x | .l _, [] => .no | .g _, xs => .g xs | .t cs, xs => .t (bldC cs xs)
def shapeB : ST → SV → Bool
  | .l _, .l _ => true | .g _, .g _ => true | .t cs, .t xs => cs.length == xs.length && (cs.zip xs).all (fun z => z.1.1 == z.2.1 && z.1.2.length == z.2.2.length) | _, _ => false
inductive NT where | l (l : LT) | n
abbrev NT.T : NT → Type | .l y => y.T | .n => Nat
inductive OK where | blk | mp | st (r : ST) | un | ut
def OK.tys : OK → List NT
  | .blk => [.n] | .mp => [.n] | .un => [] | .ut => [] | .st (.l l) => [.l l] | .st (.g ls) => ls.map .l | .st (.t cs) => (cs.flatMap Prod.snd).map .l
abbrev TupX : List NT → Type
  | [] => Unit
  | [a] => a.T
  | a :: b :: r => a.T × TupX (b :: r)
abbrev OK.T (o : OK) : Type := TupX o.tys
abbrev RelT : List OK → Type
  | [] => World → Prop
  | o :: r => Option o.T → RelT r
abbrev Asg : List OK → Type
  | [] => Unit
  | o :: r => Option o.T × Asg r
def appR : (os : List OK) → RelT os → Asg os → World → Prop
  | [], R, _ => R
  | _ :: r, R, z => appR r (R z.1) z.2
def noA : (os : List OK) → Asg os
  | [] => ()
  | _ :: r => (none, noA r)
def allN : (ts : List NT) → (TupX ts → Prop) → Prop
  | [], F => F ()
  | [_], F => ∀ x, F x
  | _ :: b :: r, F => ∀ x, allN (b :: r) fun z => F (x, z)
def allD : (os : List OK) → List Bool → (Asg os → Prop) → Prop
  | [], _, F => F ()
  | o :: r, true :: ds, F => allN o.tys fun z => allD r ds fun y => F (some z, y)
  | _ :: r, false :: ds, F => allD r ds fun y => F (none, y)
  | o :: r, [], F => F (noA (o :: r))
def allO : (os : List OK) → List Bool → Asg os → (Asg os → Prop) → Prop
  | [], _, _, F => F ()
  | _ :: r, true :: ds, z, F => ∀ x, allO r ds z.2 fun y => F (x, y)
  | _ :: r, false :: ds, z, F => allO r ds z.2 fun y => F (z.1, y)
  | _ :: _, [], z, F => F z
def nmL : (a : NT) → Lf → Option a.T
  | .n, .a (some z) e => if Nat.beq z.2 0 = true then some e.block else none
  | .n, .m (some g) => some g
  | .l l, x => toT l x
  | _, _ => none
def nmX : (ts : List NT) → List Lf → Option (TupX ts)
  | [], _ => some ()
  | [a], [x] => nmL a x
  | a :: b :: r, x :: xs => match nmL a x, nmX (b :: r) xs with | some y, some z => some (y, z) | _, _ => none
  | _, _ => none
def okB (o : OK) (v : SV) : Bool := match o, v with
  | .un, .no => true | .ut, .t [] => true | .blk, .l (.a _ _) => true | .mp, .l (.m _) => true | .st y, v => shapeB y v && (flatV v).length == (flatT y).length | _, _ => false
def nmV (o : OK) (v : SV) : Option o.T := if okB o v = true then nmX o.tys (match o with | .un => [] | .ut => [] | _ => flatV v) else none
def mkN : (a : NT) → Bool → Nat → a.T → Lf
  | .n, true, _, b => .a none (blk b)
  | .n, false, _, g => .m (some g)
  | .l l, _, n, x => mkL l n x
def mkX : (ts : List NT) → Bool → Nat → TupX ts → List Lf
  | [], _, _, _ => []
  | [a], b, n, x => [mkN a b n x]
  | a :: b :: r, q, n, z => mkN a q n z.1 :: mkX (b :: r) q (n + 1) z.2
def OK.sv (o : OK) (n : Nat) (z : o.T) : SV := match o, z with
  | .blk, z => bldV (.l .p) (mkX [.n] true n z) | .mp, z => bldV (.l .m) (mkX [.n] false n z) | .st r, z => bldV r (mkX (OK.st r).tys true n z) | .un, _ => .no | .ut, _ => .t []
def setV : (os : List OK) → List Nat → Nat → SV → Asg os → Option (Asg os)
  | o :: r, x :: xs, e, v, z => if Nat.beq x e = true then (nmV o v).map fun y => (some y, z.2) else (setV r xs e v z.2).map fun t => (z.1, t)
  | _, _, _, _, _ => none
def dfN : (a : NT) → a.T
  | .n => (0 : Nat) | .l (.i _) => (0 : Int) | .l .b => false | .l .s => ByteArray.mk #[] | .l .p => (none : Option Addr) | .l .c => Slc.nil | .l .m => (none : Option Nat) | .l .v => Value.nilIface
def dfX : (ts : List NT) → TupX ts
  | [] => ()
  | [a] => dfN a
  | a :: b :: r => (dfN a, dfX (b :: r))
def dfA : (os : List OK) → Asg os
  | [] => ()
  | o :: r => (some (dfX o.tys), dfA r)
def late' : I → Bool | .mv _ | .ex .. | .bd .. => true | _ => false
def okOf (d : Option Nat) : I → Option OK
  | .bx .. | .al .. | .rg .. => some .blk
  | .bs .. | .mk .. | .tB .. | .ap .. => some (.st (.l .c))
  | .mm _ => some .mp
  | .cy .. => some (match d with | some _ => .st (.l (.i .i64)) | none => .st (.l (.i .i64)))
  | .st .. | .stN .. | .mu .. => some .un
  | .dl .. => some .ut
  | .ca _ _ r | .cv _ _ r | .ci _ _ _ r => some (match r with | some r => .st r | none => .un)
  | .lk _ _ _ _ r | .et _ r => some (.st r)
  | _ => none
def isIn (l : List Nat) (e : Nat) : Bool := l.contains e
structure Fr where
  R : Rg
  ops : List Ao
  os : List OK
  ep : List (List Nat)   -- which of those that turn the world stand ahead, behind
  es : List (List Nat)
  nc : List Nat
def Fr.epOf (f : Fr) (i : Nat) : List Nat := f.ep.getD i []
def Fr.esOf (f : Fr) (i : Nat) : List Nat := f.es.getD i []
def svsA : (os : List OK) → List Nat → Nat → Asg os → List (Nat × SV)
  | [], _, _, _ => []
  | o :: r, e :: es, n, z => match z.1 with | some x => (e, o.sv n x) :: svsA r es (n + o.tys.length) z.2 | none => svsA r es (n + o.tys.length) z.2
  | _ :: _, [], _, _ => []
def runV (f : Fr) (A : Am) (G : List (Nat × SV)) : List Nat → Option Am
  | [] => some A
  | i :: r => if f.R.eff.contains i then match lk G i with | some v => runV f (A.add i v) G r | none => runV f A G r
    else if (f.epOf i).isEmpty then runV f A G r
    else if (f.epOf i).all (fun e => (lk G e).isSome) then match f.ops[i]? with
      | some ⟨_, none, .op x⟩ => if late' x = true then match pu ⟨envS f.R A i, [], A.nx⟩ x with | some v => runV f (A.add i v) G r | none => none else none
      | _ => none
    else runV f A G r
def upF (P : Program) (f : Fr) : List Nat → Am → List (Nat × (World → Prop)) → (Am → List (Nat × (World → Prop)) → Prop) → Prop
  | [], A, l, K => K A l
  | i :: r, A, l, K => if f.R.eff.contains i || !(f.epOf i).isEmpty then upF P f r A l K else match f.ops[i]? with
    | some ⟨_, none, .op (.ld x y)⟩ => (match ev (envS f.R A i) x with
      | some (.l (.a _ (e : Addr))) => ex1 y A.nx fun v => upF P f r ⟨(i, .l v) :: A.V, A.L0, A.nx + 1⟩ (l ++ [(i, fun (w : World) => w.cell? e = some v.d)]) K
      | _ => False)
    | some ⟨_, none, .op (.ldN x ys)⟩ => (match ev (envS f.R A i) x with
      | some (.l (.a _ (e : Addr))) => exL ys A.nx fun vs n => upF P f r ⟨(i, .g vs) :: A.V, A.L0, n⟩ (l ++ [(i, fun (w : World) => cnj w e 0 vs)]) K
      | _ => False)
    | some ⟨_, none, .op (.tS ..)⟩ => False
    | some ⟨_, none, .op (.nc x)⟩ => (match pu ⟨envS f.R A i, [], A.nx⟩ (.nc x) with | some v => upF P f r (A.add i v) l K | none => False)
    | some ⟨_, none, .op x⟩ => if x.ef then False else co P false ⟨envS f.R A i, [], A.nx⟩ default x fun v s _ => upF P f r { (A.add i v) with nx := s.nx } l K
    | _ => False
def ofV (f : Fr) (A : Am) (z : Asg f.os) : Option Am := runV f A (svsA f.os f.R.eff A.nx z) (List.range f.ops.length)
def lsF (f : Fr) (Rel : RelT f.os) : List (Nat × (World → Prop)) → Prop → Prop
  | [], K => K
  | (i, c) :: r, K => (allO f.os (f.R.eff.map fun e => !isIn (f.esOf i) e) (noA f.os) fun z => ∀ w : World, appR f.os Rel z w → c w) ∧ lsF f Rel r K
def nmsL (os : List OK) : Nat := os.foldr (fun o n => o.tys.length + n) 0
def tsF (P : Program) (Q : Ending → World → Prop) (f : Fr) (A : Am) (Rel : RelT f.os) : List Nat → Prop → Prop
  | [], K => K
  | e :: r, K => (allD f.os (f.R.eff.map fun x => isIn (f.epOf e) x) fun z0 => allO f.os (f.R.eff.map fun x => !isIn (f.epOf e) x && !isIn (f.esOf e) x && !Nat.beq x e) z0 fun z => ∀ w : World, appR f.os Rel z w →
      match ofV f A z0, f.ops[e]? with
      | some A', some ⟨_, none, .op x⟩ => ef P Q ⟨envS f.R A' e, [], A.nx + nmsL f.os⟩ w x fun v _ w => match setV f.os f.R.eff e v z with | some z' => appR f.os Rel z' w | none => False
      | _, _ => False) ∧ tsF P Q f A Rel r K
def ncs : List Nat → St → (St → Prop) → Prop
  | [], s, K => K s
  | t :: r, s, K => match lk s.E t with
    | some (.l (.p id e)) => ∃ a : Addr, e = some a ∧ ncs r (s.sb id a) K
    | _ => ncs r s K
def frD (P : Program) (Q : Ending → World → Prop) (f : Fr) (s : St) (w : World) (K : St → World → Prop) : Prop :=
  ncs f.nc s fun s => upF P f (List.range f.ops.length) ⟨[], s.E, s.nx⟩ [] fun A ls => match ofV f A (dfA f.os) with
    | none => False
    | some _ => ∃ Rel : RelT f.os, appR f.os Rel (noA f.os) (w.drewN 1) ∧ lsF f Rel ls (tsF P Q f A Rel f.R.eff
      (allD f.os (f.os.map fun _ => true) fun z => ∀ w : World, appR f.os Rel z w → match ofV f A z with
        | some A' => K ⟨finS f.R A', [], A.nx + nmsL f.os⟩ w
        | none => False))
def nodN : List Nat → Bool
  | [] => true | x :: r => !isIn r x && nodN r
def frB (f : Fr) (ops : Array Oper) : Bool :=
  Rh.chk ⟨f.R, f.ep, f.es⟩ ops && Nat.beq f.os.length f.R.eff.length && nodN f.R.eff &&
  (List.range f.ops.length).all (fun i => (f.R.preOf i).all fun p => (f.epOf p).all (fun e => isIn (f.epOf i) e) && (!isIn f.R.eff p || isIn (f.epOf i) p)) &&
  f.R.eff.all (fun e => !isIn (f.epOf e) e && (f.esOf e).all fun x => !isIn f.R.eff x || isIn (f.epOf x) e)
/-! ## Code -/
inductive T where
  | skip | ret | exit (id : Nat) | ops (l : L) | quiet (l : L) | pre (m : Nat) (l1 l2 : L) | any (R : Rg) (ops : List Ao) | free (f : Fr) | seq (a b : T) | join (sl : List (Nat × ST)) (dr : List Nat) (a b : T)
  | cond (x : Operand) (a b : T) | blk (id : Nat) (a : T) | loop (sl : List (Nat × ST)) (dr : List Nat) (a : T) | scope (a : T)
structure Cn where
  n : St → World → Prop
  e : Nat → St → World → Prop
  r : St → World → Prop
abbrev Cur : List LT → Type → Type
  | [], X => X
  | l :: r, X => l.T → Cur r X
abbrev Tup : List LT → Type
  | [] => Unit
  | l :: r => l.T × Tup r
def app {X : Type} : (ls : List LT) → Cur ls X → Tup ls → X
  | [], x, _ => x
  | _ :: r, f, z => app r (f z.1) z.2
def allT : (ls : List LT) → (Tup ls → Prop) → Prop
  | [], F => F ()
  | _ :: r, F => ∀ x, allT r fun z => F (x, z)
def argT : (ls : List LT) → List Lf → Option (Tup ls)
  | [], [] => some ()
  | l :: r, x :: xs => match toT l x, argT r xs with | some a, some z => some (a, z) | _, _ => none
  | _, _ => none
def ofT : (ls : List LT) → Nat → Tup ls → List Lf
  | [], _, _ => []
  | l :: r, n, z => mkL l n z.1 :: ofT r (n + 1) z.2
def bld : List (Nat × ST) → List Lf → List (Nat × SV)
  | [], _ => []
  | (t, y) :: r, xs => (t, bldV y (xs.take (flatT y).length)) :: bld r (xs.drop (flatT y).length)
def lsOf (sl : List (Nat × ST)) : List LT := sl.flatMap fun z => flatT z.2
def vals (E : List (Nat × SV)) : List (Nat × ST) → Option (List Lf)
  | [] => some []
  | (t, y) :: r => match lk E t, vals E r with | some v, some xs => if shapeB y v && (flatV v).length == (flatT y).length then some (flatV v ++ xs) else none | _, _ => none
def St.at (s : St) (sl : List (Nat × ST)) (dr : List Nat) (z : Tup (lsOf sl)) : St := ⟨bld sl (ofT (lsOf sl) s.nx z) ++ (s.drop dr).E, [], s.nx + (lsOf sl).length⟩
def T.den (P : Program) (Q : Ending → World → Prop) : T → St → World → Cn → Prop
  | .skip, s, w, K => K.n s w
  | .ret, s, w, K => K.r s w
  | .exit i, s, w, K => K.e i s w
  | .ops l, s, w, K => l.den P false Q s w K.n
  | .quiet l, s, w, K => l.den P true Q s w fun s w => ∀ k : Nat, K.n s (w.drewN k)
  | .pre _ l1 l2, s, w, K => l1.den P false Q s (w.drewN 1) fun s w => l2.den P true Q s w fun s w => ∀ k : Nat, K.n s (w.drewN k)
  | .any R os, s, w, K => stA P Q R os K.n R.eff 0 ⟨[], s.E, s.nx⟩ (w.drewN 1)
  | .free f, s, w, K => frD P Q f s w K.n
  | .seq a b, s, w, K => a.den P Q s w { K with n := fun s w => b.den P Q s w K }
  | .join sl dr a b, s, w, K => ∃ R : Cur (lsOf sl) (World → Prop), (a.den P Q s w { K with n := fun s w => match (vals s.E sl).bind (argT (lsOf sl)) with | some z => app (lsOf sl) R z w | none => False }) ∧
      allT (lsOf sl) fun z => ∀ w : World, app (lsOf sl) R z w → b.den P Q (s.at sl dr z) w K
  | .cond x a b, s, w, K => match ev s.E x with
    | some (.l (.b _ c)) => (c = true → a.den P Q s w K) ∧ (c = false → b.den P Q s w K)
    | _ => False
  | .blk i a, s, w, K => a.den P Q s w { K with e := fun j => bif Nat.beq j i then K.n else K.e j }
  | .loop sl dr a, s, w, K => ∃ (I : Cur (lsOf sl) (World → Prop)) (m : Cur (lsOf sl) (World → Nat)),
      (match (vals s.E sl).bind (argT (lsOf sl)) with | some z => app (lsOf sl) I z w | none => False) ∧ allT (lsOf sl) fun z => ∀ w : World, app (lsOf sl) I z w →
        a.den P Q (s.at sl dr z) w { K with n := fun s w' => match (vals s.E sl).bind (argT (lsOf sl)) with | some z' => app (lsOf sl) I z' w' ∧ app (lsOf sl) m z' w' < app (lsOf sl) m z w | none => False }
  | .scope a, s, w, K => a.den P Q s w K
inductive Rs where | t (t : Nat) | c (t : Nat) (y : ST)
def one (vs : List Value) : Value := match vs with | [v] => v | vs => .tuple vs.toArray
def resD (s : St) (w : World) (K : List Value → Prop) : List Rs → Prop
  | [] => K []
  | .t t :: r => match lk s.E t with | some v => resD s w (fun vs => K (v.d :: vs)) r | none => False
  | .c t y :: r => match lk s.E t with
    | some (.l (.a k e)) => (match y with
      | .l l => (match knAt s k 0 with | some v => resD s w (fun vs => K (v.d :: vs)) r | none => ex1 l s.nx fun x => w.cell? e = some x.d ∧ resD s w (fun vs => K (x.d :: vs)) r)
      | .g ls => ldN s w e k 0 ls s.nx fun xs _ => resD s w (fun vs => K ((SV.g xs).d :: vs)) r
      | _ => False)
    | _ => False
structure F where
  t : T
  rs : List Rs
def F.den (P : Program) (Q : Ending → World → Prop) (f : F) (s : St) (w : World) : Prop :=
  let e := fun (s : St) (w : World) => resD s w (fun vs => Q (.returned (one vs)) w) f.rs
  f.t.den P Q s w ⟨e, fun _ _ _ => False, e⟩
/-! ## From code -/
def kindLT (P : Program) (t : TypeId) : Option LT := match P.underlying t with
  | some (.int k) => some (.i k) | some .bool => some .b | some .string => some .s | some (.pointer _) => some .p | some (.slice _) => some .c | some (.map _ _) => some .m
  | some (.struct _) | some (.array _ _) | some (.tuple _) | none => none | some _ => some .v
def leaves (P : Program) : Nat → TypeId → Option (List LT)
  | 0, _ => none
  | n + 1, t => match P.underlying t with
    | some (.struct fs) => (optMap (fun f => leaves P n f.type) fs.toList).map List.flatten
    | some (.array k e) => (leaves P n e).map fun l => (List.replicate k l).flatten
    | _ => (kindLT P t).map fun l => [l]
def isAggB (P : Program) (t : TypeId) : Bool := match P.underlying t with | some (.struct _) | some (.array _ _) => true | _ => false
def tyC (P : Program) (t : TypeId) : Option (Bool × List LT) := (leaves P 20 t).map fun l => (isAggB P t, l)
def tyS (P : Program) (t : TypeId) : Option ST := match P.underlying t with
  | some (.tuple ts) => (optMap (tyC P) ts.toList).map .t
  | _ => if isAggB P t then (leaves P 20 t).map .g else (kindLT P t).map .l
def oneS (c : Bool × List LT) : ST := match c with | (false, [l]) => .l l | (_, ls) => .g ls
def fieldOf (P : Program) (t : TypeId) (i : Nat) : Option Field := match P.underlying t with | some (.struct fs) => fs[i]? | _ => none
def zeroS (P : Program) (t : TypeId) : Option SV := ((P.info? t).bind (·.zero)).bind litV
def szB (P : Program) (t : TypeId) : Nat := match P.info? t with | some i => i.size | none => 0
def partsOf (P : Program) (t : TypeId) (ps : List (Nat × Operand)) : Option (List (Nat × Nat × Operand)) := match P.underlying t with
  | some (.struct fs) => optMap (fun z => (fs[z.1]?).map fun f => (f.offset, szB P f.type, z.2)) ps
  | some (.array _ e) => some (ps.map fun z => (z.1 * szB P e, szB P e, z.2))
  | _ => none
def infB (P : Program) (t : TypeId) : Bool := match P.underlying t with
  | some (.struct fs) => fs.toList.all fun f => (P.info? f.type).isSome
  | some (.array _ e) => (P.info? e).isSome
  | _ => false
def retT (P : Program) (d : Option Nat) (ty : TypeId) : Option (Option ST) := match d with | some _ => (tyS P ty).map some | none => some none
def shL : List Sh → Option Sh
  | [] => none | [x] => some x | x :: r => (shL r).map (.n x)
def shF (P : Program) (sub : TypeId → Option Sh) : Nat → List Field → Option (List Sh × Nat)
  | off, [] => some ([], off)
  | off, f :: r => if (!(f.name == "_") && Nat.beq f.offset off && (oneB P f.type || (isAggB P f.type && aggB P f.type (szB P f.type)))) = true then match sub f.type, shF P sub (off + szB P f.type) r with
      | some h, some (hs, m) => some (h :: hs, m)
      | _, _ => none
    else none
def shOf (P : Program) : Nat → TypeId → Option Sh
  | 0, _ => none
  | n + 1, t => match P.underlying t with
    | some (.struct fs) => if P.stoodInHeld t then none else match shF P (shOf P n) 0 fs.toList with
      | some (hs, m) => if Nat.beq m (szB P t) then shL hs else none
      | none => none
    | some (.int k) => if (intB P t k && oneB P t) = true then some (.i t k) else none
    | some .string => if (strB P t && oneB P t) = true then some (.s t) else none
    | some .bool => if (boolB P t && oneB P t) = true then some (.b t) else none
    | _ => none
def cO (P : Program) (its : List (Nat × TypeId)) (d : Option Nat) (ty : TypeId) : Op → Option I
  | .move x => some (.mv x)
  | .assign x => some (.mv x)
  | .nilCheck x => some (.nc x)
  | .fieldAddr t x i => match fieldOf P t i with | some f => if fldB P t i f.offset then some (.fd x f.offset) else none | none => none
  | .binOp o t x y _ => match P.underlying t with
    | some (.int _) => some (.bin .i o x y)
    | some .string => some (.bin .s o x y)
    | some (.pointer _) => if ptrB P t then some (.bin .p o x y) else none
    | some (.interface _) => match y with | .const _ => if ifcB P t then some (.bin .f o x y) else none | _ => none
    | some (.func ..) => if funcB P t then some (.bin .n o x y) else none
    | some (.map ..) => if isMapB P t then some (.bin .m o x y) else none
    | some (.slice _) => if isSlcB P t then some (.bin .c o x y) else none
    | some .bool => if boolB P t then some (.bin .b o x y) else none
    | some (.struct _) => if P.eqGuardType P.depth t then none else match o with | .eql => (shOf P 20 t).map fun h => .eq false h x y | .neq => (shOf P 20 t).map fun h => .eq true h x y | _ => none
    | _ => none
  | .unOp o _ x => some (.un o x)
  | .convert t u x => match P.underlying t, P.underlying u with
    | some (.int _), some (.int k) => if someB P t && intB P u k then some (.cI k x) else none
    | some .string, some .string => if someB P t && strB P u then some (.cS x) else none
    | some (.slice _), some .string => some (.tS t u x)
    | some .string, some (.slice _) => some (.tB t u x)
    | some (.slice _), some (.slice _) => if t = u then some (.cB t x) else none
    | _, _ => none
  | .extract x q => some (.ex x q)
  | .field t x i => match fieldOf P t i with
    | some f => if partB P t i f.offset 0 then some (.fv x f.offset) else if partB P t i f.offset (szB P f.type) && Nat.ble 1 (szB P f.type) then some (.fvN x f.offset (szB P f.type)) else none
    | none => none
  | .makeInterface t x => if notIfaceB P t then some (.ifc t x) else none
  | .makeFunc fn fs xs => match fn, fs.toList with | .func f, [] => some (.mf f xs.toList) | _, _ => none
  | .build t ps => match zeroS P t, partsOf P t ps.toList with | some z, some l => if infB P t then (lvs z).map fun z => .bd z l else none | _, _ => none
  | .buildSlice t n ps => match P.underlying t with
    | some (.slice e) => match (zeroS P e).bind lvs with
      | some z => if (Nat.beq z.length (szB P e) && (P.info? e).isSome && Nat.ble (n * szB P e) 16777216) = true then some (.bs e n (List.replicate n z).flatten (ps.toList.map fun q => (q.1 * szB P e, szB P e, q.2))) else none
      | none => none
    | _ => none
  | .indexAddr t x y => match P.underlying t with
    | some (.slice e) => if slcB P t (szB P e) then some (.xS x y (szB P e)) else none
    | some (.array n e) => if arrB P t n (szB P e) then some (.xA x y n (szB P e)) else none
    | _ => none
  | .index t x y => if strB P t then some (.xT x y) else none
  | .slice t x lo hi mx => match mx, P.underlying t with
    | none, some .string => if strB P t then some (.sS x lo hi) else none
    | none, some (.slice e) => if slcB P t (szB P e) then some (.sC x lo hi (szB P e)) else none
    | _, _ => none
  | .load t x => if oneB P t then (kindLT P t).map (.ld x) else match leaves P 20 t with | some ls => if aggB P t ls.length then some (.ldN x ls) else none | none => none
  | .store t x y => if oneB P t then some (.st x y) else match leaves P 20 t with | some ls => if aggB P t ls.length then some (.stN x y ls.length) else none | none => none
  | .alloc t => (zeroS P t).map (.al t)
  | .box t x => some (.bx t x)
  | .makeSlice t x y => some (.mk t x y)
  | .makeMap t r => match r with | none => some (.mm t) | some _ => none
  | .mapUpdate t x y z => some (.mu t x y z)
  | .insert t x y z => some (.mu t x y z)
  | .lookup t x y com => match P.underlying t with
    | some (.map _ e) => match tyC P e with
      | some c => some (.lk t x y com (if com then .t [c, (false, [.b])] else oneS c))
      | none => none
    | _ => none
  | .typeAssert x t u com => match tyC P u with
    | some c => some (.ta t u com x (if com then .t [c, (false, [.b])] else oneS c))
    | none => none
  | .range t x => match P.underlying t with | some (.map ..) => some (.rg t x) | _ => none
  | .entry x => match x with
    | .tmp q => match its.find? (fun z => Nat.beq z.1 q) with
      | some (_, t) => (match P.underlying t with
        | some (.map k e) => (match tyC P k, tyC P e with | some a, some b => some (.et x (.t [a, b])) | _, _ => none)
        | _ => none)
      | none => none
    | _ => none
  | .call c => match c.callee, c.args.toList, c.argTypes.toList with
    | .builtin .len, [x], [t] => match P.underlying t with
      | some (.slice _) => if isSlcB P t then some (.ln .c x) else none
      | some .string => if strB P t then some (.ln .s x) else none
      | some (.map ..) => some (.ml t ty x)
      | _ => none
    | .builtin .cap, [x], [t] => if isSlcB P t then some (.cp x) else none
    | .builtin .min, [x, y], _ => some (.mn x y)
    | .builtin .max, [x, y], _ => some (.mx x y)
    | .builtin .append, [x, y], [t, u] => some (.ap t u ty x y)
    | .builtin .copy, [x, y], [t, u] => some (.cy t u ty x y)
    | .builtin .delete, [x, y], [t, u] => some (.dl t u ty x y)
    | .builtin .panic, [x], _ => some (.pn x)
    | .value (.func f), xs, _ => if bodyB P f then (retT P d ty).map (.ca f xs) else none
    | .value x, xs, _ => (retT P d ty).map (.cv x xs)
    | .invoke x nm, xs, _ => match retT P d ty with | some (some r) => some (.ci x nm xs (some r)) | _ => none
    | _, _, _ => none
  | .panic x => some (.pn x)
  | _ => none
def dsB : Option Nat → I → Bool
  | none, .st .. | none, .stN .. | none, .mu .. | _, .cy .. | _, .dl .. | _, .pn _ => true
  | some _, .st .. | some _, .stN .. | some _, .mu .. => false
  | some _, .ca _ _ r | some _, .cv _ _ r => r.isSome | none, .ca _ _ r | none, .cv _ _ r => r.isNone
  | some _, _ => true | none, _ => false
def dOk (n : Nat) : Option Nat → Bool | some d => Nat.ble (d + 1) n | none => true
def cD (P : Program) (its : List (Nat × TypeId)) (n : Nat) (o : Oper) : Option I := match cO P its o.dst o.type o.op with
  | some i => if (dOk n o.dst && dsB o.dst i) = true then some i else none
  | none => none
def sameG : Option (Nat × Bool) → Option (Nat × Bool) → Bool
  | none, none => true | some (a, b), some (c, d) => Nat.beq a c && b == d | _, _ => false
def has (l : List Nat) (t : Nat) : Bool := l.any fun x => Nat.beq x t
def skipB (ops : Array Oper) (n gs : Nat) (want : Bool) : List Oper → List Nat → Bool
  | [], _ => true
  | q :: r, us => (match q.guard with | none => false | some (j, b) => match (ops[j]?).bind (·.dst) with | none => false | some t => (Nat.beq t gs && b == want) || has us t) && dOk n q.dst &&
      (match q.dst with | some d => !Nat.beq d gs && skipB ops n gs want r (d :: us) | none => skipB ops n gs want r us)
def L.hasEf : L → Bool
  | .nil => false | .op _ i r => i.ef || r.hasEf | .nxt .. => true | .grp _ _ e _ _ _ _ _ r => e || r.hasEf
def dsts (l : List Oper) : List Nat := l.filterMap (·.dst)
def sel (b : Bool) (x y : Operand) : Operand := match b with | true => x | false => y
def othOk (l : List Nat) : Operand → Bool | .tmp t => !has l t | _ => true
def cL (P : Program) (its : List (Nat × TypeId)) (n : Nat) (ops : Array Oper) : Nat → Option (Nat × Bool) → List Oper → Option L
  | 0, _, _ => none
  | _ + 1, _, [] => some .nil
  | m + 1, none, ⟨some d, .next x false, ty, _, _, none⟩ :: ⟨some d2, .extract (.tmp d') 0, _, _, _, none⟩ :: r =>
    if (Nat.beq d d' && dOk n (some d) && dOk n (some d2) && !Nat.beq d d2) = true then (cL P its n ops m none r).map (.nxt d d2 ty x) else none
  | m + 1, cx, o :: r => if sameG o.guard cx = true then match cD P its n o, cL P its n ops m cx r with | some i, some r => some (.op o.dst i r) | _, _ => none
    else match o.guard with
      | none => none
      | some (j, want) =>
        let body := (o :: r).takeWhile fun q => !sameG q.guard cx
        match (o :: r).dropWhile fun q => !sameG q.guard cx with
        | ⟨some d, .pick (.tmp gs) x y, _, _, _, _⟩ :: r2 => match (ops[j]?).bind (·.dst), cL P its n ops m (some (j, want)) body, cL P its n ops m cx r2 with
          | some gs', some b, some r3 => if (Nat.beq gs gs' && skipB ops n gs want body [] && dOk n (some d) && othOk (dsts body) (sel want y x)) = true then some (.grp want gs b.hasEf b d (sel want x y) (sel want y x) (dsts body) r3) else none
          | _, _, _ => none
        | _ => none
def lastEf (P : Program) (its : List (Nat × TypeId)) : List Oper → Option Nat
  | [] => none
  | o :: r => match lastEf P its r with | some k => some (k + 1) | none => match cO P its o.dst o.type o.op with | some i => if i.ef then some 0 else none | none => none
def insN (t : Nat) : List Nat → List Nat
  | [] => [t] | x :: r => if Nat.beq x t then x :: r else if Nat.ble t x then t :: x :: r else x :: insN t r
def rgOf (ops : Array Oper) (efs : List Nat) : Rg :=
  let b := Region.before ops
  ⟨ops.toList.map fun o => (o.after.toList.filter (Region.binds .any ·)).foldl (fun l e => insN e.on l) [], ops.toList.map (·.dst), efs,
    (List.range ops.size).map fun i => (efs.filter fun e => (b.getD i 0).testBit e).length,
    (List.range ops.size).map fun i => match efs.zipIdx.find? (fun z => (b.getD z.1 0).testBit i) with | some z => z.2 | none => efs.length⟩
def chain (b : Array Nat) : List Nat → Bool
  | x :: y :: r => (b.getD y 0).testBit x && chain b (y :: r)
  | _ => true
def efsOf (P : Program) (its : List (Nat × TypeId)) (l : List Oper) : List Nat := (l.zipIdx.filter fun z => match cO P its z.1.dst z.1.type z.1.op with | some i => i.ef | none => false).map (·.2)
def cA (P : Program) (its : List (Nat × TypeId)) (n : Nat) (ops : Array Oper) (o : Oper) : Option Ao :=
  let g : Option (Option (Nat × Bool)) := match o.guard with | none => some none | some (j, want) => ((ops[j]?).bind (·.dst)).map fun t => some (t, want)
  match g with
  | none => none
  | some g => match o.op with
    | .pick (.tmp c) a b => if (dOk n o.dst && o.dst.isSome) = true then some ⟨o.dst, g, .pick c a b⟩ else none
    | _ => (cD P its n o).map fun i => ⟨o.dst, g, .op i⟩
/-! ## What is live: guides alone -/
def ins (t : Nat) : List Nat → List Nat
  | [] => [t] | x :: r => if Nat.beq x t then x :: r else if Nat.ble t x then t :: x :: r else x :: ins t r
def uni (a b : List Nat) : List Nat := a.foldl (fun l t => ins t l) b
def rdOp (o : Op) : List Nat := o.operands.toList.filterMap fun | .tmp t => some t | _ => none
def rdO (ops : Array Oper) (o : Oper) : List Nat := match o.guard with
  | some (j, _) => (match (ops[j]?).bind (·.dst) with | some t => t :: rdOp o.op | none => rdOp o.op)
  | none => rdOp o.op
def lvO (ops : Array Oper) (out : List Nat) : List Oper → List Nat
  | [] => out
  | o :: r => let l := lvO ops out r; uni (rdO ops o) (match o.dst with | some d => l.filter fun t => !Nat.beq t d | none => l)
def iter (f : List Nat → List Nat) : Nat → List Nat → List Nat
  | 0, l => l
  | n + 1, l => let m := f l; if m.all (has l) then l else iter f n (uni m l)
def lvC (rl : List Nat) : Code → List Nat → (Nat → List Nat) → List Nat
  | .region _ ops _, nl, _ => lvO ops nl ops.toList
  | .seq a b, nl, el => lvC rl a (lvC rl b nl el) el
  | .cond (.tmp c) a b, nl, el => ins c (uni (lvC rl a nl el) (lvC rl b nl el))
  | .cond _ a b, nl, el => uni (lvC rl a nl el) (lvC rl b nl el)
  | .block i a, nl, el => lvC rl a nl fun j => if Nat.beq j i then nl else el j
  | .loop a, _, el => iter (fun l => lvC rl a l el) 9 []
  | .scope a, nl, el => lvC rl a nl el
  | .exit i, _, el => el i
  | .ret, _, _ => rl
  | _, nl, _ => nl
def wrC : Code → List Nat
  | .region _ ops _ => (dsts ops.toList).foldl (fun l t => ins t l) []
  | .seq a b => uni (wrC a) (wrC b) | .cond _ a b => uni (wrC a) (wrC b) | .block _ a => wrC a | .loop a => wrC a | .scope a => wrC a | _ => []
def splits (P : Program) (its : List (Nat × TypeId)) (ops : Array Oper) (draw : Bool) : Bool :=
  draw && (match lastEf P its ops.toList with | none => false | some k => ops.any (fun o => o.guard.isSome) && !(preB ops (ops.toList.drop (k + 1)).length (k + 1) 0 (Array.replicate ops.size false)))
def nEx (P : Program) (its : List (Nat × TypeId)) (i : Nat) : Code → Nat × Nat   -- normal ends, exits to i
  | .region _ ops draw => (if splits P its ops draw then 2 else 1, 0)
  | .exit j => (0, if Nat.beq i j then 1 else 0)
  | .seq a b => let x := nEx P its i a; let y := nEx P its i b; if x.1 = 0 then (0, x.2) else (y.1, x.2 + y.2)
  | .cond _ a b => let x := nEx P its i a; let y := nEx P its i b; (x.1 + y.1, x.2 + y.2)
  | .block j a => let x := nEx P its i a; (x.1 + (nEx P its j a).2, x.2)
  | .scope a => nEx P its i a
  | .loop a => (0, (nEx P its i a).2)
  | .ret => (0, 0) | .goto _ => (0, 0) | .refuse _ => (0, 0)
  | _ => (1, 0)
def hasLoop : Code → Bool
  | .loop _ => true | .seq a b => hasLoop a || hasLoop b | .cond _ a b => hasLoop a || hasLoop b | .block _ a => hasLoop a | .scope a => hasLoop a | _ => false
def isBlk : Code → Bool | .block .. => true | _ => false
def opsC : Code → List Oper
  | .region _ ops _ => ops.toList | .seq a b => opsC a ++ opsC b | .cond _ a b => opsC a ++ opsC b | .block _ a => opsC a | .loop a => opsC a | .scope a => opsC a | _ => []
def itsOf (l : List Oper) : List (Nat × TypeId) := l.filterMap fun o => match o.dst, o.op with | some d, .range t _ => some (d, t) | _, _ => none
def late : Op → Bool | .box .. | .alloc _ | .fieldAddr .. | .indexAddr .. => true | _ => false
def tysOf (ps : List TypeId) (l : List Oper) : List (Nat × TypeId) :=
  ps.zipIdx.map (fun z => (z.2, z.1)) ++ l.filterMap (fun o => match o.dst with | some d => if late o.op || Nat.beq o.type 0 then none else some (d, o.type) | none => none) ++
    l.filterMap fun o => match o.dst with | some d => if Nat.beq o.type 0 then none else some (d, o.type) | none => none
structure Cx where
  P : Program
  n : Nat
  its : List (Nat × TypeId)
  tys : List (Nat × TypeId)
  rl : List Nat
def slot (X : Cx) (t : Nat) : Option (Nat × ST) := match X.tys.find? (fun z => Nat.beq z.1 t) with | some (_, ty) => (tyS X.P ty).map fun y => (t, y) | none => none
def wrOf (l : List Oper) (t : Nat) : Option Op := match l.find? (fun o => match o.dst with | some d => Nat.beq d t | none => false) with | some o => some o.op | none => none
def resS (l : List Oper) : Nat → Nat → Option Nat
  | 0, _ => none
  | n + 1, t => match wrOf l t with | none => some t | some (.move (.tmp u)) => resS l n u | _ => none
def ncOf (l : List Oper) : List Nat := l.filterMap fun o => match o.op with | .nilCheck (.tmp t) => resS l 20 t | _ => none
def cR (X : Cx) (ops : Array Oper) (draw : Bool) : Option T :=
  let l := ops.toList
  if draw then
    if X.P.follows .mixedOrders then match lastEf X.P X.its l with
      | none => if Region.lexB .any ops then match cL X.P X.its X.n ops (2 * l.length + 2) none l with | some l => if l.hasEf then none else some (.quiet l) | none => none else none
      | some k => let m := k + 1
        if Region.noSelect ops && Nat.beq (l.take m).length m && preB ops (l.drop m).length m 0 (Array.replicate l.length false) then
          match cL X.P X.its X.n ops (2 * l.length + 2) none (l.take m), cL X.P X.its X.n ops (2 * l.length + 2) none (l.drop m) with | some a, some b => if b.hasEf then none else some (.pre m a b) | _, _ => none
        else
          let efs := efsOf X.P X.its l; let R := rgOf ops efs
          let b := Region.before ops
          if chain b efs then (if R.chk ops then (optMap (cA X.P X.its X.n ops) l).map (.any R) else none)
          else match optMap (cA X.P X.its X.n ops) l, optMap (fun i => match l[i]? with | some o => (cO X.P X.its o.dst o.type o.op).bind (okOf o.dst) | none => none) efs with
            | some aos, some os => let fr : Fr := ⟨R, aos, os, (List.range l.length).map (fun i => efs.filter fun e => (b.getD i 0).testBit e), (List.range l.length).map (fun i => efs.filter fun e => (b.getD e 0).testBit i), ncOf l⟩
              if frB fr ops = true then some (.free fr) else none
            | _, _ => none
    else none
  else (cL X.P X.its X.n ops (2 * l.length + 2) none l).map .ops
def cC (X : Cx) : Code → List Nat → (Nat → List Nat) → List Nat → Option T
  | .skip, _, _, _ => some .skip
  | .ret, _, _, _ => some .ret
  | .label _, _, _, _ => some .skip
  | .exit i, _, _, _ => some (.exit i)
  | .region _ ops draw, _, _, _ => cR X ops draw
  | .seq a b, nl, el, df =>
    let lv := lvC X.rl b nl el; let wr := wrC a
    match cC X a lv el df, cC X b nl el (uni wr df) with
    | some a', some b' => if Nat.ble (nEx X.P X.its 0 a).1 1 && !(isBlk a && hasLoop a) then some (.seq a' b')
      else (optMap (slot X) (lv.filter (has wr))).map fun sl => .join sl wr a' b'
    | _, _ => none
  | .cond c a b, nl, el, df => match cC X a nl el df, cC X b nl el df with | some a, some b => some (.cond c a b) | _, _ => none
  | .block i a, nl, el, df => (cC X a nl (fun j => if Nat.beq j i then nl else el j) df).map (.blk i)
  | .loop a, _, el, df => let lv := iter (fun l => lvC X.rl a l el) 9 []; let wr := wrC a
    match cC X a lv el (uni wr df), optMap (slot X) (lv.filter fun t => has wr t && has df t) with | some a, some sl => some (.loop sl wr a) | _, _ => none
  | .scope a, nl, el, df => (cC X a nl el df).map .scope
  | _, _, _, _ => none
def rsOf (P : Program) : ResultVar → Option Rs
  | .tmp t => some (.t t)
  | .cell t u => if oneB P u then (kindLT P u).map fun l => .c t (.l l) else match leaves P 20 u with | some ls => if aggB P u ls.length then some (.c t (.g ls)) else none | none => none
def rSlot : ResultVar → Nat | .tmp t => t | .cell t _ => t
def cF (P : Program) (fn : Func) (c : Code) : Option F :=
  let l := opsC c; let rl := fn.results.toList.foldl (fun l r => ins (rSlot r) l) []
  match cC ⟨P, fn.ntmps, itsOf l, tysOf fn.params.toList l, rl⟩ c rl (fun _ => []) (List.range (fn.params.size + fn.nfree)), optMap (rsOf P) fn.results.toList with
  | some t, some rs => some ⟨t, rs⟩
  | _, _ => none
def idsL : List Lf → Option (List Nat)
  | [] => some []
  | .p id _ :: r => (idsL r).map (id :: ·)
  | .a (some _) _ :: _ => none
  | _ :: r => idsL r
def nodB : List Nat → Bool
  | [] => true | x :: r => !has r x && nodB r
def okVs (vs : List SV) (nx : Nat) : Bool := match idsL (vs.flatMap flatV) with | some l => l.all (fun i => Nat.ble (i + 1) nx) && nodB l | none => false
def fnD (P : Program) (f : FuncId) (vs : List SV) (nx : Nat) (w : World) (Q : Ending → World → Prop) : Prop := match P.funcs[f]? with
  | some fn => (match fn.body with
    | some c => (match cF P fn c with
      | some F => if (Nat.ble vs.length fn.ntmps && okVs vs nx) = true then F.den P Q ⟨vs.zipIdx.map (fun z => (z.2, z.1)), [], nx⟩ w else False
      | none => False)
    | none => False)
  | none => False
end Go.Vc.Ex

namespace Go.Vc.Ex
open Go Go.Vc
def Lf.ok (f : Nat → Option Addr) (g : Nat → Nat) (n : Nat) : Lf → Prop
  | .p id e => id < n ∧ e = f id
  | .a (some z) e => z.1 < n ∧ e = ⟨g z.1, z.2, none⟩
  | _ => True
def SV.ok (f : Nat → Option Addr) (g : Nat → Nat) (n : Nat) : SV → Prop
  | .l y => y.ok f g n | .g ys => ∀ x ∈ ys, Lf.ok f g n x | .t cs => ∀ c ∈ cs, ∀ x ∈ c.2, Lf.ok f g n x | .no => True
structure Inv (f : Nat → Option Addr) (g : Nat → Nat) (s : St) (w : World) : Prop where
  E : ∀ z ∈ s.E, z.2.ok f g s.nx
  kn : ∀ z ∈ s.kn, z.2.ok f g s.nx ∧ z.1.1 < s.nx ∧ w.cell? ⟨g z.1.1, z.1.2, none⟩ = some z.2.d
section
variable {f : Nat → Option Addr} {g : Nat → Nat} {n : Nat}
theorem optMap_some {α β : Type} {h : α → Option β} : ∀ {l : List α} {r : List β}, optMap h l = some r → l.length = r.length ∧ l.map h = r.map some
  | [], r, e => by simp [optMap] at e; subst e; simp
  | x :: l, r, e => by
    simp only [optMap] at e
    cases hx : h x with
    | none => simp [hx] at e
    | some y =>
      cases hl : optMap h l with
      | none => simp [hx, hl] at e
      | some ys =>
        simp [hx, hl] at e
        subst e
        obtain ⟨h1, h2⟩ := optMap_some hl
        exact ⟨by simp [h1], by simp [h2, hx]⟩
theorem optMap_mem {α β : Type} {h : α → Option β} {l : List α} {r : List β} (e : optMap h l = some r) {y : β} (hy : y ∈ r) : ∃ x ∈ l, h x = some y := by
  have h2 := (optMap_some e).2
  have : some y ∈ l.map h := by rw [h2]; exact List.mem_map_of_mem hy
  obtain ⟨x, hx, hh⟩ := List.mem_map.1 this
  exact ⟨x, hx, hh⟩
theorem litL_d {v : Value} {x : Lf} (h : litL v = some x) : x.d = v ∧ x.ok f g n := by
  unfold litL at h
  split at h <;> simp at h <;> subst h <;> exact ⟨rfl, trivial⟩
theorem litV_d {v : Value} {x : SV} (h : litV v = some x) : x.d = v ∧ x.ok f g n := by
  unfold litV at h
  split at h
  · rename_i cs
    cases hm : optMap litL cs.toList with
    | none => simp [hm] at h
    | some l =>
      simp [hm] at h
      subst h
      refine ⟨?_, fun y hy => ?_⟩
      · have h2 := (optMap_some hm).2
        have : l.map Lf.d = cs.toList := by
          have h3 : ∀ (a : List Value) (b : List Lf), a.map litL = b.map some → b.map Lf.d = a := by
            intro a
            induction a with
            | nil => intro b hb; cases b <;> simp_all
            | cons u a ih =>
              intro b hb
              cases b with
              | nil => simp at hb
              | cons z b =>
                simp only [List.map_cons, List.cons.injEq] at hb ⊢
                exact ⟨(litL_d (f := f) (g := g) (n := n) hb.1).1, ih b hb.2⟩
          exact h3 _ _ h2
        show Value.agg (l.map Lf.d).toArray = _
        rw [this]
      · obtain ⟨u, _, hu⟩ := optMap_mem hm hy
        exact (litL_d hu).2
  · cases hl : litL v with
    | none => simp [hl] at h
    | some y =>
      simp [hl] at h
      subst h
      exact ⟨(litL_d (f := f) (g := g) (n := n) hl).1, (litL_d hl).2⟩
theorem lk_mem {E : List (Nat × SV)} {t : Nat} {v : SV} (h : lk E t = some v) : (t, v) ∈ E := by
  induction E with
  | nil => simp [lk] at h
  | cons z r ih =>
    obtain ⟨k, u⟩ := z
    simp only [lk] at h
    cases hb : Nat.beq k t with
    | true => rw [hb] at h; simp at h; subst h; rw [Nat.eq_of_beq_eq_true hb]; simp
    | false => rw [hb] at h; exact List.mem_cons_of_mem _ (ih h)
theorem lk_dE {E : List (Nat × SV)} {t : Nat} : Env.get (dE E) t = (lk E t).map SV.d := by
  induction E with
  | nil => rfl
  | cons z r ih =>
    obtain ⟨k, u⟩ := z
    simp only [dE, List.map_cons, Env.get, lk]
    cases hb : Nat.beq k t with
    | true => rfl
    | false => exact ih
theorem ev_d {E : List (Nat × SV)} {x : Operand} {v : SV} (h : ev E x = some v) : Vc.ev (dE E) x = some v.d := by
  cases x with
  | tmp t => simp only [ev] at h; simp only [Vc.ev, lk_dE, h, Option.map_some]
  | const c => simp only [Vc.ev]; rw [(litV_d (f := fun _ => none) (g := id) (n := 0) h).1]
  | global q => simp only [ev, Option.some.injEq] at h; subst h; rfl
  | func q => simp only [ev, Option.some.injEq] at h; subst h; rfl
theorem ev_okV {E : List (Nat × SV)} (hE : ∀ z ∈ E, z.2.ok f g n) {x : Operand} {v : SV} (h : ev E x = some v) : v.ok f g n := by
  cases x with
  | tmp t => exact hE _ (lk_mem h)
  | const c => exact (litV_d h).2
  | global q => simp only [ev, Option.some.injEq] at h; subst h; exact True.intro
  | func q => simp only [ev, Option.some.injEq] at h; subst h; exact True.intro
theorem add_at (b o n : Nat) : (⟨b, o, none⟩ : Addr).add n = ⟨b, o + n, none⟩ := by
  unfold Addr.add
  split
  · rename_i h; simp
  · rfl
theorem ok_add {key : Option (Nat × Nat)} {e : Addr} (h : (Lf.a key e).ok f g n) (m : Nat) : (Lf.a (keyAdd key m) (e.add m)).ok f g n := by
  cases key with
  | none => trivial
  | some z =>
    obtain ⟨b, o⟩ := z
    obtain ⟨h1, h2⟩ := h
    refine ⟨h1, ?_⟩
    rw [h2, add_at]
theorem knF_mem {l : List ((Nat × Nat) × Lf)} {b o : Nat} {v : Lf} (h : knF l b o = some v) : ((b, o), v) ∈ l := by
  induction l with
  | nil => simp [knF] at h
  | cons z r ih =>
    obtain ⟨⟨c, q⟩, u⟩ := z
    simp only [knF] at h
    cases hb : (Nat.beq c b && Nat.beq q o) with
    | true =>
      rw [hb] at h; simp at h; subst h
      simp only [Bool.and_eq_true] at hb
      rw [Nat.eq_of_beq_eq_true hb.1, Nat.eq_of_beq_eq_true hb.2]; simp
    | false => rw [hb] at h; exact List.mem_cons_of_mem _ (ih h)
theorem knAt_ok {s : St} {w : World} (I : Inv f g s w) {key : Option (Nat × Nat)} {e : Addr} (he : (Lf.a key e).ok f g s.nx) {i : Nat} {v : Lf} (h : knAt s key i = some v) : w.cell? (e.add i) = some v.d ∧ v.ok f g s.nx := by
  cases key with
  | none => simp [knAt] at h
  | some z =>
    obtain ⟨b, o⟩ := z
    have h1 := I.kn _ (knF_mem h)
    obtain ⟨_, h2⟩ := he
    rw [h2, add_at]
    exact ⟨h1.2.2, h1.1⟩
theorem cell_add0 {e : Addr} : e.add 0 = e := by simp [Addr.add]
theorem slcE_d {x : Lf} {e : Slc} (h : slcE x = some e) : x.d = Slc.v e := by
  unfold slcE at h; split at h <;> simp at h <;> subst h <;> rfl
theorem ptrE_d {x : Lf} {e : Option Addr} (h : ptrE x = some e) : x.d = .pointer e := by
  unfold ptrE at h; split at h <;> simp at h <;> subst h <;> rfl
theorem ifs {α : Type} {c : Prop} [Decidable c] {x v : α} (h : (if c then some x else none) = some v) : c ∧ x = v := by
  split at h
  · rename_i hc; simp only [Option.some.injEq] at h; exact ⟨hc, h⟩
  · cases h
def bkP (P : Program) (t : TypeId) (k : BK) : Prop := match k with | .p => ptrB P t = true | .c => isSlcB P t = true | .m => isMapB P t = true | .b => boolB P t = true | _ => True
theorem binI_d {P : Program} {o : BinOp} {t : TypeId} {x y : Operand} {k1 k2 : IntKind} {a b : Int} {l : Bool} {v : Lf} (h : binI o k1 a k2 l b = some v) : RB P o t x y (.int k1 a) (.int k2 b) v.d ∧ v.ok f g n := by
  cases o with
  | add => obtain ⟨rfl, rfl⟩ := ifs h; exact ⟨r_add, trivial⟩
  | sub => obtain ⟨rfl, rfl⟩ := ifs h; exact ⟨r_sub, trivial⟩
  | mul => obtain ⟨rfl, rfl⟩ := ifs h; exact ⟨r_mul, trivial⟩
  | quo => obtain ⟨hc, rfl⟩ := ifs h; simp only [Bool.and_eq_true, decide_eq_true_eq] at hc; obtain ⟨⟨_, h1⟩, rfl⟩ := hc; exact ⟨r_quo (by omega), trivial⟩
  | rem => obtain ⟨hc, rfl⟩ := ifs h; simp only [Bool.and_eq_true, decide_eq_true_eq] at hc; obtain ⟨⟨_, h1⟩, rfl⟩ := hc; exact ⟨r_rem (by omega), trivial⟩
  | and => obtain ⟨rfl, rfl⟩ := ifs h; exact ⟨r_and, trivial⟩
  | or => obtain ⟨rfl, rfl⟩ := ifs h; exact ⟨r_or, trivial⟩
  | xor => obtain ⟨rfl, rfl⟩ := ifs h; exact ⟨r_xor, trivial⟩
  | shl => obtain ⟨hc, rfl⟩ := ifs h; simp only [Bool.and_eq_true, decide_eq_true_eq] at hc; exact ⟨r_shl hc.2, trivial⟩
  | shr => obtain ⟨hc, rfl⟩ := ifs h; simp only [Bool.and_eq_true, decide_eq_true_eq] at hc; exact ⟨r_shr hc.2, trivial⟩
  | andNot => obtain ⟨rfl, rfl⟩ := ifs h; exact ⟨r_andNot, trivial⟩
  | eql => obtain ⟨rfl, rfl⟩ := ifs h; exact ⟨r_eql, trivial⟩
  | neq => obtain ⟨rfl, rfl⟩ := ifs h; exact ⟨r_neq, trivial⟩
  | lss => obtain ⟨rfl, rfl⟩ := ifs h; exact ⟨r_lss, trivial⟩
  | leq => obtain ⟨rfl, rfl⟩ := ifs h; exact ⟨r_leq, trivial⟩
  | gtr => obtain ⟨rfl, rfl⟩ := ifs h; exact ⟨r_gtr, trivial⟩
  | geq => obtain ⟨rfl, rfl⟩ := ifs h; exact ⟨r_geq, trivial⟩
theorem binL_d {P : Program} {k : BK} {o : BinOp} {t : TypeId} {x y : Operand} {a b v : Lf} (h : binL k o a b = some v)
    (hk : bkP P t k) : RB P o t x y a.d b.d v.d ∧ v.ok f g n := by
  unfold binL at h
  cases k <;> cases b <;> simp only [reduceCtorEq] at h
  · cases a <;> simp only [reduceCtorEq] at h
    exact binI_d h
  · cases a <;> simp only [reduceCtorEq] at h
    cases o <;> simp only [binS, reduceCtorEq, Option.some.injEq] at h <;> subst h <;> first | exact ⟨r_eqlS, trivial⟩ | exact ⟨r_neqS, trivial⟩ | exact ⟨r_lssS, trivial⟩
  · cases hp : ptrE a with
    | none => simp [hp] at h
    | some e =>
      simp only [hp, Option.bind_some] at h
      rw [ptrE_d hp]
      cases o <;> simp only [binO, reduceCtorEq, Option.some.injEq] at h <;> subst h <;> first | exact ⟨r_eqP0 hk, trivial⟩ | exact ⟨r_neP0 hk, trivial⟩
  · cases a <;> simp only [reduceCtorEq] at h
    cases o <;> simp only [binO, reduceCtorEq, Option.some.injEq] at h <;> subst h <;> first | exact ⟨r_eqM0 hk, trivial⟩ | exact ⟨r_neM0 hk, trivial⟩
  · cases hp : slcE a with
    | none => simp [hp] at h
    | some e =>
      simp only [hp, Option.bind_some] at h
      rw [slcE_d hp]
      cases o <;> simp only [binO, reduceCtorEq, Option.some.injEq] at h <;> subst h <;> first | exact ⟨r_eqS0 hk, trivial⟩ | exact ⟨r_neS0 hk, trivial⟩
  · cases a <;> simp only [reduceCtorEq] at h
    cases o <;> simp only [binB, reduceCtorEq, Option.some.injEq] at h <;> subst h <;> first | exact ⟨r_eqB hk, trivial⟩ | exact ⟨r_neB hk, trivial⟩
theorem binP_d {P : Program} {k : BK} {o : BinOp} {t : TypeId} {x y : Operand} {a b v : SV} (h : binP k o a b = some v)
    (hk : bkP P t k) : RB P o t x y a.d b.d v.d ∧ v.ok f g n := by
  unfold binP at h
  cases a <;> cases b <;> simp only [reduceCtorEq] at h
  rename_i a b
  cases hl : binL k o a b with
  | none => simp [hl] at h
  | some z =>
    simp [hl] at h
    subst h
    exact binL_d hl hk
end
end Go.Vc.Ex

namespace Go.Vc.Ex
open Go Go.Vc
def Run (P : Program) (a : Act) (o : Oper) (w : World) (v : Value) : Prop := ∀ k : Nat, (execOp a.eval o).run P (w.drewN k) = .ok (.value v) (w.drewN k)
inductive All2 {α β : Type} (R : α → β → Prop) : List α → List β → Prop
  | nil : All2 R [] []
  | cons {a : α} {b : β} {l : List α} {r : List β} (h : R a b) (t : All2 R l r) : All2 R (a :: l) (b :: r)
section
variable {P : Program} {f : Nat → Option Addr} {g : Nat → Nat} {n m : Nat} {ds : List Deferred} {a : Act} {s : St} {w : World} {its : List (Nat × TypeId)} {d dst : Option Tmp} {ty : TypeId} {pos : String} {af : Array Edge} {gd : Option (Nat × Bool)} {v : SV} {i : I}
theorem mapd {xs : List Operand} {vs : List SV} {E : List (Nat × SV)} (h : optMap (ev E) xs = some vs) : xs.map (Vc.ev (dE E)) = (vs.map SV.d).map some := by
  have h2 := (optMap_some h).2
  clear h
  induction xs generalizing vs with
  | nil => cases vs <;> simp_all
  | cons x xs ih =>
    cases vs with
    | nil => simp at h2
    | cons y ys =>
      simp only [List.map_cons, List.cons.injEq] at h2 ⊢
      exact ⟨ev_d h2.1, ih h2.2⟩
theorem cmpS_d {z : Bool × List Lf} {y : SV} (h : cmpS z = some y) : cmpD z = y.d ∧ ((∀ x ∈ z.2, Lf.ok f g n x) → y.ok f g n) := by
  unfold cmpS at h
  split at h
  · simp only [Option.some.injEq] at h; subst h; exact ⟨rfl, fun h => h⟩
  · simp only [Option.some.injEq] at h; subst h; exact ⟨rfl, fun h => h _ (by simp)⟩
  · cases h
theorem knN_ok (I : Inv f g s w) {key : Option (Nat × Nat)} {e : Addr} (he : (Lf.a key e).ok f g s.nx) : ∀ {ls : List LT} {i : Nat} {vs : List Lf}, knN s key i ls = some vs → vs.length = ls.length ∧ Cells w e i (vs.map Lf.d) ∧ ∀ x ∈ vs, Lf.ok f g s.nx x
  | [], i, vs, h => by simp only [knN, Option.some.injEq] at h; subst h; exact ⟨rfl, trivial, by simp⟩
  | l :: r, i, vs, h => by
    simp only [knN] at h
    cases h1 : knAt s key i with
    | none => simp [h1] at h
    | some x =>
      cases h2 : knN s key (i + 1) r with
      | none => simp [h1, h2] at h
      | some xs =>
        simp only [h1, h2, Option.some.injEq] at h
        subst h
        obtain ⟨h3, h4⟩ := knAt_ok I he h1
        obtain ⟨h5, h6, h7⟩ := knN_ok I he h2
        refine ⟨by simp [h5], ⟨h3, h6⟩, fun z hz => ?_⟩
        rcases List.mem_cons.1 hz with rfl | hz
        · exact h4
        · exact h7 z hz
theorem lvs_d {x : SV} {l : List Lf} (h : lvs x = some l) : x.d.cells = (l.map Lf.d).toArray ∧ (x.ok f g n → ∀ y ∈ l, Lf.ok f g n y) := by
  unfold lvs at h
  split at h
  · cases h
  · rename_i y hy
    simp only [Option.some.injEq] at h
    subst h
    refine ⟨?_, fun h y hy => by simp at hy; subst hy; exact h⟩
    cases y <;> first | rfl | exact absurd rfl (hy _)
  · simp only [Option.some.injEq] at h
    subst h
    exact ⟨rfl, fun h => h⟩
  · cases h
theorem foldl_set (off : Nat) : ∀ (xs : List Value) (k : Nat) (cs : Array Value), off + k + xs.length ≤ cs.size →
    (xs.zipIdx k).foldl (fun cs (z : Value × Nat) => cs.setIfInBounds (off + z.2) z.1) cs = (cs.toList.take (off + k) ++ xs ++ cs.toList.drop (off + k + xs.length)).toArray
  | [], k, cs, _ => by simp
  | x :: xs, k, cs, h => by
    simp only [List.zipIdx_cons, List.foldl_cons, List.length_cons] at h ⊢
    rw [foldl_set off xs (k + 1) _ (by simp; omega)]
    congr 1
    have hk : off + k < cs.toList.length := by simp; omega
    simp only [Array.toList_setIfInBounds]
    rw [List.take_set, List.drop_set]
    rw [if_pos (by omega)]
    rw [show off + (k + 1) = off + k + 1 by omega]
    rw [List.take_succ_eq_append_getElem hk, List.set_append_right _ _ (by simp; omega)]
    have e1 : off + k - (List.take (off + k) cs.toList).length = 0 := by simp; omega
    rw [e1, show off + k + 1 + xs.length = off + k + (xs.length + 1) by omega]
    simp
theorem fill_ok {pl : Nat → Option (Nat × Nat)} {E : List (Nat × SV)} : ∀ {ps : List (Nat × Nat × Operand)} {qs : List (Nat × Operand)} {z r : List Lf} (_he : fillS E z ps = some r)
    (_hp : All2 (fun p q => pl q.1 = some (p.1, p.2.1) ∧ q.2 = p.2.2) ps qs) {vs : List (Nat × Value)} (_hv : All2 (fun q v => v.1 = q.1 ∧ Vc.ev (dE E) q.2 = some v.2) qs vs),
    Instr.fill pl (z.map Lf.d).toArray vs = some (r.map Lf.d).toArray
  | [], _, z, r, he, hp, vs, hv => by
    cases hp; cases hv
    simp only [fillS, Option.some.injEq] at he
    subst he
    rfl
  | (off, size, x) :: ps, _, z, r, he, hp, vs, hv => by
    cases hp with
    | cons hp1 hp2 =>
      cases hv with
      | cons hv1 hv2 =>
        rename_i q qs v vs
        obtain ⟨hq1, hq2⟩ := hp1
        obtain ⟨hw1, hw2⟩ := hv1
        simp only [fillS] at he
        cases hx : ev E x with
        | none => simp [hx] at he
        | some y =>
          cases hl : lvs y with
          | none => simp [hx, hl] at he
          | some xs =>
            simp only [hx, Option.bind_some, hl] at he
            cases hz : place z off size xs with
            | none => simp [hz] at he
            | some z' =>
              simp only [hz] at he
              unfold place at hz
              obtain ⟨⟨h1, h2⟩, h3⟩ := ifs hz
              obtain ⟨vi, vv⟩ := v
              simp only at hw1 hw2 hq1 hq2
              subst hw1
              have h4 : vv = y.d := by
                rw [hq2, ev_d hx] at hw2
                simpa using hw2.symm
              have h5 := (lvs_d (f := fun _ => none) (g := id) (n := 0) hl).1
              unfold Instr.fill
              rw [hq1]
              simp only [h4, h5]
              have h6 : (List.map Lf.d xs).toArray.size = size := by simp [h1]
              rw [if_neg (by rw [h6]; simp; exact h2)]
              have h7 := foldl_set off (xs.map Lf.d) 0 (z.map Lf.d).toArray (by simp; omega)
              rw [show ((List.map Lf.d xs).toArray.zipIdx.foldl (fun cs x => match x with | (c, j) => cs.setIfInBounds (off + j) c) (List.map Lf.d z).toArray) = ((xs.map Lf.d).zipIdx 0).foldl (fun cs (z : Value × Nat) => cs.setIfInBounds (off + z.2) z.1) (z.map Lf.d).toArray by
                rw [← Array.foldl_toList]; simp, h7]
              have h8 := fill_ok he hp2 hv2
              rw [← h3] at h8
              rw [← h8]
              simp [List.map_take, List.map_drop, h1]
theorem fillS_ok {E : List (Nat × SV)} (hE : ∀ z ∈ E, z.2.ok f g n) : ∀ {ps : List (Nat × Nat × Operand)} {z r : List Lf}, fillS E z ps = some r → (∀ x ∈ z, Lf.ok f g n x) → ∀ x ∈ r, Lf.ok f g n x
  | [], z, r, h, hz => by simp only [fillS, Option.some.injEq] at h; subst h; exact hz
  | (off, size, x) :: ps, z, r, h, hz => by
    simp only [fillS] at h
    cases hx : ev E x with
    | none => simp [hx] at h
    | some y =>
      cases hl : lvs y with
      | none => simp [hx, hl] at h
      | some xs =>
        simp only [hx, Option.bind_some, hl] at h
        cases hp : place z off size xs with
        | none => simp [hp] at h
        | some z' =>
          simp only [hp] at h
          refine fillS_ok hE h fun u hu => ?_
          unfold place at hp
          obtain ⟨_, h3⟩ := ifs hp
          subst h3
          rcases List.mem_append.1 hu with hu | hu
          · rcases List.mem_append.1 hu with hu | hu
            · exact hz _ (List.mem_of_mem_take hu)
            · exact (lvs_d hl).2 (ev_okV hE hx) _ hu
          · exact hz _ (List.mem_of_mem_drop hu)
theorem run_size {t : TypeId} (h : (P.info? t).isSome = true) : (sizeOf t).run P w = .ok (szB P t) w := by
  unfold szB
  cases hi : P.info? t with
  | none => simp [hi] at h
  | some i => simp [sizeOf, typeInfo, program, Sem.run, hi]
theorem run_places : ∀ (fs : List Field), (fs.all fun f => (P.info? f.type).isSome) = true →
    (fs.mapM fun f => (do pure (f.offset, ← sizeOf f.type) : Sem (Nat × Nat))).run P w = .ok (fs.map fun f => (f.offset, szB P f.type)) w
  | [], _ => by simp
  | f :: fs, h => by
    simp only [List.all_cons, Bool.and_eq_true] at h
    have h1 := run_places fs h.2
    simp only [List.mapM_cons, Sem.run_bind, run_size h.1, Result.andThen_ok, Sem.run_pure, h1, List.map_cons]
theorem und_run {t : TypeId} {u : TypeDesc} (h : P.underlying t = some u) : (underlying t).run P w = .ok u w := run_underlying h w
theorem parts_all {a : Act} {L : List (Nat × SV)} {m : Nat} {ds : List Deferred} (H : Has m ds a (dE L)) {r : List Lf} : ∀ {ps : List (Nat × Nat × Operand)} {qs : List (Nat × Operand)} {pl : Nat → Option (Nat × Nat)} {z : List Lf}, All2 (fun p q => pl q.1 = some (p.1, p.2.1) ∧ q.2 = p.2.2) ps qs → fillS L z ps = some r →
    All2 (fun q (v : Nat × Value) => v.1 = q.1 ∧ Vc.ev (dE L) q.2 = some v.2) qs (qs.map fun q => (q.1, a.eval q.2))
  | [], _, _, _, h, _ => by cases h; exact .nil
  | (off, size, x) :: ps, _, pl, z, h, he => by
    cases h with
    | cons h1 h2 =>
      rename_i q qs
      simp only [fillS] at he
      cases hx : ev L x with
      | none => simp [hx] at he
      | some y =>
        cases hl : lvs y with
        | none => simp [hx, hl] at he
        | some xs =>
          simp only [hx, Option.bind_some, hl] at he
          cases hp : place z off size xs with
          | none => simp [hp] at he
          | some z' =>
            simp only [hp] at he
            refine .cons ⟨rfl, ?_⟩ (parts_all H h2 he)
            have h3 := ev_d hx
            have e : q.2 = x := h1.2
            show Vc.ev (dE L) q.2 = some (a.eval q.2)
            rw [e, H.eval h3]
            exact h3
theorem all2_of {fs : Array Field} : ∀ {qs : List (Nat × Operand)} {ps : List (Nat × Nat × Operand)}, optMap (fun z : Nat × Operand => (fs[z.1]?).map fun f => (f.offset, szB P f.type, z.2)) qs = some ps →
    All2 (fun p q => ((fs.toList.map fun f => (f.offset, szB P f.type)).toArray[q.1]?) = some (p.1, p.2.1) ∧ q.2 = p.2.2) ps qs
  | [], ps, h => by simp only [optMap, Option.some.injEq] at h; subst h; exact .nil
  | q :: qs, ps, h => by
    simp only [optMap] at h
    cases h1 : fs[q.1]? with
    | none => simp [h1] at h
    | some fl =>
      cases h2 : optMap (fun z : Nat × Operand => (fs[z.1]?).map fun f => (f.offset, szB P f.type, z.2)) qs with
      | none => simp [h1, h2] at h
      | some r =>
        simp only [h1, h2, Option.map_some, Option.some.injEq] at h
        subst h
        exact .cons ⟨by simp [h1], rfl⟩ (all2_of h2)
theorem all2_map {e : Nat} : ∀ (qs : List (Nat × Operand)), All2 (fun (p : Nat × Nat × Operand) (q : Nat × Operand) => (fun i : Nat => some (i * e, e)) q.1 = some (p.1, p.2.1) ∧ q.2 = p.2.2) (qs.map fun z => (z.1 * e, e, z.2)) qs
  | [] => .nil
  | _ :: qs => .cons ⟨rfl, rfl⟩ (all2_map qs)
theorem run_build {t : TypeId} {ps : Array (Nat × Operand)} {z : SV} {zl r : List Lf} {l : List (Nat × Nat × Operand)} (H : Has m ds a (dE s.E)) (hz : zeroS P t = some z) (hp : partsOf P t ps.toList = some l) (hb : infB P t = true) (hl : lvs z = some zl) (h : fillS s.E zl l = some r) (w : World) :
    (Instr.build t (ps.map fun (i, x) => (i, a.eval x))).run P w = .ok (.agg (r.map Lf.d).toArray) w := by
  unfold zeroS at hz
  cases hi : (P.info? t).bind (·.zero) with
  | none => simp [hi] at hz
  | some zv =>
    simp only [hi, Option.bind_some] at hz
    have hzd := (litV_d (f := fun _ => none) (g := id) (n := 0) hz).1
    have hzr : (zeroValue t).run P w = .ok z.d w := by rw [hzd]; exact run_zero hi
    have hc := (lvs_d (f := fun _ => none) (g := id) (n := 0) hl).1
    unfold Instr.build
    unfold infB at hb
    unfold partsOf at hp
    have hps : (Array.map (fun x => match x with | (i, x) => (i, a.eval x)) ps).toList = ps.toList.map fun q => (q.1, a.eval q.2) := by simp
    cases hu : P.underlying t with
    | none => simp [hu] at hb
    | some u =>
      cases u <;> simp only [hu] at hb hp <;> first | (exact absurd hb Bool.false_ne_true) | skip
      · simp only [Option.some.injEq] at hp
        subst hp
        rename_i len e
        have h2 := all2_map (e := szB P e) ps.toList
        have h1 := fill_ok (pl := fun i => some (i * szB P e, szB P e)) h h2 (parts_all (r := r) (pl := fun i => some (i * szB P e, szB P e)) H h2 h)
        simp only [Sem.run_bind, hzr, Result.andThen_ok, und_run hu, run_size hb, hps, hc, h1, Sem.run_pure]
      · rename_i fs
        have h2 := all2_of hp
        have h1 := fill_ok h h2 (parts_all (r := r) H h2 h)
        have h3 := run_places (P := P) (w := w) fs.toList hb
        simp only [Sem.run_bind, hzr, Result.andThen_ok, und_run hu, Array.mapM_eq_mapM_toList, Sem.run_map, h3, hps, hc]
        have h4 : Instr.fill (fun x : Nat => (List.map (fun f : Field => (f.offset, szB P f.type)) fs.toList).toArray[x]?) (List.map Lf.d zl).toArray (ps.toList.map fun q => (q.1, a.eval q.2)) = some (List.map Lf.d r).toArray := h1
        rw [h4]
        rfl
/-! ## == of structs -/
def valT (P : Program) (t : TypeId) (x : List Lf) : Value := if isAggB P t then .agg (x.map Lf.d).toArray else match x with | [x] => x.d | _ => undef
theorem one_sz {t : TypeId} (h : oneB P t = true) : szB P t = 1 ∧ isAggB P t = false := by
  unfold oneB at h
  unfold szB isAggB
  simp only [Bool.and_eq_true] at h
  obtain ⟨h1, h2⟩ := h
  cases hi : P.info? t with
  | none => simp [hi] at h2
  | some i =>
    simp only [hi] at h2
    refine ⟨Nat.eq_of_beq_eq_true h2, ?_⟩
    cases hu : P.underlying t with
    | none => simp
    | some u => cases u <;> simp_all
def EqOk (P : Program) (n : Nat) (t : TypeId) (h : Sh) : Prop := ∀ xs ys e r q, eqS h xs ys = some (e, r, q) → ∃ x1 y1, xs = x1 ++ r ∧ ys = y1 ++ q ∧ x1.length = szB P t ∧ y1.length = szB P t ∧ QE P n t (valT P t x1) (valT P t y1) e
theorem part_val {t : TypeId} (ht : oneB P t = true ∨ (isAggB P t = true ∧ aggB P t (szB P t) = true)) {pre x1 post : List Lf} (hl : x1.length = szB P t) (w : World) :
    (part t ((pre ++ x1 ++ post).map Lf.d).toArray pre.length).run P w = .ok (valT P t x1) w := by
  rcases ht with h | ⟨h1, h2⟩
  · obtain ⟨h3, h4⟩ := one_sz h
    rw [h3] at hl
    match x1, hl with
    | [x], _ => exact p_one h (by simp [valT, h4]) w
  · have e : ((pre ++ x1 ++ post).map Lf.d).toArray.extract pre.length (pre.length + szB P t) = (x1.map Lf.d).toArray := by
      rw [← hl]; simp
    rw [p_agg h2 e w]; simp [valT, h1]
theorem shF_ok {sub : TypeId → Option Sh} (hs : ∀ t h, sub t = some h → EqOk P n t h) : ∀ {fs : List Field} {off m : Nat} {l : List Sh}, shF P sub off fs = some (l, m) → ∀ {h : Sh}, shL l = some h → ∀ xs ys e r q, eqS h xs ys = some (e, r, q) →
    ∃ x1 y1, xs = x1 ++ r ∧ ys = y1 ++ q ∧ off + x1.length = m ∧ off + y1.length = m ∧ ∀ (p1 p2 q1 q2 : List Lf), p1.length = off → p2.length = off → QF P n fs ((p1 ++ x1 ++ q1).map Lf.d).toArray ((p2 ++ y1 ++ q2).map Lf.d).toArray e
  | [], off, m, l, h1, h, h2 => by simp only [shF, Option.some.injEq, Prod.mk.injEq] at h1; obtain ⟨rfl, _⟩ := h1; simp [shL] at h2
  | f :: fs, off, m, l, h1, h, h2 => by
    intro xs ys e r q he
    simp only [shF] at h1
    split at h1
    · rename_i hc
      simp only [Bool.and_eq_true, Bool.not_eq_true', Bool.or_eq_true] at hc
      obtain ⟨⟨hn, hoff⟩, hty⟩ := hc
      have hoff := Nat.eq_of_beq_eq_true hoff
      cases hsub : sub f.type with
      | none => simp [hsub] at h1
      | some h0 =>
        cases hF : shF P sub (off + szB P f.type) fs with
        | none => simp [hsub, hF] at h1
        | some z =>
          obtain ⟨hs', m'⟩ := z
          simp only [hsub, hF, Option.some.injEq, Prod.mk.injEq] at h1
          obtain ⟨rfl, rfl⟩ := h1
          cases hs' with
          | nil =>
            simp only [shL, Option.some.injEq] at h2
            subst h2
            obtain ⟨x1, y1, rfl, rfl, hx, hy, hq⟩ := hs _ _ hsub _ _ _ _ _ he
            cases fs with
            | nil =>
              simp only [shF, Option.some.injEq, Prod.mk.injEq] at hF
              refine ⟨x1, y1, rfl, rfl, by omega, by omega, fun p1 p2 q1 q2 hp1 hp2 => ?_⟩
              refine qf_last hn (fun w => ?_) (fun w => ?_) hq
              · rw [hoff, ← hp1]; exact part_val hty hx w
              · rw [hoff, ← hp2]; exact part_val hty hy w
            | cons f2 fs2 =>
              simp only [shF] at hF
              split at hF
              · split at hF <;> simp at hF
              · cases hF
          | cons h3 hs2 =>
            simp only [shL] at h2
            cases hr : shL (h3 :: hs2) with
            | none => simp [hr] at h2
            | some h4 =>
              simp only [hr, Option.map_some, Option.some.injEq] at h2
              subst h2
              simp only [eqS] at he
              cases e1 : eqS h0 xs ys with
              | none => simp [e1] at he
              | some z1 =>
                obtain ⟨b1, r1, q1⟩ := z1
                simp only [e1] at he
                cases e2 : eqS h4 r1 q1 with
                | none => simp [e2] at he
                | some z2 =>
                  obtain ⟨b2, r2, q2⟩ := z2
                  simp only [e2, Option.some.injEq, Prod.mk.injEq] at he
                  obtain ⟨rfl, rfl, rfl⟩ := he
                  obtain ⟨x1, y1, rfl, rfl, hx, hy, hq⟩ := hs _ _ hsub _ _ _ _ _ e1
                  obtain ⟨x2, y2, rfl, rfl, hx2, hy2, hq2⟩ := shF_ok hs hF hr _ _ _ _ _ e2
                  refine ⟨x1 ++ x2, y1 ++ y2, by simp, by simp, by simp; omega, by simp; omega, fun p1 p2 q1 q2 hp1 hp2 => ?_⟩
                  have h5 := hq2 (p1 ++ x1) (p2 ++ y1) q1 q2 (by simp; omega) (by simp; omega)
                  refine qf_cons hn (fun w => ?_) (fun w => ?_) hq (by simpa using h5)
                  · have := part_val hty (pre := p1) (post := x2 ++ q1) hx w
                    rw [hoff, ← hp1]; simpa using this
                  · have := part_val hty (pre := p2) (post := y2 ++ q2) hy w
                    rw [hoff, ← hp2]; simpa using this
    · cases h1
theorem shOf_ok : ∀ (n : Nat) {t : TypeId} {h : Sh}, shOf P n t = some h → EqOk P n t h
  | 0, _, _, h => by simp [shOf] at h
  | n + 1, t, h, h1 => by
    intro xs ys e r q he
    simp only [shOf] at h1
    cases hu : P.underlying t with
    | none => simp [hu] at h1
    | some u =>
      cases u <;> simp only [hu, reduceCtorEq] at h1
      · obtain ⟨hc, rfl⟩ := ifs h1
        simp only [Bool.and_eq_true] at hc
        obtain ⟨h3, h4⟩ := one_sz hc.2
        match xs, ys, he with
        | .b _ x :: xs, .b _ y :: ys, he =>
          simp only [eqS, Option.some.injEq, Prod.mk.injEq] at he
          obtain ⟨rfl, rfl, rfl⟩ := he
          exact ⟨[_], [_], rfl, rfl, by simp [h3], by simp [h3], by simp only [valT, h4]; exact q_bool hc.1⟩
      · obtain ⟨hc, rfl⟩ := ifs h1
        simp only [Bool.and_eq_true] at hc
        obtain ⟨h3, h4⟩ := one_sz hc.2
        match xs, ys, he with
        | .i k _ x :: xs, .i k' _ y :: ys, he =>
          rename_i k0
          simp only [eqS] at he
          obtain ⟨hk, he⟩ := ifs he
          obtain ⟨hk, hk0⟩ := hk
          subst hk hk0
          simp only at he
          obtain ⟨rfl, rfl, rfl⟩ := he
          exact ⟨[_], [_], rfl, rfl, by simp [h3], by simp [h3], by simp only [valT, h4]; exact q_int hc.1⟩
      · obtain ⟨hc, rfl⟩ := ifs h1
        simp only [Bool.and_eq_true] at hc
        obtain ⟨h3, h4⟩ := one_sz hc.2
        match xs, ys, he with
        | .s x :: xs, .s y :: ys, he =>
          simp only [eqS, Option.some.injEq, Prod.mk.injEq] at he
          obtain ⟨rfl, rfl, rfl⟩ := he
          exact ⟨[_], [_], rfl, rfl, by simp [h3], by simp [h3], by simp only [valT, h4]; exact q_str hc.1⟩
      · rename_i fs
        split at h1
        · cases h1
        · rename_i hst
          cases hF : shF P (shOf P n) 0 fs.toList with
          | none => simp [hF] at h1
          | some z =>
            obtain ⟨hs, m⟩ := z
            simp only [hF] at h1
            split at h1
            · rename_i hm
              have hm := Nat.eq_of_beq_eq_true hm
              obtain ⟨x1, y1, rfl, rfl, hx, hy, hq⟩ := shF_ok (fun t h hh => shOf_ok n hh) hF h1 _ _ _ _ _ he
              have hag : isAggB P t = true := by simp [isAggB, hu]
              refine ⟨x1, y1, rfl, rfl, by omega, by omega, ?_⟩
              simp only [valT, hag, if_true]
              refine q_struct hu (by simpa using hst) ?_
              simpa using hq [] [] [] [] rfl rfl
            · cases h1
end
end Go.Vc.Ex

namespace Go.Vc.Ex
open Go Go.Vc
section
variable {P : Program} {f : Nat → Option Addr} {g : Nat → Nat} {n m : Nat} {ds : List Deferred} {a : Act} {s : St} {w : World} {its : List (Nat × TypeId)} {d dst : Option Tmp} {ty : TypeId} {pos : String} {af : Array Edge} {gd : Option (Nat × Bool)} {v : SV} {i : I} {op : Op}
theorem none_bind {α β : Type} {o : Option α} {h : α → Option β} {y : β} (e : o.bind h = some y) : ∃ x, o = some x ∧ h x = some y := by
  cases o with
  | none => cases e
  | some x => exact ⟨x, rfl, e⟩
theorem map_some' {α β : Type} {o : Option α} {h : α → β} {y : β} (e : o.map h = some y) : ∃ x, o = some x ∧ h x = y := by
  cases o with
  | none => cases e
  | some x => exact ⟨x, rfl, by simpa using e⟩
theorem run_eq {bo : BinOp} {t u : TypeId} {x y : Operand} {vx vy r : Value} (hx : a.eval x = vx) (hy : a.eval y = vy) (hr : RB P bo t x y vx vy r) : Run P a ⟨dst, .binOp bo t x y u, ty, pos, af, gd⟩ w r := fun k => by
  have e := hr (w.drewN k); simp only [execOp, hx, hy]; rw [Sem.run_bind, e]; rfl
theorem pu_bin {k : BK} {o : BinOp} {t u : TypeId} {x y : Operand} (h : pu s (.bin k o x y) = some v) (hk : bkP P t k) (H : Has m ds a (dE s.E)) : v.ok f g s.nx ∧ Run P a ⟨dst, .binOp o t x y u, ty, pos, af, gd⟩ w v.d := by
  simp only [pu] at h
  cases h1 : ev s.E x with
  | none => simp [h1] at h
  | some vx =>
    cases h2 : ev s.E y with
    | none => simp [h1, h2] at h
    | some vy =>
      simp only [h1, h2] at h
      obtain ⟨h3, h4⟩ := binP_d (P := P) (t := t) (x := x) (y := y) (f := f) (g := g) (n := s.nx) h hk
      exact ⟨h4, run_eq (H.eval (ev_d h1)) (H.eval (ev_d h2)) h3⟩
theorem pu_eq {ne : Bool} {t u : TypeId} {x y : Operand} {sh : Sh} (h : pu s (.eq ne sh x y) = some v) (hs : shOf P 20 t = some sh) (hg : P.eqGuardType P.depth t = false) (hst : isAggB P t = true) (H : Has m ds a (dE s.E)) :
    v.ok f g s.nx ∧ Run P a ⟨dst, .binOp (if ne then .neq else .eql) t x y u, ty, pos, af, gd⟩ w v.d := by
  simp only [pu] at h
  split at h
  · rename_i xs ys h1 h2
    split at h
    · rename_i e h3
      simp only [Option.some.injEq] at h
      subst h
      obtain ⟨x1, y1, hx, hy, _, _, hq⟩ := shOf_ok 20 hs _ _ _ _ _ h3
      simp only [List.append_nil] at hx hy
      subst hx hy
      simp only [valT, hst, if_true] at hq
      refine ⟨trivial, run_eq (H.eval (ev_d h1)) (H.eval (ev_d h2)) ?_⟩
      cases ne
      · exact r_eqst hg hq rfl
      · exact r_nest hg hq rfl
    · cases h
  · cases h
theorem ev_lf {x : Operand} {y : Lf} (h : ev s.E x = some (.l y)) (H : Has m ds a (dE s.E)) : a.eval x = y.d := H.eval (ev_d h)
theorem pu_un {o : UnOp} {t : TypeId} {x : Operand} (h : pu s (.un o x) = some v) (H : Has m ds a (dE s.E)) : v.ok f g s.nx ∧ Run P a ⟨dst, .unOp o t x, ty, pos, af, gd⟩ w v.d := by
  simp only [pu] at h
  split at h
  all_goals first
    | cases h; done
    | (rename_i h1
       simp only [Option.some.injEq] at h; subst h
       refine ⟨trivial, fun k => ?_⟩
       have e := ev_lf h1 H
       simp only [execOp, e]
       first
        | (have r := r_not (P := P) (c := ‹Bool›) (w.drewN k); simp only [Lf.d, Sem.run_bind, r]; rfl)
        | (simp only [Lf.d, Sem.run_bind]; first | rw [r_neg] | rw [r_com]; rfl))
theorem Run.pur {o : Oper} {x : Value} (h : ∀ w : World, (execOp a.eval o).run P w = .ok (.value x) w) : Run P a o w x := fun k => h (w.drewN k)
theorem run_blt {b : Builtin} {xs : Array Operand} {ats : Array TypeId} {args : Array Value} {x : Value} (ha : xs.map a.eval = args) (hr : ∀ cs (w : World), (builtin b ats ty cs args).run P w = .ok (.value x) w) :
    Run P a ⟨dst, .call ⟨.builtin b, xs, ats⟩, ty, pos, af, gd⟩ w x := .pur fun w => by simp only [execOp, resolve, ha, Sem.run_bind, Sem.run_pure, Result.andThen_ok, invoke, hr]
theorem arr1 {α : Type} {l : Array α} {x : α} (h : l.toList = [x]) : l = #[x] := by cases l; simp at h; subst h; rfl
theorem arr2 {α : Type} {l : Array α} {x y : α} (h : l.toList = [x, y]) : l = #[x, y] := by cases l; simp at h; subst h; rfl
theorem ifs' {α : Type} {c : Prop} [Decidable c] {o : Option α} {v : α} (h : (if c then o else none) = some v) : c ∧ o = some v := by
  split at h
  · rename_i hc; exact ⟨hc, h⟩
  · cases h
theorem some_inj {α : Type} {x y : α} (h : some x = some y) : x = y := by injection h
theorem mem_take_drop {xs : List Lf} (h : ∀ x ∈ xs, Lf.ok f g n x) (o q : Nat) : ∀ x ∈ (xs.drop o).take q, Lf.ok f g n x := fun x hx => h x (List.mem_of_mem_drop (List.mem_of_mem_take hx))
theorem pu_ok (hc : cO P its d ty op = some i) (h : pu s i = some v) (I : Inv f g s w) (H : Has m ds a (dE s.E)) : v.ok f g s.nx ∧ Run P a ⟨dst, op, ty, pos, af, gd⟩ w v.d := by
  have hE : ∀ {x : Operand} {y : SV}, ev s.E x = some y → a.eval x = y.d := fun h => H.eval (ev_d h)
  have hO : ∀ {x : Operand} {y : SV}, ev s.E x = some y → y.ok f g s.nx := fun h => ev_okV I.E h
  cases op with
  | move x =>
    cases some_inj hc
    exact ⟨hO h, .pur fun w => by rw [← hE h]; rfl⟩
  | assign x =>
    cases some_inj hc
    exact ⟨hO h, .pur fun w => by rw [← hE h]; rfl⟩
  | nilCheck x =>
    cases some_inj hc
    simp only [pu] at h
    split at h
    · rename_i k e h1
      cases some_inj h
      exact ⟨hO h1, .pur fun w => by simp [execOp, hE h1, SV.d, Lf.d]⟩
    · cases h
  | fieldAddr t x j =>
    simp only [cO] at hc
    split at hc
    · obtain ⟨h1, rfl⟩ := ifs hc
      simp only [pu] at h
      split at h
      · rename_i k e h2
        cases some_inj h
        exact ⟨ok_add (hO h2) _, .pur fun w => by simp [execOp, hE h2, SV.d, Lf.d, run_field h1]⟩
      · cases h
    · cases hc
  | binOp o t x y u =>
    simp only [cO] at hc
    split at hc
    all_goals first
      | (cases some_inj hc; exact pu_bin h trivial H)
      | (obtain ⟨h1, rfl⟩ := ifs hc; first | exact pu_bin h h1 H | exact pu_bin h trivial H)
      | (split at hc
         · obtain ⟨h1, rfl⟩ := ifs hc; exact pu_bin h trivial H
         · cases hc)
      | (rename_i hu
         split at hc
         · cases hc
         · rename_i hg
           have hag : isAggB P t = true := by simp [isAggB, hu]
           split at hc
           · obtain ⟨sh, hs, rfl⟩ := map_some' hc; exact pu_eq (ne := false) h hs (by simpa using hg) hag H
           · obtain ⟨sh, hs, rfl⟩ := map_some' hc; exact pu_eq (ne := true) h hs (by simpa using hg) hag H
           · cases hc)
      | cases hc
  | unOp o t x =>
    cases some_inj hc
    exact pu_un h H
  | convert t u x =>
    simp only [cO] at hc
    split at hc
    · obtain ⟨h1, rfl⟩ := ifs hc
      simp only [Bool.and_eq_true] at h1
      simp only [pu] at h
      split at h
      · rename_i h2
        cases some_inj h
        exact ⟨trivial, .pur fun w => by simp only [execOp, hE h2, SV.d, Lf.d, Sem.run_bind, r_cvI h1.1 h1.2]; rfl⟩
      · cases h
    · obtain ⟨h1, rfl⟩ := ifs hc
      simp only [Bool.and_eq_true] at h1
      simp only [pu] at h
      split at h
      · rename_i h2
        cases some_inj h
        exact ⟨trivial, .pur fun w => by simp only [execOp, hE h2, SV.d, Lf.d, Sem.run_bind, r_cvS h1.1 h1.2]; rfl⟩
      · cases h
    · cases some_inj hc; cases h
    · cases some_inj hc; cases h
    · obtain ⟨h1, rfl⟩ := ifs hc; cases h
    · cases hc
  | extract x q =>
    cases some_inj hc
    simp only [pu] at h
    split at h
    · rename_i cs h1
      obtain ⟨z, h2, h3⟩ := none_bind h
      obtain ⟨h4, h5⟩ := cmpS_d (f := f) (g := g) (n := s.nx) h3
      refine ⟨h5 ((hO h1 : ∀ c ∈ cs, _) z (List.mem_of_getElem? h2)), .pur fun w => ?_⟩
      have h6 : ((cs.map cmpD).toArray)[q]? = some v.d := by simp [h2, h4]
      simp [execOp, hE h1, SV.d, Instr.extract]
      simp [h2, h4, SV.d]
    · cases h
  | field t x j =>
    simp only [cO] at hc
    split at hc
    · split at hc
      · rename_i h1
        cases some_inj hc
        simp only [pu] at h
        split at h
        · rename_i xs h2
          obtain ⟨y, h3, rfl⟩ := map_some' h
          refine ⟨(hO h2 : ∀ x ∈ xs, _) y (List.mem_of_getElem? h3), .pur fun w => ?_⟩
          have h4 : ((xs.map Lf.d).toArray)[‹Field›.offset]? = some y.d := by simp [h3]
          simp only [execOp, hE h2, SV.d, Sem.run_bind, run_part1 h1 h4]; rfl
        · cases h
      · obtain ⟨h1, rfl⟩ := ifs hc
        simp only [Bool.and_eq_true] at h1
        simp only [pu] at h
        split at h
        · rename_i xs h2
          cases some_inj h
          refine ⟨mem_take_drop (hO h2) _ _, .pur fun w => ?_⟩
          obtain ⟨q, hq⟩ : ∃ q, szB P ‹Field›.type = q + 1 := ⟨_, (Nat.sub_add_cancel (Nat.le_of_ble_eq_true h1.2)).symm⟩
          rw [hq] at h1 ⊢
          simp only [execOp, hE h2, SV.d, Sem.run_bind, run_partN h1.1, Result.andThen_ok, Sem.run_pure]
          simp [List.map_take, List.map_drop]
        · cases h
    · cases hc
  | makeInterface t x =>
    obtain ⟨h1, rfl⟩ := ifs hc
    obtain ⟨y, h2, rfl⟩ := map_some' h
    refine ⟨trivial, .pur fun w => ?_⟩
    cases hu : P.underlying t with
    | none => simp [notIfaceB, hu] at h1
    | some u => cases u <;> first | (simp [notIfaceB, hu] at h1; done) | simp [execOp, hE h2, SV.d, Lf.d, Instr.makeInterface, run_underlying hu]
  | makeFunc fn first caps =>
    simp only [cO] at hc
    split at hc
    · rename_i q h0
      cases some_inj hc
      obtain ⟨vs, h2, rfl⟩ := map_some' h
      have h3 := H.args (mapd h2)
      simp only [Array.toArray_toList] at h3
      have h4 : first = #[] := by cases first; simp at h0; subst h0; rfl
      subst h4
      refine ⟨trivial, .pur fun w => ?_⟩
      simp [execOp, Instr.makeFunc, h3, SV.d, Lf.d]
    · cases hc
  | build t ps =>
    simp only [cO] at hc
    split at hc
    · rename_i z l hz hp
      obtain ⟨hb, hc⟩ := ifs' hc
      obtain ⟨zl, hl, rfl⟩ := map_some' hc
      obtain ⟨r, h2, rfl⟩ := map_some' h
      have hz0 := hz
      unfold zeroS at hz0
      obtain ⟨zv, _, hz2⟩ := none_bind hz0
      refine ⟨fillS_ok I.E h2 ((lvs_d hl).2 (litV_d hz2).2), .pur fun w => ?_⟩
      simp only [execOp, Sem.run_bind, run_build H hz hp hb hl h2]
      rfl
    · cases hc
  | indexAddr t x y =>
    simp only [cO] at hc
    split at hc
    · obtain ⟨h1, rfl⟩ := ifs hc; cases h
    · obtain ⟨h1, rfl⟩ := ifs hc
      simp only [pu] at h
      split at h
      · rename_i k e k' j hx hy
        obtain ⟨h2, rfl⟩ := ifs h
        simp only [Bool.and_eq_true, decide_eq_true_eq] at h2
        refine ⟨ok_add (hO hx) _, .pur fun w => ?_⟩
        have e := run_idxA (P := P) (w := w) (p := e) (k := k') h1 h2.1 h2.2
        simp only [execOp, hE hx, hE hy, SV.d, Lf.d, Sem.run_bind, e, Result.andThen_ok, Sem.run_pure]
      · cases h
    · cases hc
  | load t x =>
    simp only [cO] at hc
    split at hc
    · rename_i h1
      obtain ⟨l, _, rfl⟩ := map_some' hc
      simp only [pu] at h
      split at h
      · rename_i k e h2
        obtain ⟨y, h3, rfl⟩ := map_some' h
        obtain ⟨h4, h5⟩ := knAt_ok I (hO h2) h3
        rw [cell_add0] at h4
        refine ⟨h5, fun k => ?_⟩
        simp [execOp, hE h2, SV.d, Lf.d, Instr.loadAt, Instr.sureAddr, run_load1 (w := w.drewN k) h1 h4]
      · cases h
    · split at hc
      · rename_i ls _
        obtain ⟨h1, rfl⟩ := ifs hc
        simp only [pu] at h
        split at h
        · rename_i k e h2
          obtain ⟨vs, h3, rfl⟩ := map_some' h
          obtain ⟨h4, h5, h6⟩ := knN_ok I (hO h2) h3
          refine ⟨h6, fun k => ?_⟩
          simp [execOp, hE h2, SV.d, Lf.d, Instr.loadAt, Instr.sureAddr, run_loadN (w := w.drewN k) h1 (by simpa using h4) (cells_drew h5)]
        · cases h
      · cases hc
  | call c =>
    obtain ⟨callee, args, ats⟩ := c
    simp only [cO] at hc
    split at hc
    · rename_i x t h1 h2
      cases arr1 h1; cases arr1 h2
      split at hc
      · obtain ⟨h3, rfl⟩ := ifs hc
        simp only [pu] at h
        split at h
        · rename_i y h4
          obtain ⟨e, h5, rfl⟩ := map_some' h
          refine ⟨trivial, run_blt (args := #[Slc.v e]) (by simp [hE h4, SV.d, slcE_d h5]) fun cs w => b_lenS h3⟩
        · cases h
      · obtain ⟨h3, rfl⟩ := ifs hc
        simp only [pu] at h
        split at h
        · rename_i e h4
          cases some_inj h
          exact ⟨trivial, run_blt (args := #[.string e]) (by simp [hE h4, SV.d, Lf.d]) fun cs w => b_lenT h3⟩
        · cases h
      · cases some_inj hc; cases h
      · cases hc
    · rename_i x t h1 h2
      cases arr1 h1; cases arr1 h2
      obtain ⟨h3, rfl⟩ := ifs hc
      simp only [pu] at h
      split at h
      · rename_i y h4
        obtain ⟨e, h5, rfl⟩ := map_some' h
        refine ⟨trivial, run_blt (args := #[Slc.v e]) (by simp [hE h4, SV.d, slcE_d h5]) fun cs w => b_capS h3⟩
      · cases h
    · rename_i x y h1
      cases arr2 h1
      cases some_inj hc
      simp only [pu] at h
      split at h
      · rename_i h4 h5
        obtain ⟨rfl, rfl⟩ := ifs h
        exact ⟨trivial, run_blt (args := #[.int _ _, .int _ _]) (by simp [hE h4, hE h5, SV.d, Lf.d]) fun cs w => b_min⟩
      · cases h
    · rename_i x y h1
      cases arr2 h1
      cases some_inj hc
      simp only [pu] at h
      split at h
      · rename_i h4 h5
        obtain ⟨rfl, rfl⟩ := ifs h
        exact ⟨trivial, run_blt (args := #[.int _ _, .int _ _]) (by simp [hE h4, hE h5, SV.d, Lf.d]) fun cs w => b_max⟩
      · cases h
    all_goals first
      | (cases some_inj hc; cases h; done)
      | (obtain ⟨_, hc⟩ := ifs' hc; obtain ⟨_, _, rfl⟩ := map_some' hc; cases h; done)
      | (obtain ⟨_, _, rfl⟩ := map_some' hc; cases h; done)
      | (split at hc <;> first | (cases some_inj hc; cases h; done) | (cases hc; done))
      | (cases hc; done)
  | typeAssert x t u com =>
    simp only [cO] at hc
    repeat' first
      | (cases some_inj hc; cases h; done)
      | (cases hc; done)
      | (obtain ⟨_, _, rfl⟩ := map_some' hc; cases h; done)
      | split at hc
  | lookup t x y com =>
    simp only [cO] at hc
    repeat' first
      | (cases some_inj hc; cases h; done)
      | (cases hc; done)
      | (obtain ⟨_, _, rfl⟩ := map_some' hc; cases h; done)
      | split at hc
  | slice t x lo hi mx =>
    simp only [cO] at hc
    repeat' first
      | (cases some_inj hc; cases h; done)
      | (cases hc; done)
      | (obtain ⟨_, _, rfl⟩ := map_some' hc; cases h; done)
      | split at hc
  | index t x y =>
    simp only [cO] at hc
    repeat' first
      | (cases some_inj hc; cases h; done)
      | (cases hc; done)
      | (obtain ⟨_, _, rfl⟩ := map_some' hc; cases h; done)
      | split at hc
  | entry x =>
    simp only [cO] at hc
    repeat' first
      | (cases some_inj hc; cases h; done)
      | (cases hc; done)
      | (obtain ⟨_, _, rfl⟩ := map_some' hc; cases h; done)
      | split at hc
  | range t x =>
    simp only [cO] at hc
    repeat' first
      | (cases some_inj hc; cases h; done)
      | (cases hc; done)
      | (obtain ⟨_, _, rfl⟩ := map_some' hc; cases h; done)
      | split at hc
  | buildSlice t len ps =>
    simp only [cO] at hc
    repeat' first
      | (cases some_inj hc; cases h; done)
      | (cases hc; done)
      | (obtain ⟨_, _, rfl⟩ := map_some' hc; cases h; done)
      | split at hc
  | store t x y =>
    simp only [cO] at hc
    repeat' first
      | (cases some_inj hc; cases h; done)
      | (cases hc; done)
      | (obtain ⟨_, _, rfl⟩ := map_some' hc; cases h; done)
      | split at hc
  | makeMap t r =>
    simp only [cO] at hc
    repeat' first
      | (cases some_inj hc; cases h; done)
      | (cases hc; done)
      | (obtain ⟨_, _, rfl⟩ := map_some' hc; cases h; done)
      | split at hc
  | alloc t =>
    simp only [cO] at hc
    repeat' first
      | (cases some_inj hc; cases h; done)
      | (cases hc; done)
      | (obtain ⟨_, _, rfl⟩ := map_some' hc; cases h; done)
      | split at hc
  | _ => first | (cases hc; done) | (cases some_inj hc; cases h; done)
end
end Go.Vc.Ex

namespace Go.Vc.Ex
open Go Go.Vc
section
variable {P : Program} {f f' : Nat → Option Addr} {g g' : Nat → Nat} {n n' m : Nat} {ds : List Deferred} {a : Act} {s : St} {w : World} {its : List (Nat × TypeId)} {d dst : Option Tmp} {ty : TypeId} {pos : String} {af : Array Edge} {gd : Option (Nat × Bool)} {i : I} {op : Op}
theorem Lf.ok.mono {x : Lf} (h : x.ok f g n) (hf : ∀ j < n, f' j = f j) (hg : ∀ j < n, g' j = g j) (hn : n ≤ n') : x.ok f' g' n' := by
  cases x with
  | p j e => exact ⟨by have := h.1; omega, by rw [hf _ h.1]; exact h.2⟩
  | a key e =>
    cases key with
    | none => trivial
    | some z => exact ⟨by have := h.1; omega, by rw [hg _ h.1]; exact h.2⟩
  | _ => trivial
theorem SV.ok.mono {x : SV} (h : x.ok f g n) (hf : ∀ j < n, f' j = f j) (hg : ∀ j < n, g' j = g j) (hn : n ≤ n') : x.ok f' g' n' := by
  cases x with
  | l y => exact Lf.ok.mono h hf hg hn
  | g ys => exact fun y hy => Lf.ok.mono (h y hy) hf hg hn
  | t cs => exact fun c hc y hy => Lf.ok.mono (h c hc y hy) hf hg hn
  | no => trivial
theorem Inv.mono (I : Inv f g s w) (hf : ∀ j < s.nx, f' j = f j) (hn : s.nx ≤ n') : Inv f' g (s.up n') w :=
  ⟨fun z hz => (I.E z hz).mono hf (fun _ _ => rfl) hn, fun z hz => by obtain ⟨h1, h2, h3⟩ := I.kn z hz; exact ⟨h1.mono hf (fun _ _ => rfl) hn, Nat.lt_of_lt_of_le h2 hn, h3⟩⟩
def upd {α : Type} (f : Nat → α) (n : Nat) (x : α) : Nat → α := fun j => if j = n then x else f j
theorem upd_lt {α : Type} {f : Nat → α} {n j : Nat} {x : α} (h : j < n) : upd f n x j = f j := by simp [upd, Nat.ne_of_lt h]
theorem upd_at {α : Type} {f : Nat → α} {n : Nat} {x : α} : upd f n x n = x := by simp [upd]
def LT.is : LT → Lf → Prop
  | .i k, .i k' _ _ => k = k' | .b, .b _ _ => True | .s, .s _ => True | .p, .p _ _ => True | .c, .c _ => True | .m, .m _ => True | .v, .v _ => True | _, _ => False
theorem ex1_el {l : LT} {K : Lf → Prop} (h : ex1 l n K) (f : Nat → Option Addr) : ∃ x f', K x ∧ (∀ j < n, f' j = f j) ∧ (∀ g, Lf.ok f' g (n + 1) x) ∧ LT.is l x := by
  cases l <;> obtain ⟨x, h⟩ := h
  case p => exact ⟨_, upd f n x, h, fun j hj => upd_lt hj, fun g => ⟨Nat.lt_succ_self n, upd_at.symm⟩, trivial⟩
  all_goals exact ⟨_, f, h, fun _ _ => rfl, fun _ => trivial, by first | trivial | rfl⟩
theorem exL_el : ∀ {ls : List LT} {n : Nat} {K : List Lf → Nat → Prop}, exL ls n K → ∀ f : Nat → Option Addr, ∃ xs n' f', K xs n' ∧ n ≤ n' ∧ (∀ j < n, f' j = f j) ∧ (∀ g, ∀ x ∈ xs, Lf.ok f' g n' x) ∧ All2 LT.is ls xs
  | [], n, K, h, f => ⟨[], n, f, h, Nat.le_refl n, fun _ _ => rfl, by simp, .nil⟩
  | l :: r, n, K, h, f => by
    obtain ⟨x, f1, h1, h2, h3, h4⟩ := ex1_el h f
    obtain ⟨xs, n', f2, h5, h6, h7, h8, h9⟩ := exL_el h1 f1
    refine ⟨x :: xs, n', f2, h5, by omega, fun j hj => by rw [h7 j (by omega), h2 j hj], fun g y hy => ?_, .cons h4 h9⟩
    rcases List.mem_cons.1 hy with rfl | hy
    · exact (h3 g).mono h7 (fun _ _ => rfl) h6
    · exact h8 g y hy
theorem exC_el : ∀ {cs : List (Bool × List LT)} {n : Nat} {K : List (Bool × List Lf) → Nat → Prop}, exC cs n K → ∀ f : Nat → Option Addr, ∃ xs n' f', K xs n' ∧ n ≤ n' ∧ (∀ j < n, f' j = f j) ∧ (∀ g, ∀ c ∈ xs, ∀ x ∈ c.2, Lf.ok f' g n' x)
  | [], n, K, h, f => ⟨[], n, f, h, Nat.le_refl n, fun _ _ => rfl, by simp⟩
  | (b, ls) :: r, n, K, h, f => by
    obtain ⟨x, n1, f1, h1, h2, h3, h4, _⟩ := exL_el h f
    obtain ⟨xs, n', f2, h5, h6, h7, h8⟩ := exC_el h1 f1
    refine ⟨(b, x) :: xs, n', f2, h5, by omega, fun j hj => by rw [h7 j (by omega), h3 j hj], fun g c hc y hy => ?_⟩
    rcases List.mem_cons.1 hc with rfl | hc
    · exact (h4 g y hy).mono h7 (fun _ _ => rfl) h6
    · exact h8 g c hc y hy
theorem exT_el {r : ST} {K : SV → Nat → Prop} (h : exT r n K) (f : Nat → Option Addr) : ∃ v n' f', K v n' ∧ n ≤ n' ∧ (∀ j < n, f' j = f j) ∧ ∀ g, SV.ok f' g n' v := by
  cases r with
  | l l => obtain ⟨x, f', h1, h2, h3, _⟩ := ex1_el (K := fun x => K (.l x) (n + 1)) h f; exact ⟨.l x, n + 1, f', h1, by omega, h2, h3⟩
  | g ls => obtain ⟨xs, n', f', h1, h2, h3, h4, _⟩ := exL_el (K := fun xs => K (.g xs)) h f; exact ⟨.g xs, n', f', h1, h2, h3, h4⟩
  | t cs => obtain ⟨xs, n', f', h1, h2, h3, h4⟩ := exC_el (K := fun xs => K (.t xs)) h f; exact ⟨.t xs, n', f', h1, h2, h3, h4⟩
theorem ldN_el (I : Inv f g s w) {e : Addr} {key : Option (Nat × Nat)} (he : (Lf.a key e).ok f g s.nx) : ∀ {ls : List LT} {i n : Nat} {K : List Lf → Nat → Prop} (f1 : Nat → Option Addr), ldN s w e key i ls n K → s.nx ≤ n → (∀ j < s.nx, f1 j = f j) →
    ∃ vs n' f', K vs n' ∧ n ≤ n' ∧ (∀ j < n, f' j = f1 j) ∧ (∀ x ∈ vs, Lf.ok f' g n' x) ∧ vs.length = ls.length ∧ Cells w e i (vs.map Lf.d)
  | [], i, n, K, f1, h, _, _ => ⟨[], n, f1, h, Nat.le_refl n, fun _ _ => rfl, by simp, rfl, trivial⟩
  | l :: r, i, n, K, f1, h, hn, hf => by
    simp only [ldN] at h
    split at h
    · rename_i v hv
      obtain ⟨h1, h2⟩ := knAt_ok I he hv
      obtain ⟨vs, n', f', h3, h4, h5, h6, h7, h8⟩ := ldN_el I he f1 h hn hf
      refine ⟨v :: vs, n', f', h3, h4, h5, fun x hx => ?_, by simp [h7], ⟨h1, h8⟩⟩
      rcases List.mem_cons.1 hx with rfl | hx
      · exact h2.mono (fun j hj => by rw [h5 j (by omega), hf j hj]) (fun _ _ => rfl) (by omega)
      · exact h6 x hx
    · obtain ⟨x, f2, h1, h2, h3, _⟩ := ex1_el h f1
      obtain ⟨h1, h1'⟩ := h1
      obtain ⟨vs, n', f', h4, h5, h6, h7, h8, h9⟩ := ldN_el I he f2 h1' (by omega) (fun j hj => by rw [h2 j (by omega), hf j hj])
      refine ⟨x :: vs, n', f', h4, by omega, fun j hj => by rw [h6 j (by omega), h2 j hj], fun y hy => ?_, by simp [h8], ⟨h1, h9⟩⟩
      rcases List.mem_cons.1 hy with rfl | hy
      · exact (h3 g).mono h6 (fun _ _ => rfl) h5
      · exact h7 y hy
theorem sbL_ok {j : Nat} {e : Option Addr} {p : Addr} (he : (Lf.p j e).ok f g n) (hp : e = some p) {x : Lf} (h : x.ok f g n) : (sbL j p x).d = x.d ∧ (sbL j p x).ok f g n := by
  cases x with
  | p q y =>
    simp only [sbL]
    cases hb : Nat.beq q j with
    | true =>
      have hq := Nat.eq_of_beq_eq_true hb
      subst hq
      refine ⟨?_, trivial⟩
      show Value.pointer (some p) = .pointer y
      rw [h.2, ← he.2, hp]
    | false => exact ⟨rfl, h⟩
  | _ => exact ⟨rfl, h⟩
theorem map_d {l : List Lf} {h : Lf → Lf} (e : ∀ x ∈ l, (h x).d = x.d) : (l.map h).map Lf.d = l.map Lf.d := by
  induction l with
  | nil => rfl
  | cons x r ih => simp only [List.map_cons]; rw [e x (by simp), ih fun y hy => e y (List.mem_cons_of_mem _ hy)]
theorem sbV_ok {j : Nat} {e : Option Addr} {p : Addr} (he : (Lf.p j e).ok f g n) (hp : e = some p) {x : SV} (h : x.ok f g n) : (sbV j p x).d = x.d ∧ (sbV j p x).ok f g n := by
  cases x with
  | l y => exact sbL_ok he hp h
  | g ys =>
    refine ⟨?_, fun y hy => ?_⟩
    · simp only [sbV, SV.d]; rw [map_d fun x hx => (sbL_ok he hp (h x hx)).1]
    · obtain ⟨z, hz, rfl⟩ := List.mem_map.1 hy; exact (sbL_ok he hp (h z hz)).2
  | t cs =>
    refine ⟨?_, fun c hc y hy => ?_⟩
    · simp only [sbV, SV.d, List.map_map]
      congr 2
      refine List.map_congr_left fun c hc => ?_
      obtain ⟨b, l⟩ := c
      have h1 : ∀ x ∈ l, (sbL j p x).d = x.d := fun x hx => (sbL_ok he hp (h _ hc x hx)).1
      cases b
      · match l, h1 with
        | [], _ => rfl
        | [x], h1 => exact h1 x (by simp)
        | x :: y :: r, _ => rfl
      · simp only [Function.comp, cmpD]; rw [map_d h1]
    · obtain ⟨c0, hc0, rfl⟩ := List.mem_map.1 hc
      obtain ⟨z, hz, rfl⟩ := List.mem_map.1 hy
      exact (sbL_ok he hp (h c0 hc0 z hz)).2
  | no => exact ⟨rfl, trivial⟩
end
structure Same (v v' : SV) : Prop where
  d : v'.d = v.d
  l : ∀ y, v = .l y → ∃ y', v' = .l y'
  g : ∀ y, v = .g y → ∃ y', v' = .g y'
  s : ∀ e, v = .l (.s e) → v' = v
  u : v = .no → v' = .no
  u' : v' = .no → v = .no
theorem Same.rfl {v : SV} : Same v v := ⟨Eq.refl _, fun y h => ⟨y, h⟩, fun y h => ⟨y, h⟩, fun _ _ => Eq.refl _, fun h => h, fun h => h⟩
theorem Same.trans {v1 v2 v3 : SV} (h1 : Same v1 v2) (h2 : Same v2 v3) : Same v1 v3 :=
  ⟨h2.d.trans h1.d, fun y h => by obtain ⟨y', h3⟩ := h1.l y h; exact h2.l y' h3, fun y h => by obtain ⟨y', h3⟩ := h1.g y h; exact h2.g y' h3, fun e h => by
    have h3 := h1.s e h
    rw [h2.s e (by rw [h3]; exact h), h3], fun h => h2.u (h1.u h), fun h => h1.u' (h2.u' h)⟩
section
variable {P : Program} {f f' : Nat → Option Addr} {g g' : Nat → Nat} {n n' m : Nat} {ds : List Deferred} {a : Act} {s : St} {w : World} {its : List (Nat × TypeId)} {d dst : Option Tmp} {ty : TypeId} {pos : String} {af : Array Edge} {gd : Option (Nat × Bool)} {i : I} {op : Op}
structure Went (f f' : Nat → Option Addr) (g : Nat → Nat) (s s' : St) (w : World) (σ : SV → SV) : Prop where
  inv : Inv f' g s' w
  le : s.nx ≤ s'.nx
  E : s'.E = s.E.map fun z => (z.1, σ z.2)
  keep : ∀ x : SV, x.ok f g s.nx → (σ x).d = x.d ∧ (σ x).ok f' g s'.nx
  lit : ∀ b e, σ (.l (.b b e)) = .l (.b b e)
  und : σ .no = .no
  und' : ∀ x, σ x = .no → x = .no
  lit' : ∀ x b e, σ x = .l (.b b e) → x = .l (.b b e)
  ag : ∀ j < s.nx, f' j = f j
  same : ∀ x : SV, x.ok f g s.nx → Same x (σ x)
theorem Went.rfl (I : Inv f g s w) : Went f f g s s w id := ⟨I, Nat.le_refl _, by simp, fun _ h => ⟨Eq.refl _, h⟩, fun _ _ => Eq.refl _, Eq.refl _, fun _ h => h, fun _ _ _ h => h, fun _ _ => Eq.refl _, fun _ _ => .rfl⟩
theorem Went.up (I : Inv f g s w) (hf : ∀ j < s.nx, f' j = f j) (hn : s.nx ≤ n') : Went f f' g s (s.up n') w id := ⟨I.mono hf hn, hn, by simp [St.up], fun _ h => ⟨Eq.refl _, h.mono hf (fun _ _ => Eq.refl _) hn⟩, fun _ _ => Eq.refl _, Eq.refl _, fun _ h => h, fun _ _ _ h => h, hf, fun _ _ => .rfl⟩
theorem Went.sb (I : Inv f g s w) {j : Nat} {e : Option Addr} {p : Addr} (he : (Lf.p j e).ok f g s.nx) (hp : e = some p) : Went f f g s (s.sb j p) w (sbV j p) := by
  refine ⟨⟨fun z hz => ?_, fun z hz => ?_⟩, Nat.le_refl _, Eq.refl _, fun x hx => sbV_ok he hp hx, fun _ _ => Eq.refl _, Eq.refl _, fun x hx => ?_, fun x b e hx => ?_, fun _ _ => Eq.refl _, fun x hx => ⟨(sbV_ok he hp hx).1, fun y h => by subst h; exact ⟨_, Eq.refl _⟩, fun y h => by subst h; exact ⟨_, Eq.refl _⟩, fun e h => by subst h; rfl, fun h => by subst h; rfl, fun h => by cases x <;> first | rfl | cases h⟩⟩
  · obtain ⟨y, hy, rfl⟩ := List.mem_map.1 hz
    exact (sbV_ok he hp (I.E y hy)).2
  · obtain ⟨y, hy, rfl⟩ := List.mem_map.1 hz
    obtain ⟨h1, h2, h3⟩ := I.kn y hy
    obtain ⟨h4, h5⟩ := sbL_ok he hp h1
    exact ⟨h5, h2, by rw [h4]; exact h3⟩
  · cases x <;> first | rfl | cases hx
  · cases x with
    | l y =>
      simp only [sbV, SV.l.injEq] at hx
      cases y with
      | p q y => simp only [sbL] at hx; cases hb : Nat.beq q j <;> simp [hb] at hx
      | _ => rw [← hx]; rfl
    | _ => cases hx
theorem dE_map {E : List (Nat × SV)} {σ : SV → SV} (h : ∀ z ∈ E, (σ z.2).d = z.2.d) : dE (E.map fun z => (z.1, σ z.2)) = dE E := by
  unfold dE
  rw [List.map_map]
  refine List.map_congr_left fun z hz => ?_
  simp [h z hz]
theorem Went.dE {σ : SV → SV} {s' : St} (W : Went f f' g s s' w σ) (I : Inv f g s w) : Ex.dE s'.E = Ex.dE s.E := by
  rw [W.E]; exact dE_map fun z hz => (W.keep _ (I.E z hz)).1
end
end Go.Vc.Ex

namespace Go.Vc.Ex
open Go Go.Vc
section
variable {P : Program} {f : Nat → Option Addr} {g : Nat → Nat} {n m : Nat} {ds : List Deferred} {a : Act} {s : St} {w : World} {its : List (Nat × TypeId)} {d dst : Option Tmp} {ty : TypeId} {pos : String} {af : Array Edge} {gd : Option (Nat × Bool)} {i : I} {op : Op} {md : Bool}
def RunM (md : Bool) (P : Program) (a : Act) (o : Oper) (w : World) (v : Value) : Prop := ∀ k : Nat, (md = true ∨ k = 0) → (execOp a.eval o).run P (w.drewN k) = .ok (.value v) (w.drewN k)
theorem Run.toM {o : Oper} {v : Value} (h : Run P a o w v) : RunM md P a o w v := fun k _ => h k
def CoOk (md : Bool) (P : Program) (f : Nat → Option Addr) (g : Nat → Nat) (s : St) (w : World) (a : Act) (o : Oper) (K : SV → St → (SV → SV) → Prop) : Prop :=
  ∃ v s' σ f', K v s' σ ∧ Went f f' g s s' w σ ∧ v.ok f' g s'.nx ∧ RunM md P a o w v.d
theorem CoOk.id' {o : Oper} {K : SV → St → (SV → SV) → Prop} (I : Inv f g s w) {v : SV} (h : K v s id) (hv : v.ok f g s.nx) (hr : Run P a o w v.d) : CoOk md P f g s w a o K := ⟨v, s, id, f, h, .rfl I, hv, hr.toM⟩
theorem lo0_ok {E : List (Nat × SV)} {ds : List Deferred} (H : Has m ds a (dE E)) {lo : Option Operand} {l : Int} (h : lo0 E lo = some l) : ∃ z : Option (IntKind × Int), lo.map a.eval = z.map (fun z => .int z.1 z.2) ∧ (z.map fun z => z.2).getD 0 = l := by
  cases lo with
  | none => simp only [lo0, Option.some.injEq] at h; exact ⟨none, rfl, h⟩
  | some x =>
    simp only [lo0] at h
    split at h
    · rename_i k _ e h1
      cases some_inj h
      exact ⟨some (k, l), by simp [H.eval (ev_d h1), SV.d, Lf.d], rfl⟩
    · cases h
theorem hi0_ok {E : List (Nat × SV)} {ds : List Deferred} (H : Has m ds a (dE E)) {z : Int} {hi : Option Operand} {l : Int} (h : hi0 E z hi = some l) : ∃ y : Option (IntKind × Int), hi.map a.eval = y.map (fun z => .int z.1 z.2) ∧ (y.map fun z => z.2).getD z = l := by
  cases hi with
  | none => simp only [hi0, Option.some.injEq] at h; exact ⟨none, rfl, h⟩
  | some x =>
    simp only [hi0] at h
    split at h
    · rename_i k _ e h1
      cases some_inj h
      exact ⟨some (k, l), by simp [H.eval (ev_d h1), SV.d, Lf.d], rfl⟩
    · cases h
theorem co_bin {k : BK} {o : BinOp} {t u : TypeId} {x y : Operand} {K : SV → St → (SV → SV) → Prop} (h : co P md s w (.bin k o x y) K) (hk : bkP P t k) (hf : k = .f → ifcB P t = true ∧ ∃ c, y = .const c) (hn : k = .n → funcB P t = true) (I : Inv f g s w) (H : Has m ds a (dE s.E)) :
    CoOk md P f g s w a ⟨dst, .binOp o t x y u, ty, pos, af, gd⟩ K := by
  unfold co at h
  cases hp : pu s (.bin k o x y) with
  | some v =>
    simp only [hp] at h
    obtain ⟨h1, h2⟩ := pu_bin (f := f) (g := g) (w := w) (dst := dst) (ty := ty) (pos := pos) (af := af) (gd := gd) (u := u) hp hk H
    exact .id' I h h1 h2
  | none =>
    simp only [hp] at h
    split at h
    · rename_i k1 _ p k2 _ q h1 h2
      split at h
      · split at h
        · rename_i hk2; subst hk2
          exact .id' I h.2 trivial (run_eq (H.eval (ev_d h1)) (H.eval (ev_d h2)) (r_quo h.1))
        · exact h.elim
      · split at h
        · rename_i hk2; subst hk2
          exact .id' I h.2 trivial (run_eq (H.eval (ev_d h1)) (H.eval (ev_d h2)) (r_rem h.1))
        · exact h.elim
      · exact .id' I h.2 trivial (run_eq (H.eval (ev_d h1)) (H.eval (ev_d h2)) (r_shl h.1))
      · exact .id' I h.2 trivial (run_eq (H.eval (ev_d h1)) (H.eval (ev_d h2)) (r_shr h.1))
      · exact h.elim
    · rename_i p q h1 h2
      split at h
      · exact .id' I h.2 trivial (run_eq (H.eval (ev_d h1)) (H.eval (ev_d h2)) (r_addS h.1))
      · exact h.elim
    · rename_i h1 h2
      split at h
      · obtain ⟨hi, c, rfl⟩ := hf rfl
        obtain ⟨b, hz, h⟩ := h
        exact .id' I h trivial (run_eq (H.eval (ev_d h1)) (H.eval (ev_d h2)) (r_eqN hi hz))
      · obtain ⟨hi, c, rfl⟩ := hf rfl
        obtain ⟨b, hz, h⟩ := h
        exact .id' I h trivial (run_eq (H.eval (ev_d h1)) (H.eval (ev_d h2)) (r_neN hi hz))
      · exact h.elim
    · rename_i h1 h2
      split at h
      · obtain ⟨b, hz, h⟩ := h
        exact .id' I h trivial (run_eq (H.eval (ev_d h1)) (H.eval (ev_d h2)) (r_eqF (hn rfl) hz))
      · obtain ⟨b, hz, h⟩ := h
        exact .id' I h trivial (run_eq (H.eval (ev_d h1)) (H.eval (ev_d h2)) (r_neF (hn rfl) hz))
      · exact h.elim
    · exact h.elim
def I.ask : I → Bool
  | .ld .. | .ldN .. | .nc .. | .xS .. | .xA .. | .xT .. | .sS .. | .sC .. | .bin .. | .tS .. | .ta .. => true | _ => false
theorem co_none {K : SV → St → (SV → SV) → Prop} (hp : pu s i = none) (hi : i.ask = false) (h : co P md s w i K) : False := by
  cases i <;> first | (cases hi; done) | (unfold co at h; simp only [hp] at h)
theorem co_ok {K : SV → St → (SV → SV) → Prop} (hc : cO P its d ty op = some i) (h : co P md s w i K) (I : Inv f g s w) (H : Has m ds a (dE s.E)) : CoOk md P f g s w a ⟨dst, op, ty, pos, af, gd⟩ K := by
  have hE : ∀ {x : Operand} {y : SV}, ev s.E x = some y → a.eval x = y.d := fun h => H.eval (ev_d h)
  have hO : ∀ {x : Operand} {y : SV}, ev s.E x = some y → y.ok f g s.nx := fun h => ev_okV I.E h
  cases hp : pu s i with
  | some v =>
    unfold co at h
    simp only [hp] at h
    obtain ⟨h1, h2⟩ := pu_ok (dst := dst) (pos := pos) (af := af) (gd := gd) hc hp I H
    exact .id' I h h1 h2
  | none =>
    cases op with
    | binOp o t x y u =>
      simp only [cO] at hc
      split at hc
      all_goals first
        | (cases some_inj hc; exact co_bin h trivial (fun e => nomatch e) (fun e => nomatch e) I H)
        | (obtain ⟨h1, rfl⟩ := ifs hc; first | exact co_bin h h1 (fun e => nomatch e) (fun e => nomatch e) I H | exact co_bin h trivial (fun e => nomatch e) (fun _ => h1) I H)
        | (split at hc
           · obtain ⟨h1, rfl⟩ := ifs hc; exact co_bin h trivial (fun _ => ⟨h1, _, rfl⟩) (fun e => nomatch e) I H
           · cases hc)
        | (split at hc
           · cases hc
           · split at hc
             · obtain ⟨sh, hs, rfl⟩ := map_some' hc; unfold co at h; simp only [hp] at h
             · obtain ⟨sh, hs, rfl⟩ := map_some' hc; unfold co at h; simp only [hp] at h
             · cases hc)
        | cases hc
    | nilCheck x =>
      cases some_inj hc
      unfold co at h
      simp only [hp] at h
      split at h
      · rename_i j e h1
        obtain ⟨p, h2, h⟩ := h
        exact ⟨_, _, _, f, h, .sb I (hO h1) h2, trivial, (Run.pur fun w => by simp [execOp, hE h1, SV.d, Lf.d, h2]).toM⟩
      · obtain ⟨p, h2, h⟩ := h; cases h2
      · exact h.elim
    | load t x =>
      simp only [cO] at hc
      split at hc
      · rename_i h1
        obtain ⟨l, _, rfl⟩ := map_some' hc
        unfold co at h
        simp only [hp] at h
        split at h
        · rename_i k e h2
          obtain ⟨y, f', ⟨h3, h⟩, h4, h5, _⟩ := ex1_el h f
          refine ⟨_, _, _, f', h, .up I h4 (by omega), h5 g, fun k _ => ?_⟩
          simp [execOp, hE h2, SV.d, Lf.d, Instr.loadAt, Instr.sureAddr, run_load1 (w := w.drewN k) h1 h3]
        · exact h.elim
      · split at hc
        · rename_i ls _
          obtain ⟨h1, rfl⟩ := ifs hc
          unfold co at h
          simp only [hp] at h
          split at h
          · rename_i k e h2
            obtain ⟨vs, n', f', h, h3, h4, h5, h6, h7⟩ := ldN_el I (hO h2) f h (Nat.le_refl _) (fun _ _ => rfl)
            refine ⟨_, _, _, f', h, .up I h4 h3, h5, fun k _ => ?_⟩
            simp [execOp, hE h2, SV.d, Lf.d, Instr.loadAt, Instr.sureAddr, run_loadN (w := w.drewN k) h1 (by simpa using h6) (cells_drew h7)]
          · exact h.elim
        · cases hc
    | indexAddr t x y =>
      simp only [cO] at hc
      split at hc
      · obtain ⟨h1, rfl⟩ := ifs hc
        unfold co at h
        simp only [hp] at h
        split at h
        · rename_i x' k _ j h2 h3
          split at h
          · rename_i e h4
            obtain ⟨p, h5, h6, h7, h⟩ := h
            refine .id' I h trivial (.pur fun w => ?_)
            have e := run_idxS (P := P) (w := w) (k := k) h1 h5 h6 h7
            have e1 : a.eval x = Slc.v _ := (hE h2).trans (slcE_d h4)
            simp only [execOp, e1, hE h3, SV.d, Lf.d, Sem.run_bind, e, Result.andThen_ok, Sem.run_pure]
          · exact h.elim
        · exact h.elim
      · obtain ⟨h1, rfl⟩ := ifs hc
        unfold co at h
        simp only [hp] at h
        split at h
        · rename_i _ e k _ j h2 h3
          obtain ⟨h6, h7, h⟩ := h
          refine .id' I h trivial (.pur fun w => ?_)
          have e := run_idxA (P := P) (w := w) (p := e) (k := k) h1 h6 h7
          simp only [execOp, hE h2, hE h3, SV.d, Lf.d, Sem.run_bind, e, Result.andThen_ok, Sem.run_pure]
        · exact h.elim
      · cases hc
    | index t x y =>
      simp only [cO] at hc
      obtain ⟨h1, rfl⟩ := ifs hc
      unfold co at h
      simp only [hp] at h
      split at h
      · rename_i e k _ j h2 h3
        obtain ⟨h6, h7, h⟩ := h
        refine .id' I h trivial (.pur fun w => ?_)
        have e := run_idxStr (P := P) (w := w) (k := k) h1 h6 h7
        simp only [execOp, hE h2, hE h3, SV.d, Lf.d, Sem.run_bind, e, Result.andThen_ok, Sem.run_pure]
      · exact h.elim
    | slice t x lo hi mx =>
      simp only [cO] at hc
      split at hc
      · obtain ⟨h1, rfl⟩ := ifs hc
        unfold co at h
        simp only [hp] at h
        split at h
        · rename_i e h2
          split at h
          · rename_i l q hl hh
            obtain ⟨h3, h4, h5, h⟩ := h
            obtain ⟨z1, hz1, hz2⟩ := lo0_ok H hl
            obtain ⟨y1, hy1, hy2⟩ := hi0_ok H hh
            refine .id' I h trivial (.pur fun w => ?_)
            have e := r_sliceStr (P := P) (w := w) (lo := z1) (hi := y1) h1 hz2 hy2 h3 h4 h5
            simp only [execOp, hE h2, SV.d, Lf.d, hz1, hy1, Option.map_none, Sem.run_bind, e, Result.andThen_ok, Sem.run_pure]
          · exact h.elim
        · exact h.elim
      · obtain ⟨h1, rfl⟩ := ifs hc
        unfold co at h
        simp only [hp] at h
        split at h
        · rename_i x' h2
          split at h
          · rename_i e he
            split at h
            · rename_i l q hl hh
              obtain ⟨h3, h4, h5, h⟩ := h
              obtain ⟨z1, hz1, hz2⟩ := lo0_ok H hl
              obtain ⟨y1, hy1, hy2⟩ := hi0_ok H hh
              refine .id' I h trivial (.pur fun w => ?_)
              have e := r_sliceSlc (P := P) (w := w) (lo := z1) (hi := y1) h1 hz2 hy2 h3 h4 h5
              have e1 : a.eval x = Slc.v _ := (hE h2).trans (slcE_d he)
              simp only [execOp, e1, hz1, hy1, Option.map_none, Sem.run_bind, e, Result.andThen_ok, Sem.run_pure]; rfl
            · exact h.elim
          · exact h.elim
        · exact h.elim
      · cases hc
    | convert t u x =>
      simp only [cO] at hc
      split at hc
      · obtain ⟨h1, rfl⟩ := ifs hc
        unfold co at h
        simp only [hp] at h
      · obtain ⟨h1, rfl⟩ := ifs hc
        unfold co at h
        simp only [hp] at h
      · cases some_inj hc
        unfold co at h
        simp only [hp] at h
        split at h
        · rename_i v h2
          split at h
          · obtain ⟨e, h3, h⟩ := h
            exact ⟨_, _, _, f, h, .rfl I, trivial, fun k _ => by simp only [execOp, hE h2, Sem.run_bind, h3 k]; rfl⟩
          · rename_i hmd
            obtain ⟨e, h3, h⟩ := h
            refine ⟨_, _, _, f, h, .rfl I, trivial, fun k hk => ?_⟩
            have hk0 : k = 0 := hk.resolve_left hmd
            subst hk0
            show (execOp a.eval _).run P w = .ok _ w
            simp only [execOp, hE h2, Sem.run_bind, h3]; rfl
        · exact h.elim
      · cases some_inj hc
        unfold co at h
        simp only [hp] at h
      · obtain ⟨h1, rfl⟩ := ifs hc
        unfold co at h
        simp only [hp] at h
      · cases hc
    | typeAssert x t u com =>
      simp only [cO] at hc
      split at hc
      · cases some_inj hc
        unfold co at h
        simp only [hp] at h
        split at h
        · rename_i v h2
          obtain ⟨z, h3, h⟩ := h
          obtain ⟨y, n', f', ⟨hz, h'⟩, h4, h5, h6⟩ := exT_el h f
          subst hz
          exact ⟨_, _, _, f', h', .up I h5 h4, h6 g, (Run.pur fun w => by simp only [execOp, hE h2, Sem.run_bind, h3]; rfl).toM⟩
        · exact h.elim
      · cases hc
    | _ =>
      refine (co_none hp ?_ h).elim
      clear h hp
      first | (cases hc; done) | (cases some_inj hc; rfl) | skip
      try simp only [cO] at hc
      repeat' first
        | (cases some_inj hc; rfl)
        | (cases hc; done)
        | (obtain ⟨_, _, rfl⟩ := map_some' hc; rfl)
        | split at hc
end
end Go.Vc.Ex
