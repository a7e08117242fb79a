/-
  The laws of the code's shapes (regions, tests, blocks, loops, ends), and what the pure operations come to. Nothing of any program stands here.
-/
import Derived.Test.YtabifopphhpciaaGreatVcOps
import Derived.Scope
namespace Go.Vc
open Go

section
variable {P : Program} {Q : Exit → Act → World → Prop} {a : Act} {w : World} {n : Nat} {ds : List Deferred} {L : List (Nat × Value)}

theorem c_seq {x y : Code} (h : ∀ K : Act → World → Prop, (∀ a w, y.wp P Q a w → K a w) → x.wp P (Exit.then K Q) a w) : (Code.seq x y).wp P Q a w := wp_seq_k h
theorem c_reg {id : Nat} {l : List Oper} (h : wpList P l.toArray Q l a w) : (Code.region id l.toArray false).wp P Q a w := wp_region_lit h
theorem c_nil {ops : Array Oper} (h : Q .normal a w) : wpList P ops Q [] a w := wpList_nil h
theorem c_cond {c : Operand} {x y : Code} {b : Bool} (H : Has n ds a L) (hc : ev L c = some (.bool b)) (ht : b = true → x.wp P Q a w) (hf : b = false → y.wp P Q a w) : (Code.cond c x y).wp P Q a w :=
  wp_cond_split (H.eval hc) ht hf
theorem c_block {id : Nat} {c : Code} (h : c.wp P (Exit.inBlock id Q) a w) : (Code.block id c).wp P Q a w := wp_block h
theorem c_label {l : Nat} (h : Q .normal a w) : (Code.label l).wp P Q a w := wp_label h
theorem c_scope {c : Code} (h : c.wp P (Exit.noGoto Q) a w) : (Code.scope c).wp P Q a w := wp_scope_straight h
theorem c_exit {id : Nat} (h : Q (.exit id) a w) : (Code.exit id).wp P Q a w := wp_exit h
theorem c_ret (h : Q .ret a w) : Code.ret.wp P Q a w := wp_ret h
theorem c_skip (h : Q .normal a w) : Code.skip.wp P Q a w := wp_skip h
theorem x_here {id : Nat} (h : Q .normal a w) : Exit.inBlock id Q (.exit id) a w := by simp only [Exit.inBlock, if_true]; exact h
theorem x_there {id id' : Nat} (hne : Nat.beq id' id = false) (h : Q (.exit id') a w) : Exit.inBlock id Q (.exit id') a w := by
  have e : ¬ id' = id := fun e => by rw [e, Nat.beq_refl] at hne; exact absurd hne (by decide)
  simp only [Exit.inBlock, if_neg e]; exact h

/-- A loop whose state is a ghost of the proof. -/
theorem c_loop {σ : Type} {c : Code} (I : σ → World → Prop) (μ : σ → World → Nat) (L : σ → List (Nat × Value)) (s0 : σ) (h0 : I s0 w) (H0 : Has n ds a (L s0))
    (round : ∀ s a w, I s w → Has n ds a (L s) → c.wp P (Exit.then (fun a' w' => ∃ s', I s' w' ∧ μ s' w' < μ s w ∧ Has n ds a' (L s')) Q) a w) : (Code.loop c).wp P Q a w := by
  intro b k cs
  have key : ∀ m s a w, μ s w = m → I s w → Has n ds a (L s) →
      ∃ e a' w', Q e a' w' ∧ Arrives P (lone (b.at a (.code c :: .inLoop c :: k)) cs w) b k cs e a' w' := by
    intro m
    induction m using Nat.strongRecOn with
    | _ m ih =>
      intro s a w hm hI HH
      obtain ⟨e, a₁, w₁, hq, harr⟩ := round s a w hI HH b (.inLoop c :: k) cs
      cases e with
      | normal =>
        obtain ⟨s', hI₁, hlt, H₁⟩ := hq
        obtain ⟨e₂, a₂, w₂, hq₂, harr₂⟩ := ih (μ s' w₁) (hm ▸ hlt) s' a₁ w₁ rfl hI₁ H₁
        exact ⟨e₂, a₂, w₂, hq₂, .of_steps (Steps.trans harr (.one step_inLoop)) harr₂⟩
      | exit id => exact ⟨_, a₁, w₁, hq, .pass (x := .inLoop c) rfl (fun _ _ => .inl (by simp)) harr⟩
      | goto l => exact ⟨_, a₁, w₁, hq, .pass (x := .inLoop c) rfl (fun _ _ => .inl (by simp)) harr⟩
      | ret => exact ⟨_, a₁, w₁, hq, .pass (x := .inLoop c) rfl (fun _ _ => .inl (by simp)) harr⟩
      | panic ch => exact ⟨_, a₁, w₁, hq, .pass (x := .inLoop c) rfl (fun _ _ => .inl (by simp)) harr⟩
      | outgrown => exact ⟨_, a₁, w₁, hq, .pass (x := .inLoop c) rfl (fun _ _ => .inl (by simp)) harr⟩
  obtain ⟨e, a', w', hq, harr⟩ := key _ s0 a w rfl h0 H0
  exact ⟨e, a', w', hq, .of_steps (.one step_loop) harr⟩

/-- A result's slot, read at the end. -/
def RV (P : Program) (L : List (Nat × Value)) (w : World) (r : ResultVar) (v : Value) : Prop :=
  match r with
  | .tmp t => Env.get L t = some v
  | .cell t u => ∃ p, Env.get L t = some (.pointer (some p)) ∧ (loadVar u p).run P w = .ok v w
/-- How one result is read. -/
def resF (tmps : Array Value) (r : ResultVar) : Sem Value :=
  match r with
  | .tmp t => pure (tmps.getD t undef)
  | .cell t u => do loadVar u (← asAddr (tmps.getD t undef))
theorem run_rv {r : ResultVar} {v : Value} (H : Has n ds a L) (h : RV P L w r v) : (resF a.tmps r).run P w = .ok v w := by
  cases r with
  | tmp t =>
    have e := H.eval (x := .tmp t) h
    simp only [Act.eval] at e
    simp only [resF, e, Sem.run_pure]
  | cell t u =>
    obtain ⟨p, h1, h3⟩ := h
    have e := H.eval (x := .tmp t) h1
    simp only [Act.eval] at e
    simp only [resF, e, asAddr, Sem.run_bind, Sem.run_pure, Result.andThen_ok, h3]
theorem results_eq (fn : Func) (tmps : Array Value) : results fn tmps = (do let vs ← fn.results.mapM (resF tmps); pure (if h : vs.size = 1 then vs[0] else .tuple vs)) := by
  unfold results resF
  rfl
section
variable {fn : Func} {R : Ending → World → Prop} {r0 r1 r2 r3 r4 r5 : ResultVar} {v0 v1 v2 v3 v4 v5 : Value}
theorem e_ret0 (H : Has n [] a L) (hf : fn.results = #[]) (h : R (.returned (.tuple #[])) w) : bodyPost P fn R .ret a w :=
  ⟨H.defers, _, by rw [results_eq, hf]; simp, h⟩
theorem e_ret1 (H : Has n [] a L) (hf : fn.results = #[r0]) (h0 : RV P L w r0 v0) (h : R (.returned v0) w) : bodyPost P fn R .ret a w :=
  ⟨H.defers, v0, by rw [results_eq, hf]; simp [run_rv H h0], h⟩
theorem e_ret2 (H : Has n [] a L) (hf : fn.results = #[r0, r1]) (h0 : RV P L w r0 v0) (h1 : RV P L w r1 v1) (h : R (.returned (.tuple #[v0, v1])) w) : bodyPost P fn R .ret a w :=
  ⟨H.defers, _, by rw [results_eq, hf]; simp [run_rv H h0, run_rv H h1], h⟩
theorem e_ret3 (H : Has n [] a L) (hf : fn.results = #[r0, r1, r2]) (h0 : RV P L w r0 v0) (h1 : RV P L w r1 v1) (h2 : RV P L w r2 v2) (h : R (.returned (.tuple #[v0, v1, v2])) w) : bodyPost P fn R .ret a w :=
  ⟨H.defers, _, by rw [results_eq, hf]; simp [run_rv H h0, run_rv H h1, run_rv H h2], h⟩
theorem e_ret4 (H : Has n [] a L) (hf : fn.results = #[r0, r1, r2, r3]) (h0 : RV P L w r0 v0) (h1 : RV P L w r1 v1) (h2 : RV P L w r2 v2) (h3 : RV P L w r3 v3) (h : R (.returned (.tuple #[v0, v1, v2, v3])) w) : bodyPost P fn R .ret a w :=
  ⟨H.defers, _, by rw [results_eq, hf]; simp [run_rv H h0, run_rv H h1, run_rv H h2, run_rv H h3], h⟩
theorem e_ret5 (H : Has n [] a L) (hf : fn.results = #[r0, r1, r2, r3, r4]) (h0 : RV P L w r0 v0) (h1 : RV P L w r1 v1) (h2 : RV P L w r2 v2) (h3 : RV P L w r3 v3) (h4 : RV P L w r4 v4) (h : R (.returned (.tuple #[v0, v1, v2, v3, v4])) w) : bodyPost P fn R .ret a w :=
  ⟨H.defers, _, by rw [results_eq, hf]; simp [run_rv H h0, run_rv H h1, run_rv H h2, run_rv H h3, run_rv H h4], h⟩
theorem e_ret6 (H : Has n [] a L) (hf : fn.results = #[r0, r1, r2, r3, r4, r5]) (h0 : RV P L w r0 v0) (h1 : RV P L w r1 v1) (h2 : RV P L w r2 v2) (h3 : RV P L w r3 v3) (h4 : RV P L w r4 v4) (h5 : RV P L w r5 v5) (h : R (.returned (.tuple #[v0, v1, v2, v3, v4, v5])) w) : bodyPost P fn R .ret a w :=
  ⟨H.defers, _, by rw [results_eq, hf]; simp [run_rv H h0, run_rv H h1, run_rv H h2, run_rv H h3, run_rv H h4, run_rv H h5], h⟩
/-- The body's end without a return: no results. -/
theorem e_end (h : bodyPost P fn R .ret a w) : bodyPost P fn R .normal a w := h
theorem e_panic {c : List PanicEntry} (H : Has n [] a L) (h : R (.panicked c) w) : bodyPost P fn R (.panic c) a w := ⟨H.defers, h⟩
end
end

/-! ## Small words of the machine-made proofs -/
theorem lt_ {d n : Nat} (h : Nat.ble (d + 1) n = true) : d < n := Nat.le_of_ble_eq_true h
theorem Has.args {n : Nat} {ds : List Deferred} {a : Act} {L : List (Nat × Value)} (H : Has n ds a L) {xs : List Operand} : {vs : List Value} → (h : xs.map (ev L) = vs.map some) → xs.toArray.map a.eval = vs.toArray := by
  induction xs with
  | nil => intro vs h; cases vs <;> simp_all
  | cons x xs ih =>
    intro vs h
    cases vs with
    | nil => simp at h
    | cons v vs =>
      simp only [List.map_cons, List.cons.injEq] at h
      have e1 := H.eval h.1
      have e2 := ih h.2
      simp only [List.map_toArray, List.map_cons, e1] at e2 ⊢
      have e3 : xs.map a.eval = vs := by simpa using congrArg Array.toList e2
      rw [e3]
theorem Has.parts {n : Nat} {ds : List Deferred} {a : Act} {L : List (Nat × Value)} (H : Has n ds a L) {xs : List (Nat × Operand)} : {vs : List (Nat × Value)} → (h : xs.map (fun z => (z.1, ev L z.2)) = vs.map (fun z => (z.1, some z.2))) →
    (xs.toArray.map fun (i, x) => (i, a.eval x)) = vs.toArray := by
  induction xs with
  | nil => intro vs h; cases vs <;> simp_all
  | cons x xs ih =>
    intro vs h
    cases vs with
    | nil => simp at h
    | cons v vs =>
      simp only [List.map_cons, List.cons.injEq, Prod.mk.injEq] at h
      have e1 := H.eval h.1.2
      have e2 := ih h.2
      simp only [List.map_toArray, List.map_cons, e1, h.1.1] at e2 ⊢
      have e3 : (xs.map fun (i, x) => (i, a.eval x)) = vs := by simpa using congrArg Array.toList e2
      rw [e3]
/-- The world behind a new row, under a name. -/
structure NewBlk (w : World) (cs : Array Value) (e : TypeId) (b : Nat) (w1 : World) : Prop where
  at_ : b = w.heap.size
  is : w1 = w.alloc (.cells cs e)
theorem New.get {w : World} {cs : Array Value} {e : TypeId} {K : Nat → World → Prop} (h : New w cs e K) : ∃ b w1, NewBlk w cs e b w1 ∧ K b w1 := ⟨_, _, ⟨rfl, rfl⟩, h⟩
theorem New.intro {w : World} {cs : Array Value} {e : TypeId} {K : Nat → World → Prop} (h : ∀ b w1, NewBlk w cs e b w1 → K b w1) : New w cs e K := h _ _ ⟨rfl, rfl⟩
theorem NewBlk.heap {w w1 : World} {cs : Array Value} {e : TypeId} {b : Nat} (h : NewBlk w cs e b w1) : w1.heap[b]? = some (.cells cs e (0, 0)) := by
  rw [h.is, h.at_]; exact heap_alloc_new w _
theorem NewBlk.cell {w w1 : World} {cs : Array Value} {e : TypeId} {b : Nat} (h : NewBlk w cs e b w1) {i : Nat} {v : Value} (hv : cs[i]? = some v) : w1.cell? ⟨b, i, none⟩ = some v :=
  (cell_of_row w1 b i cs e (0, 0) h.heap).trans hv
theorem NewBlk.cellA {w w1 : World} {cs : Array Value} {e : TypeId} {b : Nat} (h : NewBlk w cs e b w1) {i : Nat} {v : Value} (hv : cs[i]? = some v) : w1.cell? ((⟨b, 0, none⟩ : Addr).add i) = some v := by
  rw [show (⟨b, 0, none⟩ : Addr).add i = ⟨b, i, none⟩ by unfold Addr.add; split <;> simp_all]
  exact h.cell hv
theorem NewBlk.old {w w1 : World} {cs : Array Value} {e : TypeId} {b : Nat} (h : NewBlk w cs e b w1) {p : Addr} {v : Value} (hv : w.cell? p = some v) : w1.cell? p = some v := by
  rw [h.is, World.cell?_alloc_lt w _ p (World.block_lt_of_cell? w p hv)]; exact hv
theorem cell_set {w : World} {p : Addr} {v : Value} (h : (w.cell? p).isSome = true) : (w.setCell p v).cell? p = some v := World.cell?_setCell_same' w p v h
theorem cell_off {w : World} {b i j : Nat} {v u : Value} (h : w.cell? ⟨b, i, none⟩ = some u) (hne : Nat.beq i j = false) : (w.setCell ⟨b, j, none⟩ v).cell? ⟨b, i, none⟩ = some u := by
  rw [World.cell?_setCell_other w _ _ _ (fun e => by
    injection e with _ e2
    rw [e2, Nat.beq_refl] at hne
    exact absurd hne (by decide))]
  exact h

theorem Has.ch {n : Nat} {ds : List Deferred} {a : Act} {L : List (Nat × Value)} (H : Has n ds a L) {t : Nat} {c b : Bool} (hg : Env.get L t = some (.bool c)) (hc : c = b) : Has n ds a ((t, .bool b) :: L) := by
  refine ⟨H.size, H.defers, ?_⟩
  intro u v hv
  simp only [Env.get] at hv
  cases hb : Nat.beq t u with
  | true =>
    rw [hb] at hv
    simp only [cond_true, Option.some.injEq] at hv
    subst hv
    rw [← Nat.eq_of_beq_eq_true hb, ← hc]
    exact H.get t _ hg
  | false =>
    rw [hb] at hv
    exact H.get u v hv
theorem wantU {ops : Array Oper} {a : Act} {n : Nat} {ds : List Deferred} {L : List (Nat × Value)} {ty : TypeId} {pos : String} {af : Array Edge} {j t : Nat} {c : Bool} {dst : Option Tmp} {op : Op}
    (H : Has n ds a L) (ht : (ops[j]?).bind (·.dst) = some t) (hb : Env.get L t = some undef) : Region.wanted ⟨dst, op, ty, pos, af, some (j, c)⟩ (yielded ops a.tmps) = false := by
  have h := H.get t _ hb
  have e : yielded ops a.tmps j = none := by
    unfold yielded
    rw [ht]
    simp only [Option.bind_some, h, undef]
  simp [Region.wanted, e]
/-- What is left of a list behind its first m. -/
inductive Tail {α : Type} : Nat → List α → List α → Prop
  | zero (l : List α) : Tail 0 l l
  | succ {m : Nat} {x : α} {l r : List α} (h : Tail m l r) : Tail (m + 1) (x :: l) r
theorem g_join {P : Program} {ops : Array Oper} {Q : Exit → Act → World → Prop} {a : Act} {w : World} {n m : Nat} {l rest : List Oper} (L' : List (Nat × Value)) (_hm : Tail m l rest)
    (h1 : (∀ a, Has n [] a L' → wpList P ops Q rest a w) → wpList P ops Q l a w) (h2 : ∀ a, Has n [] a L' → wpList P ops Q rest a w) : wpList P ops Q l a w := h1 h2
theorem g_joinW {P : Program} {ops : Array Oper} {Q : Exit → Act → World → Prop} {a : Act} {w : World} {n m : Nat} {l rest : List Oper} (R : Bool → World → Prop) (L' : Bool → List (Nat × Value)) (_hm : Tail m l rest)
    (h1 : (∀ a x w, R x w → Has n [] a (L' x) → wpList P ops Q rest a w) → wpList P ops Q l a w) (h2 : ∀ a x w, R x w → Has n [] a (L' x) → wpList P ops Q rest a w) : wpList P ops Q l a w := h1 h2
theorem zg_join {P : Program} {ops : Array Oper} {C : World → Prop} {Z : Act → Prop} {a : Act} {n m : Nat} {l rest : List Oper} (L' : List (Nat × Value)) (_hm : Tail m l rest)
    (h1 : (∀ a, Has n [] a L' → wpQuiet P ops C Z rest a) → wpQuiet P ops C Z l a) (h2 : ∀ a, Has n [] a L' → wpQuiet P ops C Z rest a) : wpQuiet P ops C Z l a := h1 h2
/-- A region that draws its order and only reads. -/
theorem c_regD {P : Program} {Q : Exit → Act → World → Prop} {a : Act} {w : World} {id : Nat} {l : List Oper} (hm : P.follows .mixedOrders = true) (hB : Region.lexB .any l.toArray = true)
    (h : wpQuiet P l.toArray (fun w' => ∃ n, w' = w.drewN n) (fun a' => ∀ w', (∃ n, w' = w.drewN n) → Q .normal a' w') l a) : (Code.region id l.toArray true).wp P Q a w := wp_region_quiet_lit hm hB h
theorem NewBlk.go {P : Program} {ops : Array Oper} {Q : Exit → Act → World → Prop} {a : Act} {rest : List Oper} {w w1 : World} {cs : Array Value} {e : TypeId} {b : Nat} (h : NewBlk w cs e b w1)
    (hf : wpList P ops Q rest a w1) : wpList P ops Q rest a (w.alloc (.cells cs e)) := by rw [← h.is]; exact hf
abbrev blk (b : Nat) : Addr := ⟨b, 0, none⟩
/-- The world behind a store, under a name. -/
structure SetAt (w : World) (p : Addr) (v : Value) (w1 : World) : Prop where
  is : w1 = w.setCell p v
theorem SetAt.off {w w1 : World} {b i j : Nat} {v u : Value} (h : SetAt w ⟨b, j, none⟩ v w1) (hc : w.cell? ⟨b, i, none⟩ = some u) (hne : Nat.beq i j = false) : w1.cell? ⟨b, i, none⟩ = some u := by
  rw [h.is]; exact cell_off hc hne

/-! ## == of structs -/
def QE (P : Program) (n : Nat) (t : TypeId) (x y : Value) (r : Bool) : Prop := ∀ (d : Nat) (w : World), (Op.equalIn (d + n) t x y).run P w = .ok r w
def QF (P : Program) (n : Nat) (fs : List Field) (xs ys : Array Value) (r : Bool) : Prop := ∀ (d : Nat) (w : World), (Op.eqFields (d + n) xs ys fs).run P w = .ok r w
theorem q_int {P : Program} {n : Nat} {t : TypeId} {k : IntKind} {a b : Int} (h : intB P t k = true) : QE P (n + 1) t (.int k a) (.int k b) (decide (a = b)) := by
  intro d w
  unfold intB at h
  cases hu : P.underlying t with
  | none => simp [hu] at h
  | some u =>
    cases u <;> simp only [hu] at h <;> first | (exact absurd h Bool.false_ne_true) | skip
    exact run_equalIn_int w (d + n) t k _ a b hu
theorem q_str {P : Program} {n : Nat} {t : TypeId} {a b : ByteArray} (h : strB P t = true) : QE P (n + 1) t (.string a) (.string b) (decide (a.toList = b.toList)) := by
  intro d w
  unfold strB at h
  cases hu : P.underlying t with
  | none => simp [hu] at h
  | some u =>
    cases u <;> simp only [hu] at h <;> first | (exact absurd h Bool.false_ne_true) | skip
    have e := run_equalIn_string w (d + n) t a b hu
    rw [show d + (n + 1) = d + n + 1 from rfl, e]
    by_cases hab : a.toList = b.toList <;> simp [hab]
theorem q_bool {P : Program} {n : Nat} {t : TypeId} {a b : Bool} (h : (match P.underlying t with | some .bool => true | _ => false) = true) : QE P (n + 1) t (.bool a) (.bool b) (decide (a = b)) := by
  intro d w
  cases hu : P.underlying t with
  | none => simp [hu] at h
  | some u =>
    cases u <;> simp only [hu] at h <;> first | (exact absurd h Bool.false_ne_true) | skip
    exact run_equalIn_bool' w (d + n) t a b hu
theorem q_struct {P : Program} {n : Nat} {t : TypeId} {fs : Array Field} {xs ys : Array Value} {r : Bool} (hu : P.underlying t = some (.struct fs)) (hp : P.stoodInHeld t = false) (h : QF P n fs.toList xs ys r) : QE P (n + 1) t (.agg xs) (.agg ys) r := by
  intro d w
  have hf : P.fieldsOf t = fs := by simp [Program.fieldsOf, hu]
  rw [show d + (n + 1) = d + n + 1 from rfl, run_equalIn_struct (P := P) w (d + n) t xs ys (by rw [hf]; exact hu) hp, hf]
  exact h d w
theorem qf_last {P : Program} {n : Nat} {f : Field} {xs ys : Array Value} {a b : Value} {r : Bool} (hn : (f.name == "_") = false) (ha : ∀ w, (part f.type xs f.offset).run P w = .ok a w) (hb : ∀ w, (part f.type ys f.offset).run P w = .ok b w)
    (he : QE P n f.type a b r) : QF P n [f] xs ys r := by
  intro d w
  have hn' : f.name ≠ "_" := by simpa using hn
  simp only [Op.eqFields, if_pos hn', Sem.run_bind, ha, hb, he d, Result.andThen_ok]
  cases r <;> simp
theorem qf_cons {P : Program} {n : Nat} {f : Field} {fs : List Field} {xs ys : Array Value} {a b : Value} {r s : Bool} (hn : (f.name == "_") = false) (ha : ∀ w, (part f.type xs f.offset).run P w = .ok a w) (hb : ∀ w, (part f.type ys f.offset).run P w = .ok b w)
    (he : QE P n f.type a b r) (hr : QF P n fs xs ys s) : QF P n (f :: fs) xs ys (r && s) := by
  intro d w
  have hn' : f.name ≠ "_" := by simpa using hn
  rw [Op.eqFields]
  simp only [if_pos hn', Sem.run_bind, ha, hb, he d, Result.andThen_ok]
  cases r
  · simp
  · simpa using hr d w
theorem p_one {P : Program} {t : TypeId} {cs : Array Value} {off : Nat} {v : Value} (h : oneB P t = true) (hv : cs[off]? = some v) (w : World) : (part t cs off).run P w = .ok v w := by
  simp [part, isAgg_one h, hv]
theorem p_agg {P : Program} {t : TypeId} {cs l : Array Value} {off m : Nat} (h : aggB P t m = true) (hv : cs.extract off (off + m) = l) (w : World) : (part t cs off).run P w = .ok (.agg l) w := by
  obtain ⟨e3, e4⟩ := isAgg_agg (w := w) h
  simp [part, e3, e4, hv]
theorem r_eqst {P : Program} {t : TypeId} {x y : Operand} {xs ys : Array Value} {r : Bool} {n : Nat} (hm : P.eqGuardType P.depth t = false) (h : QE P n t (.agg xs) (.agg ys) r) (hn : Nat.ble n 10000 = true) : RB P .eql t x y (.agg xs) (.agg ys) (.bool r) := by
  intro w
  have e := h (10000 - n) w
  rw [Nat.sub_add_cancel (Nat.le_of_ble_eq_true hn)] at e
  rw [Sem.run_bind, run_eqGuard_agg (P := P) w .eql t x y xs ys hm, Result.andThen_ok, run_eql_struct, e]
  rfl
theorem r_nest {P : Program} {t : TypeId} {x y : Operand} {xs ys : Array Value} {r : Bool} {n : Nat} (hm : P.eqGuardType P.depth t = false) (h : QE P n t (.agg xs) (.agg ys) r) (hn : Nat.ble n 10000 = true) : RB P .neq t x y (.agg xs) (.agg ys) (.bool (!r)) := by
  intro w
  have e := h (10000 - n) w
  rw [Nat.sub_add_cancel (Nat.le_of_ble_eq_true hn)] at e
  rw [Sem.run_bind, run_eqGuard_agg (P := P) w .neq t x y xs ys hm, Result.andThen_ok, run_neq_struct, e]
  rfl

/-! ## What pure operations come to -/
section
variable {P : Program} {t : TypeId} {x y : Operand} {k k' : IntKind} {a b : Int} {s u : ByteArray} {p q : Option Addr} {c d : Bool}
theorem r_add : RB P .add t x y (.int k a) (.int k b) (.int k (wr k (a + b))) := fun w => by simp [binOp, eqGuard, Op.intArith, wr]
theorem r_sub : RB P .sub t x y (.int k a) (.int k b) (.int k (wr k (a - b))) := fun w => by simp [binOp, eqGuard, Op.intArith, wr]
theorem r_mul : RB P .mul t x y (.int k a) (.int k b) (.int k (wr k (a * b))) := fun w => by simp [binOp, eqGuard, Op.intArith, wr]
theorem r_quo (h : b ≠ 0) : RB P .quo t x y (.int k a) (.int k b) (.int k (wr k (a.tdiv b))) := fun w => by simp [binOp, eqGuard, Op.intDiv, wr, h]
theorem r_rem (h : b ≠ 0) : RB P .rem t x y (.int k a) (.int k b) (.int k (a.tmod b)) := fun w => by simp [binOp, eqGuard, Op.intDiv, h]
theorem r_and : RB P .and t x y (.int k a) (.int k b) (.int k (andI k a b)) := fun w => by simp [binOp, eqGuard, Op.intBits, andI]
theorem r_or : RB P .or t x y (.int k a) (.int k b) (.int k (orI k a b)) := fun w => by simp [binOp, eqGuard, Op.intBits, orI]
theorem r_xor : RB P .xor t x y (.int k a) (.int k b) (.int k (xorI k a b)) := fun w => by simp [binOp, eqGuard, Op.intBits, xorI]
theorem r_andNot : RB P .andNot t x y (.int k a) (.int k b) (.int k (andNotI k a b)) := fun w => by simp [binOp, eqGuard, Op.intBits, andNotI]
theorem r_shl (h : 0 ≤ b) : RB P .shl t x y (.int k a) (.int k' b) (.int k (shlI k a b)) := fun w => by
  have : ¬ b < 0 := by omega
  simp [binOp, eqGuard, Op.shift, shlI, this]
theorem r_shr (h : 0 ≤ b) : RB P .shr t x y (.int k a) (.int k' b) (.int k (shrI k a b)) := fun w => by
  have : ¬ b < 0 := by omega
  simp [binOp, eqGuard, Op.shift, shrI, this]
theorem r_lss : RB P .lss t x y (.int k a) (.int k b) (.bool (decide (a < b))) := fun w => by simp [binOp, eqGuard, Op.intCmp]
theorem r_leq : RB P .leq t x y (.int k a) (.int k b) (.bool (decide (a ≤ b))) := fun w => by simp [binOp, eqGuard, Op.intCmp]
theorem r_gtr : RB P .gtr t x y (.int k a) (.int k b) (.bool (decide (b < a))) := fun w => by simp [binOp, eqGuard, Op.intCmp]
theorem r_geq : RB P .geq t x y (.int k a) (.int k b) (.bool (decide (b ≤ a))) := fun w => by simp [binOp, eqGuard, Op.intCmp]
theorem r_eql : RB P .eql t x y (.int k a) (.int k b) (.bool (decide (a = b))) := fun w => by simp [binOp, eqGuard_at_int, Op.intCmp]; rfl
theorem r_neq : RB P .neq t x y (.int k a) (.int k b) (.bool (decide (a ≠ b))) := fun w => by simp [binOp, eqGuard_at_int, Op.intCmp, bne]; rfl
theorem r_eqlS : RB P .eql t x y (.string s) (.string u) (.bool (decide (s.toList = u.toList))) := fun w => by
  have e : (s.toList == u.toList) = decide (s.toList = u.toList) := by by_cases h : s.toList = u.toList <;> simp [h]
  simp [binOp, eqGuard_at_string, Op.stringOp, e]
theorem r_neqS : RB P .neq t x y (.string s) (.string u) (.bool (decide (s.toList ≠ u.toList))) := fun w => by
  have e : (!(s.toList == u.toList)) = decide (s.toList ≠ u.toList) := by by_cases h : s.toList = u.toList <;> simp [h]
  simp only [binOp, eqGuard_at_string, Op.stringOp, e]
  simp
theorem r_lssS : RB P .lss t x y (.string s) (.string u) (.bool (Op.bytesLess s.toList u.toList)) := fun w => by
  simp [binOp, eqGuard, Op.stringOp]
theorem r_addS (h : s.size + u.size ≤ 9223372036854775807) : RB P .add t x y (.string s) (.string u) (.string (s ++ u)) := fun w => by
  have e : ¬ ((s.size + u.size : Nat) : Int) > IntKind.i64.max := by rw [IntKind.max_i64]; omega
  simp only [binOp, eqGuard_add, Op.stringOp, if_neg e]
  simp
theorem r_eqP0 (h : ptrB P t = true) : RB P .eql t x y (.pointer p) (.pointer none) (.bool p.isNone) := fun w => by
  unfold ptrB at h
  cases hu : P.underlying t with
  | none => simp [hu] at h
  | some ud =>
    cases ud <;> simp only [hu] at h <;> first | (exact absurd h Bool.false_ne_true) | skip
    have e : ∀ (dd : Nat) w, (Op.equalIn (dd + 1) t (.pointer p) (.pointer none)).run P w = .ok p.isNone w := fun dd w => by
      cases p <;> simp [Op.equalIn, run_underlying hu]
    simp only [binOp, eqGuard_at_pointer]
    simp [Op.equal, Op.maxDepth, e 9999]
theorem r_neP0 (h : ptrB P t = true) : RB P .neq t x y (.pointer p) (.pointer none) (.bool p.isSome) := fun w => by
  unfold ptrB at h
  cases hu : P.underlying t with
  | none => simp [hu] at h
  | some ud =>
    cases ud <;> simp only [hu] at h <;> first | (exact absurd h Bool.false_ne_true) | skip
    have e : ∀ (dd : Nat) w, (Op.equalIn (dd + 1) t (.pointer p) (.pointer none)).run P w = .ok p.isNone w := fun dd w => by
      cases p <;> simp [Op.equalIn, run_underlying hu]
    simp only [binOp, eqGuard_at_pointer]
    simp [Op.equal, Op.maxDepth, e 9999]
theorem eqGuard_nilc {op : BinOp} {t : TypeId} {x : Operand} {c : Value} {v : Value} {b : Bool} (hz : NilI v b) : eqGuard op t x (.const c) v .nilIface = pure () := by
  rcases hz with ⟨rfl, rfl⟩ | ⟨⟨u, y, rfl⟩, rfl⟩
  · cases op <;> cases x <;> rfl
  · cases op <;> rfl
theorem r_eqN {c : Value} {v : Value} {b : Bool} (h : ifcB P t = true) (hz : NilI v b) : RB P .eql t x (.const c) v .nilIface (.bool b) := fun w => by
  unfold ifcB at h
  cases hu : P.underlying t with
  | none => simp [hu] at h
  | some ud =>
    cases ud <;> simp only [hu] at h <;> first | (exact absurd h Bool.false_ne_true) | skip
    have e : ∀ (dd : Nat) w, (Op.equalIn (dd + 1) t v .nilIface).run P w = .ok b w := fun dd w => by
      rcases hz with ⟨rfl, rfl⟩ | ⟨⟨u, y, rfl⟩, rfl⟩ <;> simp [Op.equalIn, run_underlying hu]
    simp only [binOp, eqGuard_nilc hz]
    rcases hz with ⟨rfl, rfl⟩ | ⟨⟨u, y, rfl⟩, rfl⟩ <;> simp [Op.equal, Op.maxDepth, e 9999]
theorem r_neN {c : Value} {v : Value} {b : Bool} (h : ifcB P t = true) (hz : NilI v b) : RB P .neq t x (.const c) v .nilIface (.bool (!b)) := fun w => by
  unfold ifcB at h
  cases hu : P.underlying t with
  | none => simp [hu] at h
  | some ud =>
    cases ud <;> simp only [hu] at h <;> first | (exact absurd h Bool.false_ne_true) | skip
    have e : ∀ (dd : Nat) w, (Op.equalIn (dd + 1) t v .nilIface).run P w = .ok b w := fun dd w => by
      rcases hz with ⟨rfl, rfl⟩ | ⟨⟨u, y, rfl⟩, rfl⟩ <;> simp [Op.equalIn, run_underlying hu]
    simp only [binOp, eqGuard_nilc hz]
    rcases hz with ⟨rfl, rfl⟩ | ⟨⟨u, y, rfl⟩, rfl⟩ <;> simp [Op.equal, Op.maxDepth, e 9999]
theorem r_eqM0 {m : Option Nat} (h : isMapB P t = true) : RB P .eql t x y (.map m) (.map none) (.bool m.isNone) := fun w => by
  unfold isMapB at h
  cases hu : P.underlying t with
  | none => simp [hu] at h
  | some ud =>
    cases ud <;> simp only [hu] at h <;> first | (exact absurd h Bool.false_ne_true) | skip
    have e : ∀ (dd : Nat) w, (Op.equalIn (dd + 1) t (.map m) (.map none)).run P w = .ok m.isNone w := fun dd w => by
      cases m <;> simp [Op.equalIn, run_underlying hu]
    have e2 : ∀ w, (Op.equal t (.map m) (.map none)).run P w = .ok m.isNone w := fun w => e 9999 w
    simp [binOp, eqGuard, e2]
theorem r_neM0 {m : Option Nat} (h : isMapB P t = true) : RB P .neq t x y (.map m) (.map none) (.bool m.isSome) := fun w => by
  unfold isMapB at h
  cases hu : P.underlying t with
  | none => simp [hu] at h
  | some ud =>
    cases ud <;> simp only [hu] at h <;> first | (exact absurd h Bool.false_ne_true) | skip
    have e : ∀ (dd : Nat) w, (Op.equalIn (dd + 1) t (.map m) (.map none)).run P w = .ok m.isNone w := fun dd w => by
      cases m <;> simp [Op.equalIn, run_underlying hu]
    have e2 : ∀ w, (Op.equal t (.map m) (.map none)).run P w = .ok m.isNone w := fun w => e 9999 w
    simp [binOp, eqGuard, e2]
theorem r_eqS0 (h : isSlcB P t = true) {z : Slc} : RB P .eql t x y z.v (.slice none 0 0) (.bool z.a.isNone) := fun w => by
  unfold isSlcB at h
  cases hu : P.underlying t with
  | none => simp [hu] at h
  | some ud =>
    cases ud <;> simp only [hu] at h <;> first | (exact absurd h Bool.false_ne_true) | skip
    have e : ∀ (dd : Nat) w, (Op.equalIn (dd + 1) t z.v (.slice none 0 0)).run P w = .ok z.a.isNone w := fun dd w => by
      obtain ⟨p, l, c⟩ := z; cases p <;> simp [Op.equalIn, run_underlying hu]
    simp only [binOp, eqGuard_at_slice]
    simp [Op.equal, Op.maxDepth, e 9999]
theorem r_neS0 (h : isSlcB P t = true) {z : Slc} : RB P .neq t x y z.v (.slice none 0 0) (.bool z.a.isSome) := fun w => by
  unfold isSlcB at h
  cases hu : P.underlying t with
  | none => simp [hu] at h
  | some ud =>
    cases ud <;> simp only [hu] at h <;> first | (exact absurd h Bool.false_ne_true) | skip
    have e : ∀ (dd : Nat) w, (Op.equalIn (dd + 1) t z.v (.slice none 0 0)).run P w = .ok z.a.isNone w := fun dd w => by
      obtain ⟨p, l, c⟩ := z; cases p <;> simp [Op.equalIn, run_underlying hu]
    simp only [binOp, eqGuard_at_slice]
    simp [Op.equal, Op.maxDepth, e 9999]
theorem boolUnd {w : World} (h : (match P.underlying t with | some .bool => true | _ => false) = true) : (underlying t).run P w = .ok .bool w := by
  cases hu : P.underlying t with
  | none => simp [hu] at h
  | some ud =>
    cases ud <;> simp only [hu] at h <;> first | (exact absurd h Bool.false_ne_true) | skip
    exact run_underlying hu w
def boolB (P : Program) (t : Nat) : Bool := match P.underlying t with | some .bool => true | _ => false
theorem r_eqB (h : boolB P t = true) : RB P .eql t x y (.bool c) (.bool d) (.bool (decide (c = d))) := fun w => by
  have e : ∀ w, (underlying t).run P w = .ok .bool w := fun w => boolUnd h
  have e2 : ∀ (dd : Nat) w, (Op.equalIn (dd + 1) t (.bool c) (.bool d)).run P w = .ok (decide (c = d)) w := fun dd w => by
    simp [Op.equalIn, e]; rfl
  simp only [binOp, eqGuard_at_bool]
  simp [Op.equal, Op.maxDepth, e2 9999]
theorem r_neB (h : boolB P t = true) : RB P .neq t x y (.bool c) (.bool d) (.bool (decide (c ≠ d))) := fun w => by
  have e : ∀ w, (underlying t).run P w = .ok .bool w := fun w => boolUnd h
  have e2 : ∀ (dd : Nat) w, (Op.equalIn (dd + 1) t (.bool c) (.bool d)).run P w = .ok (decide (c = d)) w := fun dd w => by
    simp [Op.equalIn, e]; rfl
  simp only [binOp, eqGuard_at_bool]
  simp [Op.equal, Op.maxDepth, e2 9999]
theorem r_not (w : World) : (Op.unary .not (.bool c)).run P w = .ok (.bool (!c)) w := by simp [Op.unary]
theorem r_neg (w : World) : (Op.unary .neg (.int k a)).run P w = .ok (.int k (wr k (0 - a))) w := by simp [Op.unary, Op.intArith, wr]
theorem r_com (w : World) : (Op.unary .xor (.int k a)).run P w = .ok (.int k (notI k a)) w := by simp [Op.unary, Op.intBits, notI, xorI]
theorem r_cvI {w : World} {t1 t2 : TypeId} (h1 : someB P t1 = true) (h2 : intB P t2 k = true) : (convert t1 t2 (.int k' a)).run P w = .ok (.int k (wr k a)) w := by
  unfold someB at h1
  unfold intB at h2
  cases hu : P.underlying t1 with
  | none => simp [hu] at h1
  | some u1 =>
    cases hv : P.underlying t2 with
    | none => simp [hv] at h2
    | some u2 =>
      cases u2 <;> simp only [hv] at h2 <;> first | (exact absurd h2 Bool.false_ne_true) | skip
      have e := of_decide_eq_true h2
      subst e
      simp [convert, run_underlying hu, run_underlying hv, Conv.intToInt, wr]
theorem r_cvS {w : World} {t1 t2 : TypeId} (h1 : someB P t1 = true) (h2 : strB P t2 = true) : (convert t1 t2 (.string s)).run P w = .ok (.string s) w := by
  unfold someB at h1
  unfold strB at h2
  cases hu : P.underlying t1 with
  | none => simp [hu] at h1
  | some u1 =>
    cases hv : P.underlying t2 with
    | none => simp [hv] at h2
    | some u2 =>
      cases u2 <;> simp only [hv] at h2 <;> first | (exact absurd h2 Bool.false_ne_true) | skip
      cases u1 <;> simp [convert, run_underlying hu, run_underlying hv]
theorem b_lenS {w : World} {ty : TypeId} {cs : Array Bool} {z : Slc} (h : isSlcB P t = true) : (builtin .len #[t] ty cs #[z.v]).run P w = .ok (.value (.int .i64 z.l)) w := by
  unfold isSlcB at h
  cases hu : P.underlying t with
  | none => simp [hu] at h
  | some ud =>
    cases ud <;> simp only [hu] at h <;> first | (exact absurd h Bool.false_ne_true) | skip
    simp [builtin, Builtin.len_, run_underlying hu, goInt]
theorem b_lenT {w : World} {ty : TypeId} {cs : Array Bool} (h : strB P t = true) : (builtin .len #[t] ty cs #[.string s]).run P w = .ok (.value (.int .i64 s.size)) w := by
  unfold strB at h
  cases hu : P.underlying t with
  | none => simp [hu] at h
  | some ud =>
    cases ud <;> simp only [hu] at h <;> first | (exact absurd h Bool.false_ne_true) | skip
    simp [builtin, Builtin.len_, run_underlying hu, goInt]
def minI (a b : Int) : Int := if b < a then b else a
def maxI (a b : Int) : Int := if b > a then b else a
theorem b_capS {w : World} {ty : TypeId} {cs : Array Bool} {z : Slc} (h : isSlcB P t = true) : (builtin .cap #[t] ty cs #[z.v]).run P w = .ok (.value (.int .i64 z.c)) w := by
  unfold isSlcB at h
  cases hu : P.underlying t with
  | none => simp [hu] at h
  | some ud =>
    cases ud <;> simp only [hu] at h <;> first | (exact absurd h Bool.false_ne_true) | skip
    simp [builtin, Builtin.cap_, run_underlying hu, goInt]
theorem b_min {w : World} {ats : Array TypeId} {ty : TypeId} {cs : Array Bool} : (builtin .min ats ty cs #[.int k a, .int k b]).run P w = .ok (.value (.int k (minI a b))) w := by
  simp [builtin, Builtin.min_, Builtin.min2, minI]
theorem b_max {w : World} {ats : Array TypeId} {ty : TypeId} {cs : Array Bool} : (builtin .max ats ty cs #[.int k a, .int k b]).run P w = .ok (.value (.int k (maxI a b))) w := by
  simp [builtin, Builtin.max_, Builtin.max2, maxI]
theorem b_app {w w' : World} {t1 t2 ty : TypeId} {cs : Array Bool} {vx vy : Value} {z : Slc} (h : (Builtin.append_ #[t1, t2] ty #[vx, vy]).run P w = .ok z.v w') : (builtin .append #[t1, t2] ty cs #[vx, vy]).run P w = .ok (.value z.v) w' := by
  simp [builtin, h]
theorem b_dlt {w w' : World} {t1 t2 ty : TypeId} {cs : Array Bool} {vx vy : Value} (h : (Builtin.delete_ #[t1, t2] ty #[vx, vy]).run P w = .ok (.tuple #[]) w') : (builtin .delete #[t1, t2] ty cs #[vx, vy]).run P w = .ok (.value (.tuple #[])) w' := by
  simp [builtin, h]
theorem b_cpy {w w' : World} {t1 t2 ty : TypeId} {cs : Array Bool} {vx vy : Value} (h : (Builtin.copy_ #[t1, t2] ty #[vx, vy]).run P w = .ok (.int .i64 a) w') : (builtin .copy #[t1, t2] ty cs #[vx, vy]).run P w = .ok (.value (.int .i64 a)) w' := by
  simp [builtin, h]
theorem r_sliceStr {w : World} {lo hi : Option (IntKind × Int)} {l h : Int} (hs : strB P t = true) (hl : (lo.map fun z => z.2).getD (0 : Int) = l) (hh : (hi.map fun z => z.2).getD (s.size : Int) = h) (h0 : 0 ≤ l) (h1 : l ≤ h) (h2 : h ≤ s.size) :
    (Instr.sliceAt t (.string s) (lo.map fun z => .int z.1 z.2) (hi.map fun z => .int z.1 z.2) none).run P w = .ok (.string (s.extract l.toNat h.toNat)) w := by
  unfold strB at hs
  cases hu : P.underlying t with
  | none => simp [hu] at hs
  | some ud =>
    cases ud <;> simp only [hu] at hs <;> first | (exact absurd hs Bool.false_ne_true) | skip
    have h3 : 0 ≤ h := by omega
    cases lo <;> cases hi <;> simp at hl hh <;> subst hl <;> subst hh <;>
      simp [Instr.sliceAt, Instr.slice, Instr.sliceBounds, Instr.sliceBound, asIntOf, run_underlying hu, h0, h1, h2, h3] <;> (try omega)
theorem r_sliceSlc {w : World} {z : Slc} {size : Nat} {lo hi : Option (IntKind × Int)} {l h : Int} (hs : slcB P t size = true) (hl : (lo.map fun z => z.2).getD (0 : Int) = l) (hh : (hi.map fun z => z.2).getD (z.l : Int) = h) (h0 : 0 ≤ l) (h1 : l ≤ h) (h2 : h ≤ z.c) :
    (Instr.sliceAt t z.v (lo.map fun z => .int z.1 z.2) (hi.map fun z => .int z.1 z.2) none).run P w = .ok (z.cut size l.toNat h.toNat).v w := by
  unfold slcB at hs
  cases hu : P.underlying t with
  | none => simp [hu] at hs
  | some ud =>
    cases ud <;> simp only [hu] at hs <;> first | (exact absurd hs Bool.false_ne_true) | skip
    rename_i e
    cases hi' : P.info? e with
    | none => simp [hi'] at hs
    | some j =>
      simp only [hi'] at hs
      have e1 := Nat.eq_of_beq_eq_true hs
      have h3 : 0 ≤ h := by omega
      cases lo <;> cases hi <;> simp at hl hh <;> subst hl <;> subst hh <;>
        simp [Instr.sliceAt, Instr.slice, Instr.sliceBounds, Instr.sliceBound, asIntOf, run_underlying hu, sizeOf, typeInfo, program, Sem.run, hi', e1, Slc.cut, h0, h1, h2, h3] <;> (try omega)
end
end Go.Vc
