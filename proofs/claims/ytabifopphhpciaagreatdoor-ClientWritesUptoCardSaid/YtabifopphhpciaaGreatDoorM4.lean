/-
  The executor is right: operations that turn the world. Nothing of any program stands here.
-/
import Derived.Test.YtabifopphhpciaaGreatDoorM3
namespace Go.Vc.Ex
open Go Go.Vc
section
variable {P : Program} {f f' : Nat → Option Addr} {g g' : Nat → Nat} {n n' m : Nat} {ds : List Deferred} {a : Act} {s : St} {w w' : World} {its : List (Nat × TypeId)} {d : Option Tmp} {ty : TypeId} {pos : String} {af : Array Edge} {gd : Option (Nat × Bool)} {i : I} {op : Op}
  {ops : Array Oper} {Q' : Exit → Act → World → Prop} {rest : List Oper} {Q : Ending → World → Prop}
def slotS (d : Option Nat) (v : SV) : List (Nat × Value) := match d with | some d => [(d, v.d)] | none => []
structure Turn (f f' : Nat → Option Addr) (g g' : Nat → Nat) (s s' : St) (w : World) (v : SV) : Prop where
  inv : Inv f' g' s' w
  le : s.nx ≤ s'.nx
  E : s'.E = s.E
  f : ∀ j < s.nx, f' j = f j
  g : ∀ j < s.nx, g' j = g j
  v : v.ok f' g' s'.nx
theorem Turn.wr (I : Inv f g s w) {v : SV} (hn : s.nx ≤ n') (hf : ∀ j < s.nx, f' j = f j) (hg : ∀ j < s.nx, g' j = g j) (hv : v.ok f' g' n') : Turn f f' g g' s (s.wr.up n') w' v :=
  ⟨⟨fun z hz => (I.E z hz).mono hf hg hn, fun z hz => by simp [St.wr, St.up] at hz⟩, hn, rfl, hf, hg, hv⟩
theorem Turn.wr0 (I : Inv f g s w) {v : SV} (hv : v.ok f g s.nx) : Turn f f g g s s.wr w' v := .wr I (Nat.le_refl _) (fun _ _ => rfl) (fun _ _ => rfl) hv
theorem Turn.new (I : Inv f g s w) {cs : List Lf} {t : TypeId} (hc : ∀ x ∈ cs, Lf.ok f g s.nx x) {v : SV} (hv : v.ok f (upd g s.nx w.heap.size) (s.nx + 1)) :
    Turn f f g (upd g s.nx w.heap.size) s (s.new cs) (w.alloc (.cells (cs.map Lf.d).toArray t)) v := by
  have hg : ∀ j < s.nx, upd g s.nx w.heap.size j = g j := fun j hj => upd_lt hj
  have nb : NewBlk w (cs.map Lf.d).toArray t w.heap.size (w.alloc (.cells (cs.map Lf.d).toArray t)) := ⟨rfl, rfl⟩
  refine ⟨⟨fun z hz => (I.E z hz).mono (fun _ _ => rfl) hg (Nat.le_succ _), fun z hz => ?_⟩, Nat.le_succ _, rfl, fun _ _ => rfl, hg, hv⟩
  rcases List.mem_append.1 hz with hz | hz
  · obtain ⟨y, hy, rfl⟩ := List.mem_map.1 hz
    obtain ⟨x, k⟩ := y
    have h1 := List.mem_zipIdx hy
    have hk : cs[k]? = some x := by
      have h3 : k < cs.length := by have := h1.2.1; omega
      rw [List.getElem?_eq_getElem h3]
      have := h1.2.2
      simp only [Nat.sub_zero] at this
      rw [this]
    refine ⟨(hc x (List.mem_of_getElem? hk)).mono (fun _ _ => rfl) hg (Nat.le_succ _), Nat.lt_succ_self _, ?_⟩
    show World.cell? _ ⟨upd g s.nx w.heap.size s.nx, k, none⟩ = some x.d
    rw [upd_at]
    exact nb.cell (by simp [hk])
  · obtain ⟨h1, h2, h3⟩ := I.kn z hz
    refine ⟨h1.mono (fun _ _ => rfl) hg (Nat.le_succ _), Nat.lt_succ_of_lt h2, ?_⟩
    rw [hg _ h2]
    exact nb.old h3
theorem Turn.wr1 (I : Inv f g s w) {key : Option (Nat × Nat)} {e : Addr} {x : Value} (he : (Lf.a key e).ok f g s.nx) {v : SV} (hv : v.ok f g s.nx) : Turn f f g g s (s.wr1 key) (w.setCell e x) v := by
  cases key with
  | none => exact .wr0 I hv
  | some z =>
    refine ⟨⟨fun z hz => I.E z hz, fun y hy => ?_⟩, Nat.le_refl _, rfl, fun _ _ => rfl, fun _ _ => rfl, hv⟩
    obtain ⟨h1, h2⟩ := List.mem_filter.1 hy
    obtain ⟨h3, h4, h5⟩ := I.kn y h1
    simp only [Bool.and_eq_true, Bool.not_eq_true'] at h2
    refine ⟨h3, h4, ?_⟩
    obtain ⟨h6, h7⟩ := he
    rw [h7]
    have hb := Nat.eq_of_beq_eq_true h2.1
    rw [show g y.1.1 = g z.1 by rw [hb]] at h5 ⊢
    exact cell_off h5 h2.2
theorem flats_ok : ∀ {vs : List Lf} {K : Prop}, flats vs K → (vs.map Lf.d).all Value.flat = true ∧ K
  | [], _, h => ⟨rfl, h⟩
  | x :: r, K, h => by
    cases x with
    | v e =>
      obtain ⟨h1, h2⟩ := h
      obtain ⟨h3, h4⟩ := flats_ok h2
      exact ⟨by simp [Lf.d, h1, h3], h4⟩
    | _ =>
      obtain ⟨h3, h4⟩ := flats_ok (vs := r) (K := K) h
      exact ⟨by simp [Lf.d, h3, Value.flat], h4⟩
theorem rep_flat {α : Type} [Inhabited α] (z : List α) : ∀ n, (List.range (n * z.length)).map (fun i => z.toArray[i % z.toArray.size]!) = (List.replicate n z).flatten
  | 0 => by simp
  | n + 1 => by
    rw [List.replicate_succ, List.flatten_cons, ← rep_flat z n, show (n + 1) * z.length = z.length + n * z.length by rw [Nat.add_mul]; omega, List.range_add, List.map_append, List.map_map]
    congr 1
    · refine List.ext_getElem (by simp) fun i h1 h2 => ?_
      have h3 : i < z.length := by simpa using h1
      simp [Nat.mod_eq_of_lt h3, h3]
    · refine List.map_congr_left fun i _ => ?_
      simp
theorem run_bslice {t e k : Nat} {ps : Array (Nat × Operand)} {z : SV} {zl r : List Lf} (H : Has m ds a (dE s.E)) (hu : P.underlying t = some (.slice e)) (hz : zeroS P e = some z) (hl : lvs z = some zl) (hn : zl.length = szB P e) (hi : (P.info? e).isSome = true) (hb : k * szB P e ≤ 16777216)
    (h : fillS s.E (List.replicate k zl).flatten (ps.toList.map fun q => (q.1 * szB P e, szB P e, q.2)) = some r) :
    (Instr.buildSlice t k (ps.map fun (i, x) => (i, a.eval x))).run P w = .ok (.slice (some ⟨w.heap.size, 0, none⟩) k k) (w.alloc (.cells (r.map Lf.d).toArray e)) := by
  unfold zeroS at hz
  obtain ⟨zv, hz1, hz2⟩ := none_bind hz
  have hzd := (litV_d (f := fun _ => none) (g := id) (n := 0) hz2).1
  have hzr : (zeroValue e).run P w = .ok z.d w := by rw [hzd]; exact run_zero hz1
  have hc := (lvs_d (f := fun _ => none) (g := id) (n := 0) hl).1
  have hps : (Array.map (fun x => match x with | (i, x) => (i, a.eval x)) ps).toList = ps.toList.map fun q => (q.1, a.eval q.2) := by simp
  have h2 := all2_map (e := szB P e) ps.toList
  have h1 := fill_ok (pl := fun i => some (i * szB P e, szB P e)) h h2 (parts_all (r := r) (pl := fun i => some (i * szB P e, szB P e)) H h2 h)
  have hgt : ¬ k * szB P e > 2 ^ 24 := by omega
  unfold Instr.buildSlice
  simp only [Sem.run_bind, und_run hu, run_size hi, Result.andThen_ok, if_neg hgt]
  by_cases h0 : k * szB P e = 0
  · have hf : (List.map Lf.d (List.replicate k zl).flatten).toArray = #[] := by
      rcases Nat.mul_eq_zero.1 h0 with h0 | h0
      · subst h0; simp
      · rw [← hn] at h0; simp [List.length_eq_zero_iff.1 h0]
    rw [hf] at h1
    simp only [h0, if_true, Sem.run_bind, Sem.run_pure, Result.andThen_ok]
    have e0 : ∀ q : Nat → Value, (Array.range 0).map q = #[] := fun q => by simp
    simp only [e0, hps, h1]
    simp [newRow, newObj, Sem.run]
  · have hf : (Array.range (k * szB P e)).map (fun i => z.d.cells[i % z.d.cells.size]!) = (List.map Lf.d (List.replicate k zl).flatten).toArray := by
      have h3 := rep_flat (zl.map Lf.d) k
      rw [hc]
      rw [← hn]
      have h4 : (List.map Lf.d (List.replicate k zl).flatten) = (List.replicate k (zl.map Lf.d)).flatten := by simp [List.map_flatten, List.map_replicate]
      rw [h4, ← h3]
      simp [← Array.toList_inj]
    simp only [h0, if_false, Sem.run_bind, hzr, Sem.run_pure, Result.andThen_ok, hf, hps, h1]
    simp [newRow, newObj, Sem.run]
theorem ret_ok {r : ST} {K : SV → St → World → Prop} {z : Value} (I : Inv f g s w) (h : ret (some r) s K z w') : ∃ v s' f', z = v.d ∧ K v s' w' ∧ Turn f f' g g s s' w' v := by
  obtain ⟨v, n', f', ⟨h1, h2⟩, h3, h4, h5⟩ := exT_el h f
  exact ⟨v, _, f', h1, h2, .wr I h3 h4 (fun _ _ => rfl) (h5 g)⟩
theorem ef_none {K : SV → St → World → Prop} (hi : i.ef = false) (h : ef P Q s w i K) : False := by
  cases i <;> first | (cases hi; done) | exact h
theorem ef_ok {K : SV → St → World → Prop} (hc : cO P its d ty op = some i) (hd : dOk m d = true) (hs : dsB d i = true) (h : ef P Q s w i K) (I : Inv f g s w) (H : Has m ds a (dE s.E))
    (hw : Region.wanted ⟨d, op, ty, pos, af, gd⟩ (yielded ops a.tmps) = true)
    (kk : ∀ v s' w' f' g' a', K v s' w' → Turn f f' g g' s s' w' v → Has m ds a' (slotS d v ++ dE s.E) → wpList P ops Q' rest a' w')
    (kp : ∀ c w' a', Q (.panicked c) w' → Has m ds a' (dE s.E) → Q' (.panic c) a' w') : wpList P ops Q' (⟨d, op, ty, pos, af, gd⟩ :: rest) a w := by
  have hE : ∀ {x : Operand} {y : SV}, ev s.E x = some y → Vc.ev (dE s.E) x = some y.d := fun h => ev_d h
  have hO : ∀ {x : Operand} {y : SV}, ev s.E x = some y → y.ok f g s.nx := fun h => ev_okV I.E h
  cases op with
  | box t x =>
    cases some_inj hc
    cases d with
    | none => cases hs
    | some d =>
    simp only [ef] at h
    split at h
    · rename_i cs hcs
      obtain ⟨v, h1, h2⟩ := none_bind hcs
      have hl := lvs_d (f := f) (g := g) (n := s.nx) h2
      refine s_box H hw (hE h1) (lt_ hd) fun a' H' => ?_
      have e := hl.1
      rw [e]
      exact kk _ _ _ _ _ a' h (.new I (hl.2 (hO h1)) ⟨Nat.lt_succ_self _, by rw [upd_at]⟩) H'
    · exact h.elim
  | alloc t =>
    obtain ⟨z, hz, rfl⟩ := map_some' hc
    cases d with
    | none => cases hs
    | some d =>
    simp only [ef] at h
    split at h
    · rename_i cs hcs
      have hl := lvs_d (f := f) (g := g) (n := s.nx) hcs
      have hz0 := hz
      unfold zeroS at hz0
      obtain ⟨zv, hz1, hz2⟩ := none_bind hz0
      obtain ⟨hz3, hz4⟩ := litV_d (f := f) (g := g) (n := s.nx) hz2
      refine s_alloc (v := z.d) H hw (by unfold zeroB; rw [hz3]; exact hz1) (lt_ hd) fun a' H' => ?_
      rw [hl.1]
      exact kk _ _ _ _ _ a' h (.new I (hl.2 hz4) ⟨Nat.lt_succ_self _, by rw [upd_at]⟩) H'
    · exact h.elim
  | buildSlice t k ps =>
    simp only [cO] at hc
    split at hc
    · rename_i e hu
      split at hc
      · rename_i z hz
        obtain ⟨hb, rfl⟩ := ifs hc
        simp only [Bool.and_eq_true] at hb
        obtain ⟨⟨hb1, hb2⟩, hb3⟩ := hb
        obtain ⟨zs, hz1, hz2⟩ := none_bind hz
        cases d with
        | none => cases hs
        | some d =>
        simp only [ef] at h
        split at h
        · rename_i r hr
          have hz0 := hz1
          unfold zeroS at hz0
          obtain ⟨zv, _, hz3⟩ := none_bind hz0
          have hzok : ∀ x ∈ (List.replicate k z).flatten, Lf.ok f g s.nx x := fun x hx => by
            obtain ⟨l, hl, hx⟩ := List.mem_flatten.1 hx
            rw [(List.mem_replicate.1 hl).2] at hx
            exact (lvs_d hz2).2 (litV_d hz3).2 x hx
          refine s_bslc (cs := (r.map Lf.d).toArray) (e := e) H hw (run_bslice H hu hz1 hz2 (Nat.eq_of_beq_eq_true hb1) hb2 (Nat.le_of_ble_eq_true hb3) hr) (lt_ hd) fun a' H' => ?_
          exact kk _ _ _ _ _ a' h (.new I (fillS_ok I.E hr hzok) trivial) H'
        · exact h.elim
      · cases hc
    · cases hc
  | store t x y =>
    simp only [cO] at hc
    split at hc
    · rename_i h1
      cases some_inj hc
      cases d with
      | some d => cases hs
      | none =>
      simp only [ef] at h
      split at h
      · rename_i key e v h2 h3
        obtain ⟨h4, h5, h6, h7⟩ := flats_ok h
        simp only [List.map_cons, List.map_nil, List.all_cons, List.all_nil, Bool.and_true] at h4
        exact s_sto H hw rfl (hE h2) (hE h3) h1 h4 h5 h6 fun H' => kk _ _ _ _ _ a h7 (.wr1 I (hO h2) trivial) H'
      · exact h.elim
    · split at hc
      · rename_i ls _
        obtain ⟨h1, rfl⟩ := ifs hc
        cases d with
        | some d => cases hs
        | none =>
        simp only [ef] at h
        split at h
        · rename_i key e vs h2 h3
          split at h
          · rename_i hl
            obtain ⟨h4, h5⟩ := flats_ok h
            have hm : (vs.map Lf.d).length = ls.length := by simpa using Nat.eq_of_beq_eq_true hl
            exact s_stoN H hw rfl (hE h2) (hE h3) h1 hm h4 h5 fun w' hk H' => kk _ _ _ _ _ a hk (.wr0 I trivial) H'
          · exact h.elim
        · exact h.elim
      · cases hc
  | makeSlice t x y =>
    cases some_inj hc
    cases d with
    | none => cases hs
    | some d =>
    simp only [ef] at h
    split at h
    · rename_i h1 h2
      obtain ⟨e, w', h3, h⟩ := h
      exact s_mk H hw (hE h1) (hE h2) h3 (lt_ hd) fun a' H' => kk _ _ _ _ _ a' h (.wr0 I trivial) H'
    · exact h.elim
  | convert t u x =>
    simp only [cO] at hc
    split at hc
    · obtain ⟨_, rfl⟩ := ifs hc; exact h.elim
    · obtain ⟨_, rfl⟩ := ifs hc; exact h.elim
    · cases some_inj hc; exact h.elim
    · cases some_inj hc
      cases d with
      | none => cases hs
      | some d =>
      simp only [ef] at h
      split at h
      · rename_i h1
        obtain ⟨e, w', h3, h⟩ := h
        exact s_cv H hw (hE h1) h3 (lt_ hd) fun a' H' => kk _ _ _ _ _ a' h (.wr0 I trivial) H'
      · exact h.elim
    · obtain ⟨htu, rfl⟩ := ifs hc
      subst htu
      cases d with
      | none => cases hs
      | some d =>
      simp only [ef] at h
      split at h
      · rename_i h1
        obtain ⟨w', h3, h⟩ := h
        exact s_cv H hw (hE h1) h3 (lt_ hd) fun a' H' => kk _ _ _ _ _ a' h (.wr0 I (hO h1)) H'
      · exact h.elim
    · cases hc
  | makeMap t r =>
    simp only [cO] at hc
    split at hc
    · cases some_inj hc
      cases d with
      | none => cases hs
      | some d =>
      obtain ⟨q, w', h3, h⟩ := h
      exact s_mkm H hw h3 (lt_ hd) fun a' H' => kk _ _ _ _ _ a' h (.wr0 I trivial) H'
    · cases hc
  | mapUpdate t x y z =>
    cases some_inj hc
    cases d with
    | some d => cases hs
    | none =>
    simp only [ef] at h
    split at h
    · rename_i h1 h2 h3
      obtain ⟨w', h4, h⟩ := h
      exact s_mup H hw (hE h1) (hE h2) (hE h3) h4 fun H' => kk _ _ _ _ _ a h (.wr0 I trivial) H'
    · exact h.elim
  | insert t x y z =>
    cases some_inj hc
    cases d with
    | some d => cases hs
    | none =>
    simp only [ef] at h
    split at h
    · rename_i h1 h2 h3
      obtain ⟨w', h4, h⟩ := h
      exact s_ins H hw (hE h1) (hE h2) (hE h3) h4 fun H' => kk _ _ _ _ _ a h (.wr0 I trivial) H'
    · exact h.elim
  | lookup t x y com =>
    simp only [cO] at hc
    split at hc
    · split at hc
      · cases some_inj hc
        cases d with
        | none => cases hs
        | some d =>
        simp only [ef] at h
        split at h
        · rename_i h1 h2
          obtain ⟨z, h3, h⟩ := h
          obtain ⟨v, n', f', ⟨hz, h'⟩, h4, h5, h6⟩ := exT_el h f
          subst hz
          exact s_lkp H hw (hE h1) (hE h2) h3 (lt_ hd) fun a' H' => kk _ _ _ _ _ a' h' ⟨I.mono h5 h4, h4, rfl, h5, fun _ _ => rfl, h6 g⟩ H'
        · exact h.elim
      · cases hc
    · cases hc
  | range t x =>
    simp only [cO] at hc
    split at hc
    · cases some_inj hc
      cases d with
      | none => cases hs
      | some d =>
      simp only [ef] at h
      split at h
      · rename_i h1
        obtain ⟨it, w', h3, h⟩ := h
        exact s_rng H hw (hE h1) h3 (lt_ hd) fun a' H' => kk _ _ _ _ (upd g s.nx it) a' h (.wr I (Nat.le_succ _) (fun _ _ => rfl) (fun _ hj => upd_lt hj) ⟨Nat.lt_succ_self _, by rw [upd_at]⟩) H'
      · exact h.elim
    · cases hc
  | entry x =>
    have hE' : ∃ r, i = .et x r := by
      simp only [cO] at hc
      repeat' first
        | (cases some_inj hc; exact ⟨_, rfl⟩)
        | (cases hc; done)
        | split at hc
    obtain ⟨r, rfl⟩ := hE'
    cases d with
    | none => cases hs
    | some d =>
    simp only [ef] at h
    split at h
    · rename_i k e h1
      obtain ⟨z, h3, h⟩ := h
      obtain ⟨v, n', f', ⟨hz, h'⟩, h4, h5, h6⟩ := exT_el h f
      subst hz
      exact s_etr H hw (hE h1) h3 (lt_ hd) fun a' H' => kk _ _ _ _ _ a' h' ⟨I.mono h5 h4, h4, rfl, h5, fun _ _ => rfl, h6 g⟩ H'
    · exact h.elim
  | panic x =>
    cases some_inj hc
    simp only [ef] at h
    split at h
    · rename_i h1
      exact s_panic H hw (hE h1) fun H' => kp _ _ _ h H'
    · exact h.elim
  | call c =>
    obtain ⟨callee, args, ats⟩ := c
    simp only [cO] at hc
    split at hc
    · split at hc
      · obtain ⟨_, rfl⟩ := ifs hc; exact h.elim
      · obtain ⟨_, rfl⟩ := ifs hc; exact h.elim
      · rename_i x t h1 h2 _ _ _ _ 
        cases some_inj hc
        cases arr1 h1; cases arr1 h2
        cases d with
        | none => cases hs
        | some d =>
        simp only [ef] at h
        split at h
        · rename_i h3
          obtain ⟨k, h4, h⟩ := h
          exact s_blt (args := #[_]) (v := .int .i64 k) H hw (by simp [H.eval (hE h3)]) (lt_ hd) (fun cs => b_mlen h4) fun a' H' => kk _ _ _ _ _ a' h ⟨I, Nat.le_refl _, rfl, fun _ _ => rfl, fun _ _ => rfl, trivial⟩ H'
        · exact h.elim
      · cases hc
    · obtain ⟨_, rfl⟩ := ifs hc; exact h.elim
    · cases some_inj hc; exact h.elim
    · cases some_inj hc; exact h.elim
    · rename_i x y t u h1 h2
      cases some_inj hc
      cases arr2 h1; cases arr2 h2
      cases d with
      | none => cases hs
      | some d =>
      simp only [ef] at h
      split at h
      · rename_i h3 h4
        obtain ⟨e, w', h5, h⟩ := h
        exact s_blt (args := #[_, _]) (v := Slc.v e) H hw (by simp [H.eval (hE h3), H.eval (hE h4)]) (lt_ hd) (fun cs => b_app h5) fun a' H' => kk _ _ _ _ _ a' h (.wr0 I trivial) H'
      · exact h.elim
    · rename_i x y t u h1 h2
      cases some_inj hc
      cases arr2 h1; cases arr2 h2
      simp only [ef] at h
      split at h
      · rename_i h3 h4
        obtain ⟨e, w', h5, h⟩ := h
        cases d with
        | none => exact s_blt0 (args := #[_, _]) H hw (by simp [H.eval (hE h3), H.eval (hE h4)]) (fun cs => b_cpy h5) fun H' => kk _ _ _ _ _ a h (.wr0 I trivial) H'
        | some d => exact s_blt (args := #[_, _]) (v := .int .i64 e) H hw (by simp [H.eval (hE h3), H.eval (hE h4)]) (lt_ hd) (fun cs => b_cpy h5) fun a' H' => kk _ _ _ _ _ a' h (.wr0 I trivial) H'
      · exact h.elim
    · rename_i x y t u h1 h2
      cases some_inj hc
      cases arr2 h1; cases arr2 h2
      simp only [ef] at h
      split at h
      · rename_i h3 h4
        obtain ⟨w', h5, h⟩ := h
        cases d with
        | none => exact s_blt0 (args := #[_, _]) H hw (by simp [H.eval (hE h3), H.eval (hE h4)]) (fun cs => b_dlt h5) fun H' => kk _ _ _ _ _ a h (.wr0 I (v := .t []) (fun c hc => by simp at hc)) H'
        | some d => exact s_blt (args := #[_, _]) (v := .tuple #[]) H hw (by simp [H.eval (hE h3), H.eval (hE h4)]) (lt_ hd) (fun cs => b_dlt h5) fun a' H' => kk _ _ _ _ _ a' h (.wr0 I (v := .t []) (fun c hc => by simp at hc)) H'
      · exact h.elim
    · rename_i x h1
      cases some_inj hc
      cases arr1 h1
      simp only [ef] at h
      split at h
      · rename_i h3
        exact s_panicB H hw (hE h3) fun H' => kp _ _ _ h H'
      · exact h.elim
    · rename_i fn
      obtain ⟨hb, hc⟩ := ifs' hc
      obtain ⟨r, hr, rfl⟩ := map_some' hc
      simp only [ef] at h
      split at h
      · rename_i vs hv
        have ha := H.args (mapd hv)
        simp only [Array.toArray_toList] at ha
        cases d with
        | none =>
          cases r with
          | some r => cases hs
          | none => exact s_call0 H hw hb ha h (fun v w' hk H' => kk _ _ _ _ _ a hk (.wr0 I trivial) H') fun c w' hp H' => kp _ _ _ hp H'
        | some d =>
          cases r with
          | none => cases hs
          | some r => exact s_call H hw hb ha (lt_ hd) h (fun v w' a' hk H' => by
              obtain ⟨y, s', f', rfl, hk, T⟩ := ret_ok I hk
              exact kk _ _ _ _ _ a' hk T H') fun c w' hp H' => kp _ _ _ hp H'
      · exact h.elim
    · rename_i x _ 
      obtain ⟨r, hr, rfl⟩ := map_some' hc
      have key : ∀ {e : Value} {vs : List Value}, Vc.ev (dE s.E) x = some e → args.map a.eval = vs.toArray → CallV P e vs.toArray w (CallK (ret r s K) (pn Q)) → wpList P ops Q' (⟨d, .call ⟨.value x, args, ats⟩, ty, pos, af, gd⟩ :: rest) a w := fun hx ha h => by
        cases d with
        | none =>
          cases r with
          | some r => cases hs
          | none => exact s_callV0 H hw hx ha h (fun v w' hk H' => kk _ _ _ _ _ a hk (.wr0 I trivial) H') fun c w' hp H' => kp _ _ _ hp H'
        | some d =>
          cases r with
          | none => cases hs
          | some r => exact s_callV H hw hx ha (lt_ hd) h (fun v w' a' hk H' => by
              obtain ⟨y, s', f', rfl, hk, T⟩ := ret_ok I hk
              exact kk _ _ _ _ _ a' hk T H') fun c w' hp H' => kp _ _ _ hp H'
      simp only [ef] at h
      split at h
      · rename_i fn cs vs hx hv
        split at h
        · rename_i hb
          have ha := H.args (mapd hv)
          simp only [Array.toArray_toList] at ha
          exact key (hE hx) ha ⟨fn, cs.toArray, rfl, hb, by simpa using h⟩
        · exact h.elim
      · rename_i e vs hx hv
        have ha := H.args (mapd hv)
        simp only [Array.toArray_toList] at ha
        exact key (hE hx) ha h
      · exact h.elim
    · rename_i x nm
      split at hc
      · rename_i r hr
        cases some_inj hc
        cases d with
        | none => simp [retT] at hr
        | some d =>
        simp only [ef] at h
        split at h
        · rename_i v vs hx hv
          have ha := H.args (mapd hv)
          simp only [Array.toArray_toList] at ha
          exact s_callI H hw (hE hx) ha (lt_ hd) h (fun v w' a' hk H' => by
              obtain ⟨y, s', f', rfl, hk, T⟩ := ret_ok I hk
              exact kk _ _ _ _ _ a' hk T H') fun c w' hp H' => kp _ _ _ hp H'
        · exact h.elim
      · cases hc
    · cases hc
  | _ =>
    refine (ef_none (P := P) (Q := Q) (s := s) (w := w) (i := i) (K := K) ?_ h).elim
    clear h
    first | (cases hc; done) | (cases some_inj hc; rfl) | skip
    try simp only [cO] at hc
    repeat' first
      | (cases some_inj hc; rfl)
      | (cases hc; done)
      | (obtain ⟨_, _, rfl⟩ := map_some' hc; rfl)
      | split at hc
end
end Go.Vc.Ex

namespace Go.Vc.Ex
open Go Go.Vc
section
variable {P : Program} {f f' : Nat → Option Addr} {g g' : Nat → Nat} {n n' m : Nat} {ds : List Deferred} {a : Act} {s : St} {w w' : World} {its : List (Nat × TypeId)} {d : Option Tmp} {i : I}
  {ops : Array Oper} {Q' : Exit → Act → World → Prop} {rest : List Oper} {Q : Ending → World → Prop} {md : Bool} {cx : Option (Nat × Bool)}
theorem sameG_eq {x y : Option (Nat × Bool)} (h : sameG x y = true) : x = y := by
  unfold sameG at h
  split at h
  · rfl
  · simp only [Bool.and_eq_true, beq_iff_eq] at h
    rw [Nat.eq_of_beq_eq_true h.1, h.2]
  · cases h
theorem cD_ok {o : Oper} (h : cD P its m o = some i) : cO P its o.dst o.type o.op = some i ∧ dOk m o.dst = true ∧ dsB o.dst i = true := by
  unfold cD at h
  split at h
  · rename_i j hj
    obtain ⟨h1, rfl⟩ := ifs h
    simp only [Bool.and_eq_true] at h1
    exact ⟨hj, h1.1, h1.2⟩
  · cases h
theorem _root_.Go.Vc.Has.of {n : Nat} {L L' : List (Nat × Value)} (H : Has n ds a L) (h : ∀ t v, Env.get L' t = some v → Env.get L t = some v) : Has n ds a L' := ⟨H.size, H.defers, fun t v hv => H.get t v (h t v hv)⟩
def Keeps (l : List Oper) (s s' : St) : Prop := ∀ t, (∀ o ∈ l, o.dst ≠ some t) → ∀ v, lk s.E t = some v → ∃ v', lk s'.E t = some v' ∧ v'.d = v.d ∧ ∀ b e, v = .l (.b b e) → v' = v
theorem Keeps.nil (s : St) : Keeps [] s s := fun _ _ v h => ⟨v, h, rfl, fun _ _ _ => rfl⟩
theorem Keeps.trans {l r : List Oper} {s1 s2 s3 : St} (h1 : Keeps l s1 s2) (h2 : Keeps r s2 s3) : Keeps (l ++ r) s1 s3 := fun t ht v hv => by
  obtain ⟨v1, h3, h4, h5⟩ := h1 t (fun o ho => ht o (List.mem_append_left _ ho)) v hv
  obtain ⟨v2, h6, h7, h8⟩ := h2 t (fun o ho => ht o (List.mem_append_right _ ho)) v1 h3
  exact ⟨v2, h6, h7.trans h4, fun b e hb => by rw [h8 b e (by rw [h5 b e hb]; exact hb), h5 b e hb]⟩
theorem lk_put {E : List (Nat × SV)} {d : Option Nat} {v : SV} {t : Nat} {nx : Nat} {kn : List ((Nat × Nat) × Lf)} (h : d ≠ some t) : lk ((St.mk E kn nx).put d v).E t = lk E t := by
  cases d with
  | none => rfl
  | some d =>
    simp only [St.put, lk]
    have : Nat.beq d t = false := by
      cases hb : Nat.beq d t with
      | false => rfl
      | true => exact absurd (by rw [Nat.eq_of_beq_eq_true hb]) h
    rw [this]; rfl
theorem lk_map {E : List (Nat × SV)} {σ : SV → SV} {t : Nat} : lk (E.map fun z => (z.1, σ z.2)) t = (lk E t).map σ := by
  induction E with
  | nil => rfl
  | cons z r ih =>
    simp only [List.map_cons, lk]
    cases Nat.beq z.1 t with
    | true => rfl
    | false => exact ih
theorem lk_drop {ds : List Nat} {t : Nat} : lk (s.drop ds).E t = if has ds t then none else lk s.E t := by
  unfold St.drop has
  simp only
  induction s.E with
  | nil => simp [lk]
  | cons z r ih =>
    simp only [List.filter_cons, lk]
    cases hb : Nat.beq z.1 t with
    | true =>
      have hz := Nat.eq_of_beq_eq_true hb
      subst hz
      cases hd : ds.any fun x => Nat.beq x z.1 with
      | true => simp [hd] at ih ⊢; simpa using ih
      | false => simp [lk]
    | false =>
      cases hd : ds.any fun x => Nat.beq x z.1 with
      | true => simpa using ih
      | false => simp [lk, hb]; simpa using ih
theorem has_mem {l : List Nat} {t : Nat} : has l t = true ↔ t ∈ l := by
  unfold has
  rw [List.any_eq_true]
  constructor
  · rintro ⟨x, h1, h2⟩; rw [← Nat.eq_of_beq_eq_true h2]; exact h1
  · intro h; exact ⟨t, h, Nat.beq_refl t⟩
theorem dsts_mem {l : List Oper} {t : Nat} : t ∈ dsts l ↔ ∃ o ∈ l, o.dst = some t := by
  unfold dsts; rw [List.mem_filterMap]
structure Rn (md : Bool) (P : Program) (ops : Array Oper) (R : List Oper → Act → World → Prop) : Prop where
  run : ∀ {o : Oper} {rest : List Oper} {a : Act} {w : World} {d : Nat} {v : Value}, Region.wanted o (yielded ops a.tmps) = true → o.dst = some d → RunM md P a o w v → R rest (a.put (some d) v) w → R (o :: rest) a w
  skip : ∀ {o : Oper} {rest : List Oper} {a : Act} {w : World}, Region.wanted o (yielded ops a.tmps) = false → R rest (a.put o.dst undef) w → R (o :: rest) a w
theorem Rn.list : Rn false P ops (wpList P ops Q') := ⟨fun {o rest a w d v} hw hd hr h => by
    unfold wpList
    rw [if_pos hw]
    refine .inl ?_
    unfold Oper.wp
    have e : (execOp a.eval o).run P w = .ok (.value v) w := hr 0 (.inr rfl)
    rw [e, Oper.upon_value, hd]
    exact h, fun {o rest a w} hw h => by
    unfold wpList
    rw [if_neg (by rw [hw]; simp)]
    exact h⟩
theorem Rn.quiet {Z : Act → Prop} {w0 : World} : Rn true P ops (fun l a w => w = w0 → wpQuiet P ops (fun w' => ∃ n, w' = w0.drewN n) Z l a) := ⟨fun {o rest a w d v} hw hd hr h => by
    intro e
    subst e
    unfold wpQuiet
    rw [if_pos hw]
    refine ⟨v, fun w' hw' => ?_, by rw [hd]; exact h rfl⟩
    obtain ⟨k, rfl⟩ := hw'
    unfold Oper.quietAt
    rw [hr k (.inl rfl)]
    exact ⟨rfl, rfl⟩, fun {o rest a w} hw h => by
    intro e
    unfold wpQuiet
    rw [if_neg (by rw [hw]; simp)]
    exact h e⟩
def GA (ops : Array Oper) (cx : Option (Nat × Bool)) (l : List Oper) (s : St) : Prop := match cx with
  | none => True
  | some (j, b) => ∃ gs, (ops[j]?).bind (·.dst) = some gs ∧ lk s.E gs = some (.l (.b true b)) ∧ ∀ o ∈ l, o.dst ≠ some gs
theorem GA.wanted {o : Oper} {l : List Oper} (G : GA ops cx l s) (hg : o.guard = cx) (H : Has m ds a (dE s.E)) : Region.wanted o (yielded ops a.tmps) = true := by
  obtain ⟨dst, op, ty, pos, af, gd⟩ := o
  simp only at hg
  subst hg
  cases gd with
  | none => rfl
  | some z =>
    obtain ⟨j, b⟩ := z
    obtain ⟨gs, h1, h2, _⟩ := G
    exact wantG H h1 (by rw [lk_dE, h2]; rfl)
theorem GA.next {l r : List Oper} {s' : St} (G : GA ops cx (l ++ r) s) (hk : Keeps l s s') : GA ops cx r s' := by
  cases cx with
  | none => trivial
  | some z =>
    obtain ⟨j, b⟩ := z
    obtain ⟨gs, h1, h2, h3⟩ := G
    obtain ⟨v', h4, _, h5⟩ := hk gs (fun o ho => h3 o (List.mem_append_left _ ho)) _ h2
    exact ⟨gs, h1, by rw [h4, h5 _ _ rfl], fun o ho => h3 o (List.mem_append_right _ ho)⟩
theorem put_at {a : Act} {d t : Nat} {v : Value} (h : d ≠ t) : (a.put (some d) v).tmps[t]? = a.tmps[t]? := by
  simp only [Act.put, Array.getElem?_setIfInBounds]
  rw [if_neg h]
theorem skip_ok {R : List Oper → Act → World → Prop} (hR : Rn md P ops R) {gs : Nat} {want : Bool} : ∀ (l : List Oper) (us : List Nat) (a : Act), skipB ops m gs want l us = true → a.tmps.size = m → a.defers = ds → a.tmps[gs]? = some (.bool (!want)) → (∀ t ∈ us, a.tmps[t]? = some undef) →
    (∀ a' : Act, a'.tmps.size = m → a'.defers = ds → (∀ t, (∀ o ∈ l, o.dst ≠ some t) → a'.tmps[t]? = a.tmps[t]?) → R rest a' w) → R (l ++ rest) a w
  | [], us, a, _, h1, h2, _, _, kk => kk a h1 h2 fun _ _ => rfl
  | o :: l, us, a, h, h1, h2, h3, h4, kk => by
    obtain ⟨dst, op, ty, pos, af, gd⟩ := o
    simp only [skipB, Bool.and_eq_true] at h
    obtain ⟨⟨hg, hd⟩, hr⟩ := h
    have hw : Region.wanted ⟨dst, op, ty, pos, af, gd⟩ (yielded ops a.tmps) = false := by
      cases gd with
      | none => simp at hg
      | some z =>
        obtain ⟨j, b⟩ := z
        simp only at hg
        cases ht : (ops[j]?).bind (·.dst) with
        | none => simp [ht] at hg
        | some t =>
          simp only [ht, Bool.or_eq_true, Bool.and_eq_true, beq_iff_eq] at hg
          rcases hg with ⟨hg1, rfl⟩ | hg
          · have := Nat.eq_of_beq_eq_true hg1
            subst this
            exact wantN (n := m) (ds := ds) (L := [(t, .bool (!b))]) ⟨h1, h2, fun x v hv => by
              simp only [Env.get] at hv
              cases hb : Nat.beq t x with
              | true => rw [hb] at hv; simp at hv; subst hv; rw [← Nat.eq_of_beq_eq_true hb]; exact h3
              | false => rw [hb] at hv; cases hv⟩ ht (by simp [Env.get]) rfl
          · exact wantU (n := m) (ds := ds) (L := [(t, undef)]) ⟨h1, h2, fun x v hv => by
              simp only [Env.get] at hv
              cases hb : Nat.beq t x with
              | true => rw [hb] at hv; simp at hv; subst hv; rw [← Nat.eq_of_beq_eq_true hb]; exact h4 t (has_mem.1 hg)
              | false => rw [hb] at hv; cases hv⟩ ht (by simp [Env.get])
    refine hR.skip hw ?_
    cases dst with
    | none =>
      simp only at hr
      exact skip_ok hR l us _ hr h1 h2 h3 h4 fun a' k1 k2 k3 => kk a' k1 k2 fun t ht => k3 t fun o ho => ht o (List.mem_cons_of_mem _ ho)
    | some d =>
      simp only [Bool.and_eq_true, Bool.not_eq_true'] at hr
      have hne : d ≠ gs := fun e => by rw [e, Nat.beq_refl] at hr; exact absurd hr.1 (by decide)
      have hlt : d < a.tmps.size := by rw [h1]; exact lt_ hd
      refine skip_ok hR l (d :: us) _ hr.2 (by simp [Act.put, h1]) (by simpa [Act.put] using h2) (by rw [put_at hne]; exact h3) (fun t ht => ?_) fun a' k1 k2 k3 => kk a' k1 k2 fun t ht => ?_
      · by_cases e : d = t
        · subst e; simp [Act.put, hlt]
        · rw [put_at e]
          rcases List.mem_cons.1 ht with rfl | ht
          · exact absurd rfl e
          · exact h4 t ht
      · rw [k3 t fun o ho => ht o (List.mem_cons_of_mem _ ho), put_at fun e => ht _ (List.mem_cons_self) (by rw [e])]
end
end Go.Vc.Ex

namespace Go.Vc.Ex
open Go Go.Vc
section
variable {P : Program} {f f' : Nat → Option Addr} {g g' : Nat → Nat} {n n' m : Nat} {ds : List Deferred} {a : Act} {s : St} {w w' : World} {its : List (Nat × TypeId)} {d : Option Tmp} {i : I}
  {ops : Array Oper} {Q' : Exit → Act → World → Prop} {rest : List Oper} {Q : Ending → World → Prop} {md : Bool} {cx : Option (Nat × Bool)}
theorem pu_co {K : SV → St → (SV → SV) → Prop} {v : SV} (h : Ex.pu s i = some v) (k : K v s id) : co P md s w i K := by
  unfold co; rw [h]; exact k
theorem L.pu_den : ∀ (l : L) {s s2 : St} {K : St → World → Prop}, l.pu s = some s2 → K s2 w → l.den P md Q s w K
  | .nil, s, s2, K, h, k => by cases some_inj h; exact k
  | .op d i r, s, s2, K, h, k => by
    simp only [L.pu] at h
    split at h
    · cases h
    · rename_i hi
      split at h
      · rename_i v hv
        simp only [L.den, hi, if_false, Bool.false_eq_true]
        exact pu_co hv (L.pu_den r h k)
      · cases h
  | .nxt .., s, s2, K, h, k => by cases h
  | .grp want gs eff body d mine other drop r, s, s2, K, h, k => by
    simp only [L.pu] at h
    split at h
    · cases h
    · rename_i he
      split at h
      · rename_i c _ l o s3 h1 h2 h3
        split at h
        · rename_i v h4
          simp only [L.den, h1, h2, he, if_false, Bool.false_eq_true, h3, h4]
          exact L.pu_den r h k
        · cases h
      · cases h
theorem co_mono {K K' : SV → St → (SV → SV) → Prop} (h : co P md s w i K) (k : ∀ v s σ, K v s σ → K' v s σ) : co P md s w i K' := by
  have e1 : ∀ {l : LT} {n : Nat} {A B : Lf → Prop}, ex1 l n A → (∀ x, A x → B x) → ex1 l n B := by
    intro l n A B h k
    cases l <;> (obtain ⟨x, h⟩ := h; exact ⟨x, k _ h⟩)
  have eL : ∀ {ls : List LT} {n : Nat} {A B : List Lf → Nat → Prop}, exL ls n A → (∀ x n, A x n → B x n) → exL ls n B := by
    intro ls
    induction ls with
    | nil => intro n A B h k; exact k _ _ h
    | cons l r ih => intro n A B h k; exact e1 h fun x hx => ih hx fun y n hy => k _ _ hy
  have eC : ∀ {cs : List (Bool × List LT)} {n : Nat} {A B : List (Bool × List Lf) → Nat → Prop}, exC cs n A → (∀ x n, A x n → B x n) → exC cs n B := by
    intro cs
    induction cs with
    | nil => intro n A B h k; exact k _ _ h
    | cons c r ih => obtain ⟨b, ls⟩ := c; intro n A B h k; exact eL h fun x n hx => ih hx fun y n hy => k _ _ hy
  have eT : ∀ {r : ST} {n : Nat} {A B : SV → Nat → Prop}, exT r n A → (∀ x n, A x n → B x n) → exT r n B := by
    intro r n A B h k
    cases r
    · exact e1 (A := fun x => A (.l x) (n + 1)) (B := fun x => B (.l x) (n + 1)) h fun x hx => k _ _ hx
    · exact eL (A := fun x => A (.g x)) (B := fun x => B (.g x)) h fun x n hx => k _ _ hx
    · exact eC (A := fun x => A (.t x)) (B := fun x => B (.t x)) h fun x n hx => k _ _ hx
  have eN : ∀ {ls : List LT} {e : Addr} {key : Option (Nat × Nat)} {j n : Nat} {A B : List Lf → Nat → Prop}, ldN s w e key j ls n A → (∀ x n, A x n → B x n) → ldN s w e key j ls n B := by
    intro ls
    induction ls with
    | nil => intro e key j n A B h k; exact k _ _ h
    | cons l r ih =>
      intro e key j n A B h k
      simp only [ldN] at h ⊢
      split at h <;> rename_i hv
      · exact ih h fun x n hx => k _ _ hx
      · exact e1 h fun x hx => ⟨hx.1, ih hx.2 fun y n hy => k _ _ hy⟩
  unfold co at h ⊢
  cases hp : Ex.pu s i with
  | some v => simp only [hp] at h ⊢; exact k _ _ _ h
  | none =>
    simp only [hp] at h ⊢
    split at h
    · split at h
      · rename_i hx; exact e1 h fun x hx => ⟨hx.1, k _ _ _ hx.2⟩
      · exact h.elim
    · split at h
      · rename_i hx; exact eN h fun x n hx => k _ _ _ hx
      · exact h.elim
    · split at h
      · rename_i hx; obtain ⟨p, h1, h2⟩ := h; exact ⟨p, h1, k _ _ _ h2⟩
      · obtain ⟨p, h1, h2⟩ := h; cases h1
      · exact h.elim
    · split at h
      · rename_i hx hy
        split at h
        · rename_i he; obtain ⟨p, h1, h2, h3, h4⟩ := h; exact ⟨p, h1, h2, h3, k _ _ _ h4⟩
        · exact h.elim
      · exact h.elim
    · split at h
      · rename_i hx hy; exact ⟨h.1, h.2.1, k _ _ _ h.2.2⟩
      · exact h.elim
    · split at h
      · rename_i hx hy; exact ⟨h.1, h.2.1, k _ _ _ h.2.2⟩
      · exact h.elim
    · split at h
      · rename_i hx
        split at h
        · rename_i hl hh; exact ⟨h.1, h.2.1, h.2.2.1, k _ _ _ h.2.2.2⟩
        · exact h.elim
      · exact h.elim
    · split at h
      · rename_i hx
        split at h
        · rename_i he
          split at h
          · rename_i hl hh; exact ⟨h.1, h.2.1, h.2.2.1, k _ _ _ h.2.2.2⟩
          · exact h.elim
        · exact h.elim
      · exact h.elim
    · split at h
      · rename_i hx hy
        split at h
        · split at h
          · rename_i he; rw [if_pos he]; exact ⟨h.1, k _ _ _ h.2⟩
          · exact h.elim
        · split at h
          · rename_i he; rw [if_pos he]; exact ⟨h.1, k _ _ _ h.2⟩
          · exact h.elim
        · exact ⟨h.1, k _ _ _ h.2⟩
        · exact ⟨h.1, k _ _ _ h.2⟩
        · exact h.elim
      · rename_i hx hy
        split at h
        · exact ⟨h.1, k _ _ _ h.2⟩
        · exact h.elim
      · rename_i hx hy
        split at h
        · obtain ⟨b, h1, h2⟩ := h; exact ⟨b, h1, k _ _ _ h2⟩
        · obtain ⟨b, h1, h2⟩ := h; exact ⟨b, h1, k _ _ _ h2⟩
        · exact h.elim
      · rename_i hx hy
        split at h
        · obtain ⟨b, h1, h2⟩ := h; exact ⟨b, h1, k _ _ _ h2⟩
        · obtain ⟨b, h1, h2⟩ := h; exact ⟨b, h1, k _ _ _ h2⟩
        · exact h.elim
      · exact h.elim
    · split at h
      · rename_i hx
        split at h
        · rename_i hm; rw [if_pos hm]; obtain ⟨e, h1, h2⟩ := h; exact ⟨e, h1, k _ _ _ h2⟩
        · rename_i hm; rw [if_neg hm]; obtain ⟨e, h1, h2⟩ := h; exact ⟨e, h1, k _ _ _ h2⟩
      · exact h.elim
    · split at h
      · rename_i hx; obtain ⟨z, h1, h2⟩ := h; exact ⟨z, h1, eT h2 fun y n hy => ⟨hy.1, k _ _ _ hy.2⟩⟩
      · exact h.elim
    · exact h.elim
theorem L.den_mono : ∀ (l : L) {s : St} {K K' : St → World → Prop}, l.hasEf = false → l.den P md Q s w K → (∀ s, K s w → K' s w) → l.den P md Q s w K'
  | .nil, s, K, K', _, h, k => k _ h
  | .op d i r, s, K, K', he, h, k => by
    simp only [L.hasEf, Bool.or_eq_false_iff] at he
    simp only [L.den, he.1, if_false, Bool.false_eq_true] at h ⊢
    exact co_mono h fun v s σ hk => L.den_mono r he.2 hk k
  | .nxt .., s, K, K', he, h, k => by cases he
  | .grp want gs eff body d mine other drop r, s, K, K', he, h, k => by
    simp only [L.hasEf, Bool.or_eq_false_iff] at he
    obtain ⟨he1, he2⟩ := he
    subst he1
    simp only [L.den, if_false, Bool.false_eq_true] at h ⊢
    split at h
    · split at h
      · split at h
        · exact L.den_mono r he2 h k
        · exact h
      · obtain ⟨x, h1, h2, h3⟩ := h
        exact ⟨x, h1, h2, L.den_mono r he2 h3 k⟩
    · exact h
theorem L.den_same {l : L} {s : St} {K : St → World → Prop} (he : l.hasEf = false) (h : l.den P md Q s w K) : l.den P md Q s w fun s' w' => w' = w ∧ K s' w' := L.den_mono l he h fun _ h => ⟨rfl, h⟩
theorem bool?_d {o : Option SV} {l e : Bool} (h : bool? o = some (l, e)) : o = some (.l (.b l e)) := by
  unfold bool? at h
  split at h
  · cases some_inj h; rfl
  · cases h
theorem mixB_y {want l o v c : Bool} (h : c = want) : mixB want l o v c = v := by subst h; cases c <;> cases l <;> cases o <;> rfl
theorem mixB_n {want l o v c : Bool} (h : c = !want) : mixB want l o v c = o := by subst h; cases want <;> cases l <;> cases o <;> rfl
theorem takeDrop {p : Oper → Bool} {l : List Oper} : l = l.takeWhile p ++ l.dropWhile p := List.takeWhile_append_dropWhile.symm
theorem drop_head {p : Oper → Bool} {l r : List Oper} {x : Oper} (h : l.dropWhile p = x :: r) : p x = false := by
  induction l with
  | nil => cases h
  | cons y l ih =>
    simp only [List.dropWhile_cons] at h
    split at h
    · exact ih h
    · rename_i hp; cases h; simpa using hp
structure Ln (md : Bool) (P : Program) (ops : Array Oper) (Q : Ending → World → Prop) (m : Nat) (ds : List Deferred) (Q' : Exit → Act → World → Prop) (R : List Oper → Act → World → Prop) : Prop extends Rn md P ops R where
  eff : ∀ {l : List Oper} {a : Act} {w : World}, md = false → wpList P ops Q' l a w → R l a w
  eff' : ∀ {l : List Oper} {a : Act} {w : World}, md = false → R l a w → wpList P ops Q' l a w
  pan : ∀ {c : List PanicEntry} {w : World} {a : Act} {L : List (Nat × Value)}, Q (.panicked c) w → Has m ds a L → Q' (.panic c) a w
theorem out_has {l : List Oper} {s2 : St} {gs : Nat} {lt c want : Bool} {d : Nat} {x : Bool} (hc : lk s.E gs = some (.l (.b lt c))) (hcw : c = want) (hk : Keeps l (s.put (some gs) (.l (.b true want))) s2) (H : Has m ds a ((d, .bool x) :: dE s2.E)) :
    Has m ds a (dE ((s.drop (dsts l)).put (some d) (.l (.b false x))).E) := by
  refine H.of fun t v hv => ?_
  rw [lk_dE] at hv
  simp only [St.put, lk] at hv
  simp only [Env.get]
  cases hb : Nat.beq d t with
  | true => rw [hb] at hv; exact hv
  | false =>
    rw [hb] at hv
    simp only [cond_false] at hv ⊢
    rw [lk_drop] at hv
    split at hv
    · cases hv
    · rename_i hnot
      have hnot : ∀ o ∈ l, o.dst ≠ some t := fun o ho he => hnot (has_mem.2 (dsts_mem.2 ⟨o, ho, he⟩))
      cases hl : lk s.E t with
      | none => simp [hl] at hv
      | some u =>
        simp only [hl, Option.map_some, Option.some.injEq] at hv
        rw [lk_dE]
        by_cases hg : gs = t
        · subst hg
          obtain ⟨v', h1, h2, _⟩ := hk gs hnot (.l (.b true want)) (by simp [St.put, lk])
          rw [h1, Option.map_some, h2]
          rw [hl] at hc
          cases some_inj hc
          rw [← hv, hcw]; rfl
        · have hg' : Nat.beq gs t = false := by
            cases hq : Nat.beq gs t with
            | false => rfl
            | true => exact absurd (Nat.eq_of_beq_eq_true hq) hg
          obtain ⟨v', h1, h2, _⟩ := hk t hnot u (by simp [St.put, lk, hg', hl])
          rw [h1, Option.map_some, h2, hv]
theorem out_skip {l : List Oper} {a' : Act} (H : Has m ds a (dE s.E)) (h1 : a'.tmps.size = m) (h2 : a'.defers = ds) (h3 : ∀ t, (∀ o ∈ l, o.dst ≠ some t) → a'.tmps[t]? = a.tmps[t]?) : Has m ds a' (dE (s.drop (dsts l)).E) := by
  refine ⟨h1, h2, fun t v hv => ?_⟩
  rw [lk_dE, lk_drop] at hv
  split at hv
  · cases hv
  · rename_i hnot
    rw [h3 t fun o ho he => hnot (has_mem.2 (dsts_mem.2 ⟨o, ho, he⟩))]
    exact H.get t v (by rw [lk_dE]; exact hv)
theorem Inv.drop (I : Inv f g s w) (l : List Nat) : Inv f g (s.drop l) w := ⟨fun z hz => I.E z (List.mem_filter.1 hz).1, I.kn⟩
theorem Inv.put (I : Inv f g s w) {v : SV} (d : Option Nat) (hv : v.ok f g s.nx) : Inv f g (s.put d v) w := by
  cases d with
  | none => exact I
  | some d => exact ⟨fun z hz => by rcases List.mem_cons.1 hz with rfl | hz; exact hv; exact I.E z hz, I.kn⟩
theorem Inv.nokn (I : Inv f g s w) (w' : World) : Inv f g { s with kn := [] } w' := ⟨I.E, fun z hz => by simp at hz⟩
theorem keeps_out {l : List Oper} {s1 : St} {d : Nat} {x : SV} {o : Oper} (ho : o.dst = some d) (e : s1.E = ((s.drop (dsts l)).put (some d) x).E) : Keeps (l ++ [o]) s s1 := fun t ht v hv => by
  have h1 : lk s1.E t = lk s.E t := by
    rw [e, show lk ((s.drop (dsts l)).put (some d) x).E t = lk (s.drop (dsts l)).E t from lk_put (fun he => ht o (by simp) (by rw [ho, he])), lk_drop]
    rw [if_neg]
    intro hh
    obtain ⟨o', ho', he⟩ := dsts_mem.1 (has_mem.1 hh)
    exact ht o' (by simp [ho']) he
  exact ⟨v, by rw [h1, hv], rfl, fun _ _ _ => rfl⟩
end
end Go.Vc.Ex

namespace Go.Vc.Ex
open Go Go.Vc
section
variable {P : Program} {m : Nat} {ds : List Deferred} {its : List (Nat × TypeId)} {ops : Array Oper} {Q' : Exit → Act → World → Prop} {Q : Ending → World → Prop} {md : Bool} {R : List Oper → Act → World → Prop}
theorem skipB_gs {n gs : Nat} {want : Bool} : ∀ {l : List Oper} {us : List Nat}, skipB ops n gs want l us = true → ∀ o ∈ l, o.dst ≠ some gs
  | [], _, _, _, ho => by simp at ho
  | q :: l, us, h, o, ho => by
    simp only [skipB, Bool.and_eq_true] at h
    obtain ⟨_, h⟩ := h
    rcases List.mem_cons.1 ho with rfl | ho
    · intro he
      rw [he] at h
      simp at h
    · cases hd : q.dst with
      | none => rw [hd] at h; exact skipB_gs h o ho
      | some d => rw [hd] at h; simp only [Bool.and_eq_true] at h; exact skipB_gs h.2 o ho
theorem L_ok (hR : Ln md P ops Q m ds Q' R) : ∀ (k : Nat) {cx : Option (Nat × Bool)} {l : List Oper} {L : Ex.L} {s : St} {w : World} {K : St → World → Prop} {a : Act} {rest : List Oper} {f : Nat → Option Addr} {g : Nat → Nat},
    cL P its m ops k cx l = some L → (L.hasEf = true → md = false) → Ex.L.den P md Q L s w K → Inv f g s w → Has m ds a (dE s.E) → GA ops cx l s →
    (∀ s' w' f' g' a', K s' w' → Inv f' g' s' w' → Keeps l s s' → Has m ds a' (dE s'.E) → R rest a' w') → R (l ++ rest) a w
  | 0, cx, l, L, s, w, K, a, rest, f, g, hc, _, _, _, _, _, _ => by simp [cL] at hc
  | k + 1, cx, l, L, s, w, K, a, rest, f, g, hc, hef, h, I, H, G, kk => by
    unfold cL at hc
    split at hc
    · cases hc
    · cases some_inj hc
      exact kk s w f g a h I (.nil s) H
    · -- next, and its flag
      rename_i k' d x ty pos af d2 d' ty2 pos2 af2 r heq
      cases heq
      obtain ⟨hb, hc⟩ := ifs' hc
      obtain ⟨r', hr, rfl⟩ := map_some' hc
      simp only [Bool.and_eq_true, Bool.not_eq_true'] at hb
      obtain ⟨⟨⟨hb1, hb2⟩, hb3⟩, hb4⟩ := hb
      have hb1 := Nat.eq_of_beq_eq_true hb1
      subst hb1
      have hmd : md = false := hef rfl
      simp only [L.den] at h
      split at h
      · rename_i key e hx
        obtain ⟨b, r0, w1, hrun, h⟩ := h
        have hne : d ≠ d2 := fun e => by rw [e, Nat.beq_refl] at hb4; cases hb4
        refine hR.eff hmd (s_nxt (v := .tuple ⟨.bool b :: r0⟩) H rfl (ev_d hx) hrun (lt_ hb2) fun a1 H1 => s_ext (vs := ⟨.bool b :: r0⟩) (v := .bool b) H1 rfl (by simp [Vc.ev, Env.get]) rfl (lt_ hb3) fun a2 H2 => hR.eff' hmd ?_)
        refine L_ok hR k (s := ((s.drop [d]).put (some d2) (.l (.b false b))).wr) (rest := rest) hr (fun _ => hmd) h (f := f) (g := g) ⟨fun z hz => ?_, fun z hz => by simp [St.wr] at hz⟩ (H2.of fun t v hv => ?_) trivial fun s' w' f' g' a' hk I' hkp H' => kk s' w' f' g' a' hk I' ?_ H'
        · rcases List.mem_cons.1 hz with rfl | hz
          · trivial
          · exact I.E z (List.mem_filter.1 hz).1
        · rw [lk_dE] at hv
          simp only [St.wr, St.put, lk] at hv
          simp only [Env.get]
          cases hq : Nat.beq d2 t with
          | true => rw [hq] at hv; exact hv
          | false =>
            rw [hq] at hv
            simp only [cond_false] at hv ⊢
            rw [lk_drop] at hv
            split at hv
            · cases hv
            · rename_i hnot
              have : Nat.beq d t = false := by
                cases hq : Nat.beq d t with
                | false => rfl
                | true => exact absurd (by rw [has_mem]; simp [Nat.eq_of_beq_eq_true hq]) hnot
              rw [this]
              simp only [cond_false]
              rw [lk_dE]; exact hv
        · refine Keeps.trans (l := [_, _]) (r := r) (s2 := ((s.drop [d]).put (some d2) (.l (.b false b))).wr) (fun t ht v hv => ?_) hkp
          have h1 : d2 ≠ t := fun e => ht _ (by simp; exact .inr rfl) (by simp [e])
          have h2 : d ≠ t := fun e => ht _ (by simp; exact .inl rfl) (by simp [e])
          have e1 : lk ((s.drop [d]).put (some d2) (.l (.b false b))).wr.E t = lk s.E t := by
            rw [show lk ((s.drop [d]).put (some d2) (.l (.b false b))).wr.E t = lk (s.drop [d]).E t from lk_put (fun e => h1 (by injection e)), lk_drop, if_neg]
            rw [has_mem]; simpa using fun e => h2 e.symm
          exact ⟨v, by rw [e1, hv], rfl, fun _ _ _ => rfl⟩
      · exact h.elim
    · -- one operation, or a group
      rename_i cx' _ _ _ k' o r heq hneg
      cases heq
      split at hc
      · rename_i hg
        have hg := sameG_eq hg
        split at hc
        · rename_i i r' hi hr
          cases some_inj hc
          obtain ⟨hi1, hi2, hi3⟩ := cD_ok hi
          simp only [L.hasEf] at hef
          simp only [L.den] at h
          have hw := G.wanted hg H
          have step : ∀ {v : SV} {s1 : St} {w1 : World} {f1 : Nat → Option Addr} {g1 : Nat → Nat} {a1 : Act}, r'.den P md Q (s1.put o.dst v) w1 K → Inv f1 g1 s1 w1 → v.ok f1 g1 s1.nx → (∀ t u, lk s.E t = some u → ∃ u', lk s1.E t = some u' ∧ u'.d = u.d ∧ ∀ b e, u = .l (.b b e) → u' = u) →
              Has m ds a1 (slotS o.dst v ++ dE s1.E) → R (r ++ rest) a1 w1 := fun {v s1 w1 f1 g1 a1} h I1 hv hE H1 => by
            have hkeep : Keeps [o] s (s1.put o.dst v) := fun t ht u hu => by
              obtain ⟨u', h1, h2, h3⟩ := hE t u hu
              exact ⟨u', by rw [show lk (s1.put o.dst v).E t = lk s1.E t from lk_put (ht o (by simp)), h1], h2, h3⟩
            refine L_ok hR k hr (fun e => hef (by rw [e]; simp)) h (I1.put o.dst hv) ?_ (GA.next (l := [o]) G hkeep) fun s' w' f' g' a' hk I' hkp H' => kk s' w' f' g' a' hk I' (hkeep.trans hkp) H'
            cases hd : o.dst with
            | none => rw [hd] at H1; exact H1
            | some d => rw [hd] at H1; exact H1
          cases hie : i.ef with
          | true =>
            have hmd := hef (by rw [hie]; rfl)
            subst hmd
            simp only [hie, if_true] at h
            obtain ⟨dst, op, ty, pos, af, gd⟩ := o
            refine hR.eff rfl (ef_ok hi1 hi2 hi3 h I H hw (fun v s1 w1 f1 g1 a1 h1 T H1 => hR.eff' rfl (step h1 T.inv T.v (fun t u hu => ⟨u, by rw [T.E, hu], rfl, fun _ _ _ => rfl⟩) (by rw [T.E]; exact H1))) fun c w1 a1 hp H1 => hR.pan hp H1)
          | false =>
            simp only [hie, if_false, Bool.false_eq_true] at h
            obtain ⟨dst, op, ty, pos, af, gd⟩ := o
            obtain ⟨v, s1, σ, f1, h1, W, hv, hr1⟩ := co_ok (dst := dst) (ty := ty) (pos := pos) (af := af) (gd := gd) hi1 h I H
            cases dst with
            | none => exfalso; revert hi3 hie; cases i <;> simp [dsB, Ex.I.ef]
            | some d =>
              refine hR.run hw rfl hr1 (step h1 W.inv hv (fun t u hu => ?_) ?_)
              · rw [W.E, lk_map, hu]
                refine ⟨_, rfl, (W.keep u (I.E _ (lk_mem hu))).1, fun b e hb => ?_⟩
                subst hb
                exact W.lit b e
              · rw [W.dE I]; exact H.put (lt_ hi2) v.d
        · cases hc
      · split at hc
        · cases hc
        · rename_i j want hgd
          split at hc
          · rename_i d gs x y ty pos af gd r2 hdr
            dsimp only at hc
            split at hc
            · rename_i gs' b r3 hgs' hb hr3
              obtain ⟨hck, hc⟩ := ifs hc
              cases hc
              simp only [Bool.and_eq_true] at hck
              obtain ⟨⟨⟨hck1, hck2⟩, hck3⟩, hck4⟩ := hck
              have hck1 := Nat.eq_of_beq_eq_true hck1
              subst hck1
              have hl : o :: r = (o :: r).takeWhile (fun q => !sameG q.guard cx') ++ (o :: r).dropWhile (fun q => !sameG q.guard cx') := takeDrop
              rw [hdr] at hl
              generalize hbody : (o :: r).takeWhile (fun q => !sameG q.guard cx') = body at hl hb hck2 hck4 h
              have hpg : gd = cx' := by
                have := drop_head hdr
                simp only [Bool.not_eq_false'] at this
                exact sameG_eq this
              have hrest : o :: r ++ rest = body ++ (⟨some d, .pick (.tmp gs) x y, ty, pos, af, gd⟩ :: r2 ++ rest) := by rw [hl]; simp
              rw [hl] at G kk
              rw [hrest]
              simp only [L.hasEf] at hef
              simp only [L.den] at h
              split at h
              · rename_i lt c lo oo h1 h2
                have h1 := bool?_d h1
                have h2 := bool?_d h2
                have fin : ∀ {z : Bool} {s3 : St} {w3 : World} {f3 : Nat → Option Addr} {g3 : Nat → Nat} {a3 : Act}, s3.E = ((s.drop (dsts body)).put (some d) (.l (.b false z))).E → Inv f3 g3 s3 w3 → Has m ds a3 (dE s3.E) → r3.den P md Q s3 w3 K → R (r2 ++ rest) a3 w3 := fun {z s3 w3 f3 g3 a3} e I3 H3 h3 => by
                  have hkp : Keeps (body ++ [⟨some d, .pick (.tmp gs) x y, ty, pos, af, gd⟩]) s s3 := keeps_out rfl e
                  exact L_ok hR k hr3 (fun e => hef (by rw [e]; simp)) h3 I3 H3 (GA.next (r := r2) (by simpa using G) hkp) fun s' w' f' g' a' hk I' hkp' H' => kk s' w' f' g' a' hk I' (by simpa using hkp.trans hkp') H'
                have hgs : ∀ o ∈ body, o.dst ≠ some gs := skipB_gs hck2
                -- the way over the group
                have skp : c = !want → (∀ a3 : Act, Has m ds a3 (dE ((s.drop (dsts body)).put (some d) (.l (.b false oo))).E) → R (r2 ++ rest) a3 w) → R (body ++ (⟨some d, .pick (.tmp gs) x y, ty, pos, af, gd⟩ :: r2 ++ rest)) a w := fun hcc hk => by
                  refine skip_ok hR.toRn body [] a hck2 H.size H.defers (by rw [← hcc]; exact H.get gs _ (by rw [lk_dE, h1]; rfl)) (by simp) fun a1 k1 k2 k3 => ?_
                  have H1 := out_skip H k1 k2 k3
                  have hl2 : lk (s.drop (dsts body)).E gs = some (.l (.b lt c)) := by
                    rw [lk_drop, if_neg, h1]
                    intro hh
                    obtain ⟨o', ho', he⟩ := dsts_mem.1 (has_mem.1 hh)
                    exact hgs o' ho' he
                  have G1 : GA ops cx' (⟨some d, .pick (.tmp gs) x y, ty, pos, af, gd⟩ :: r2) (s.drop (dsts body)) := by
                    refine GA.next G fun t ht u hu => ⟨u, ?_, rfl, fun _ _ _ => rfl⟩
                    rw [lk_drop, if_neg, hu]
                    intro hh
                    obtain ⟨o', ho', he⟩ := dsts_mem.1 (has_mem.1 hh)
                    exact ht o' ho' he
                  have ho : ev (s.drop (dsts body)).E (sel want y x) = some (.l (.b lo oo)) := by
                    rw [← h2]
                    revert hck4
                    cases sel want y x with
                    | tmp t => intro hck4; simp only [othOk, Bool.not_eq_true'] at hck4; simp only [ev]; rw [lk_drop, if_neg]; rw [hck4]; simp
                    | _ => intro _; rfl
                  show R (_ :: (r2 ++ rest)) _ _
                  refine hR.run (G1.wanted hpg H1) rfl (Run.toM (.pur (x := .bool oo) fun w => ?_)) (hk _ ((H1.put (lt_ hck3) (.bool oo))))
                  have e1 : a1.eval (.tmp gs) = .bool c := H1.eval (ev_d (E := (s.drop (dsts body)).E) (x := .tmp gs) hl2)
                  have e2 : a1.eval (sel want y x) = .bool oo := H1.eval (ev_d ho)
                  subst hcc; cases want <;> (simp only [sel] at e2; simp [execOp, e1, e2, asBool])
                -- the way through it
                have thr : c = want → ∀ {K2 : St → World → Prop}, b.den P md Q (s.put (some gs) (.l (.b true want))) w K2 → (∀ s2 w2 f2 g2 v lv, K2 s2 w2 → Inv f2 g2 s2 w2 → ev s2.E (sel want x y) = some (.l (.b lv v)) → ∀ a3 : Act, Has m ds a3 (dE ((s.drop (dsts body)).put (some d) (.l (.b false v))).E) → R (r2 ++ rest) a3 w2) → (∀ s2 w2, K2 s2 w2 → ∃ lv v, ev s2.E (sel want x y) = some (.l (.b lv v))) →
                    R (body ++ (⟨some d, .pick (.tmp gs) x y, ty, pos, af, gd⟩ :: r2 ++ rest)) a w := fun hcc K2 hb2 hk hv => by
                  have H1 : Has m ds a (dE (s.put (some gs) (.l (.b true want))).E) := by
                    refine H.of fun t u hu => ?_
                    rw [lk_dE] at hu ⊢
                    simp only [St.put, lk] at hu
                    cases hq : Nat.beq gs t with
                    | true => rw [hq] at hu; rw [← Nat.eq_of_beq_eq_true hq, h1, hcc]; exact hu
                    | false => rw [hq] at hu; exact hu
                  have G1 : GA ops cx' (body ++ (⟨some d, .pick (.tmp gs) x y, ty, pos, af, gd⟩ :: r2)) (s.put (some gs) (.l (.b true want))) := by
                    cases cx' with
                    | none => trivial
                    | some z =>
                      obtain ⟨j', b'⟩ := z
                      obtain ⟨go, g1, g2, g3⟩ := G
                      refine ⟨go, g1, ?_, g3⟩
                      simp only [St.put, lk]
                      cases hq : Nat.beq gs go with
                      | true =>
                        rw [← Nat.eq_of_beq_eq_true hq, h1] at g2
                        simp only [Option.some.injEq, SV.l.injEq, Lf.b.injEq] at g2
                        simp only [cond_true]
                        rw [← hcc, g2.2]
                      | false => exact g2
                  refine L_ok hR k (rest := ⟨some d, .pick (.tmp gs) x y, ty, pos, af, gd⟩ :: r2 ++ rest) hb (fun e => hef (by rw [e]; simp)) hb2 (I.put _ trivial) H1 ⟨gs, hgs', by simp [St.put, lk], hgs⟩ fun s2 w2 f2 g2 a2 k1 I2 hkp H2 => ?_
                  obtain ⟨lv, v, hm⟩ := hv s2 w2 k1
                  have hg2 : lk s2.E gs = some (.l (.b true want)) := by
                    obtain ⟨v', q1, _, q2⟩ := hkp gs hgs (.l (.b true want)) (by simp [St.put, lk])
                    rw [q1, q2 _ _ rfl]
                  show R (_ :: (r2 ++ rest)) _ _
                  refine hR.run ((GA.next G1 hkp).wanted hpg H2) rfl (Run.toM (.pur (x := .bool v) fun w => ?_)) (hk s2 w2 f2 g2 v lv k1 I2 hm _ (out_has h1 hcc hkp (H2.put (lt_ hck3) (.bool v))))
                  have e1 : a2.eval (.tmp gs) = .bool want := H2.eval (ev_d (E := s2.E) (x := .tmp gs) hg2)
                  have e2 : a2.eval (sel want x y) = .bool v := H2.eval (ev_d hm)
                  cases want <;> (simp only [sel] at e2; simp [execOp, e1, e2, asBool])
                have I3 : ∀ z : Bool, Inv f g ((s.drop (dsts body)).put (some d) (.l (.b false z))) w := fun z => (I.drop _).put _ trivial
                have hcw : c = want ∨ c = !want := by cases c <;> cases want <;> simp
                split at h
                · -- the world may turn in it
                  obtain ⟨Rl, ⟨hy, hn⟩, hf⟩ := h
                  have hfin : ∀ {z : Bool} {w3 : World} {f3 : Nat → Option Addr} {g3 : Nat → Nat} {a3 : Act}, Rl z w3 → Has m ds a3 (dE ((s.drop (dsts body)).put (some d) (.l (.b false z))).E) → R (r2 ++ rest) a3 w3 := fun {z w3 f3 g3 a3} hr H3 => fin (s3 := { (s.drop (dsts body)).put (some d) (.l (.b false z)) with kn := [] }) rfl ((I3 z).nokn w3) H3 (hf z w3 hr)
                  rcases hcw with hcw | hcw
                  · refine thr hcw (hy hcw) (fun s2 w2 f2 g2 v lv k1 I2 hm a3 H3 => ?_) fun s2 w2 k1 => ?_
                    · simp only [hm, bool?] at k1
                      exact hfin (f3 := f) (g3 := g) k1 H3
                    · split at k1
                      · rename_i lv v hm; exact ⟨_, _, bool?_d hm⟩
                      · exact k1.elim
                  · exact skp hcw fun a3 H3 => hfin (f3 := f) (g3 := g) (hn hcw) H3
                · rename_i hbe
                  have hbe : b.hasEf = false := by simpa using hbe
                  split at h
                  · rename_i s2 hpu
                    split at h
                    · rename_i _ v hm
                      have hm := bool?_d hm
                      rcases hcw with hcw | hcw
                      · refine thr hcw (K2 := fun s' w' => s' = s2 ∧ w' = w) (L.pu_den b hpu ⟨rfl, rfl⟩) (fun s2' w2 f2 g2 v' lv k1 I2 hm' a3 H3 => ?_) fun s2' w2 k1 => by obtain ⟨rfl, _⟩ := k1; exact ⟨_, v, hm⟩
                        obtain ⟨rfl, rfl⟩ := k1
                        rw [hm] at hm'
                        simp only [Option.some.injEq, SV.l.injEq, Lf.b.injEq] at hm'
                        rw [mixB_y hcw] at h
                        obtain ⟨_, rfl⟩ := hm'
                        exact fin rfl (I3 _) H3 h
                      · rw [mixB_n hcw] at h
                        exact skp hcw fun a3 H3 => fin rfl (I3 _) H3 h
                    · exact h.elim
                  · obtain ⟨z, hy, hn, hr⟩ := h
                    rcases hcw with hcw | hcw
                    · refine thr hcw (L.den_same hbe (hy hcw)) (fun s2' w2 f2 g2 v' lv k1 I2 hm' a3 H3 => ?_) fun s2' w2 k1 => ?_
                      · obtain ⟨rfl, k1⟩ := k1
                        simp only [hm', bool?] at k1
                        subst k1
                        exact fin rfl (I3 _) H3 hr
                      · obtain ⟨_, k1⟩ := k1
                        split at k1
                        · rename_i lv v hm; exact ⟨_, _, bool?_d hm⟩
                        · exact k1.elim
                    · have := hn hcw
                      subst this
                      exact skp hcw fun a3 H3 => fin rfl (I3 _) H3 hr
              · exact h.elim
            · cases hc
          · cases hc
end
end Go.Vc.Ex

namespace Go.Vc.Ex
open Go Go.Vc
section
variable {P : Program} {f f' : Nat → Option Addr} {g g' : Nat → Nat} {n n' m : Nat} {ds : List Deferred} {a : Act} {s : St} {w w' : World} {its : List (Nat × TypeId)} {d dst : Option Tmp} {ty : TypeId} {pos : String} {af : Array Edge} {gd : Option (Nat × Bool)} {i : I} {op : Op}
def AgD (P : Program) (i : I) (env : List (Nat × Value)) (u : Value) (w : World) : Prop := match i with
  | .ld x _ => ∀ p, Vc.ev env x = some (.pointer (some p)) → w.cell? p = some u
  | .ldN x _ => ∀ p cs, Vc.ev env x = some (.pointer (some p)) → u = .agg cs → Cells w p 0 cs.toList
  | .tS t u' x => ∀ xv e, Vc.ev env x = some xv → u = .string e → ToStrAt P t u' w xv e
  | _ => True
theorem ex1_re {l : LT} {K : Lf → Prop} (h : ex1 l n K) : ∃ x, K x ∧ ∀ K' : Lf → Prop, K' x → ex1 l n K' := by
  cases l <;> obtain ⟨x, h⟩ := h <;> exact ⟨_, h, fun K' h => ⟨x, h⟩⟩
theorem exL_re : ∀ {ls : List LT} {n : Nat} {K : List Lf → Nat → Prop}, exL ls n K → ∃ xs n', K xs n' ∧ ∀ K' : List Lf → Nat → Prop, K' xs n' → exL ls n K'
  | [], n, K, h => ⟨_, _, h, fun _ h => h⟩
  | l :: r, n, K, h => by
    obtain ⟨x, h1, h2⟩ := ex1_re h
    obtain ⟨xs, n', h3, h4⟩ := exL_re h1
    exact ⟨_, _, h3, fun K' h => h2 _ (h4 _ h)⟩
theorem exC_re : ∀ {cs : List (Bool × List LT)} {n : Nat} {K : List (Bool × List Lf) → Nat → Prop}, exC cs n K → ∃ xs n', K xs n' ∧ ∀ K' : List (Bool × List Lf) → Nat → Prop, K' xs n' → exC cs n K'
  | [], n, K, h => ⟨_, _, h, fun _ h => h⟩
  | (b, l) :: r, n, K, h => by
    obtain ⟨x, n1, h1, h2⟩ := exL_re h
    obtain ⟨xs, n', h3, h4⟩ := exC_re h1
    exact ⟨_, _, h3, fun K' h => h2 _ (h4 _ h)⟩
theorem exT_re {r : ST} {K : SV → Nat → Prop} (h : exT r n K) : ∃ v n', K v n' ∧ ∀ K' : SV → Nat → Prop, K' v n' → exT r n K' := by
  cases r with
  | l l => obtain ⟨x, h1, h2⟩ := ex1_re (K := fun x => K (.l x) (n + 1)) h; exact ⟨_, _, h1, fun K' h => h2 (fun x => K' (.l x) (n + 1)) h⟩
  | g ls => obtain ⟨x, n', h1, h2⟩ := exL_re (K := fun x => K (.g x)) h; exact ⟨_, _, h1, fun K' h => h2 (fun x => K' (.g x)) h⟩
  | t cs => obtain ⟨x, n', h1, h2⟩ := exC_re (K := fun x => K (.t x)) h; exact ⟨_, _, h1, fun K' h => h2 (fun x => K' (.t x)) h⟩
theorem ldN_re (hk : s.kn = []) {e : Addr} {key : Option (Nat × Nat)} : ∀ {ls : List LT} {i n : Nat} {K : List Lf → Nat → Prop}, ldN s w e key i ls n K →
    ∃ vs n', K vs n' ∧ Cells w e i (vs.map Lf.d) ∧ ∀ (w' : World) (K' : List Lf → Nat → Prop), Cells w' e i (vs.map Lf.d) → K' vs n' → ldN s w' e key i ls n K'
  | [], i, n, K, h => ⟨_, _, h, trivial, fun _ _ _ h => h⟩
  | l :: r, i, n, K, h => by
    have hn : knAt s key i = none := by unfold knAt; cases key with | none => rfl | some z => simp [hk, knF]
    simp only [ldN, hn] at h ⊢
    obtain ⟨x, ⟨h1, h2⟩, h3⟩ := ex1_re h
    obtain ⟨xs, n', h4, h5, h6⟩ := ldN_re hk h2
    exact ⟨x :: xs, n', h4, ⟨h1, h5⟩, fun w' K' hc h => h3 _ ⟨hc.1, h6 w' _ hc.2 h⟩⟩
def ShS (i : I) (v : SV) : Prop := match i with
  | .ld .. => ∃ y, v = .l y
  | .ldN .. => ∃ y, v = .g y
  | .tS .. => ∃ e, v = .l (.s e)
  | _ => True
theorem agd_triv {env : List (Nat × Value)} {u : Value} (h : ShS i .no) : AgD P i env u w := by
  cases i <;> first | trivial | (obtain ⟨_, h⟩ := h; cases h)
def Strong (P : Program) (s : St) (w : World) (i : I) (K : SV → St → (SV → SV) → Prop) (v : SV) (s' : St) (σ : SV → SV) : Prop :=
  K v s' σ ∧ (ShS i v ∧ AgD P i (dE s.E) v.d w) ∧ ∀ w', AgD P i (dE s.E) v.d w' → co P false s w' i fun v' _ _ => v'.d = v.d
theorem co_strong {K : SV → St → (SV → SV) → Prop} (hk : s.kn = []) (h : co P false s w i K) : co P false s w i (Strong P s w i K) := by
  cases hp : Ex.pu s i with
  | some v =>
    unfold co at h ⊢
    simp only [hp] at h ⊢
    have ha : ∀ w', AgD P i (dE s.E) v.d w' := by
      intro w'
      cases i <;> first | trivial | skip
      · rename_i x l
        simp only [Ex.pu] at hp
        split at hp
        · rename_i k e _
          have : knAt s k 0 = none := by unfold knAt; cases k with | none => rfl | some z => simp [hk, knF]
          simp [this] at hp
        · cases hp
      · rename_i x ls
        intro p cs hx hu
        simp only [Ex.pu] at hp
        split at hp
        · rename_i k e he
          cases ls with
          | nil =>
            simp only [knN, Option.map_some, Option.some.injEq] at hp
            subst hp
            simp only [SV.d, List.map_nil, Value.agg.injEq] at hu
            subst hu
            trivial
          | cons l r =>
            have : knAt s k 0 = none := by unfold knAt; cases k with | none => rfl | some z => simp [hk, knF]
            simp [knN, this] at hp
        · cases hp
    have hsh : ShS i v := by
      cases i <;> first | trivial | skip
      · simp only [Ex.pu] at hp
        split at hp
        · obtain ⟨y, _, rfl⟩ := map_some' hp; exact ⟨_, rfl⟩
        · cases hp
      · simp only [Ex.pu] at hp
        split at hp
        · obtain ⟨y, _, rfl⟩ := map_some' hp; exact ⟨_, rfl⟩
        · cases hp
    exact ⟨h, ⟨hsh, ha w⟩, fun w' _ => pu_co hp rfl⟩
  | none =>
    have h0 := h
    unfold co at h ⊢
    simp only [hp] at h ⊢
    split at h
    · split at h
      · rename_i x l _ key e hx
        obtain ⟨y, ⟨h1, h2⟩, h3⟩ := ex1_re h
        refine h3 _ ⟨h1, h2, ⟨⟨_, rfl⟩, fun p hp' => ?_⟩, fun w' hw' => ?_⟩
        · rw [ev_d hx] at hp'
          simp only [SV.d, Lf.d, Option.some.injEq, Value.pointer.injEq] at hp'
          subst hp'; exact h1
        · unfold co
          simp only [hp, hx]
          exact h3 _ ⟨hw' e (by rw [ev_d hx]; rfl), rfl⟩
      · exact h.elim
    · split at h
      · rename_i x ls _ key e hx
        obtain ⟨ys, n', h1, h2, h3⟩ := ldN_re hk h
        refine h3 w _ h2 ⟨h1, ⟨⟨_, rfl⟩, fun p cs hp' hu => ?_⟩, fun w' hw' => ?_⟩
        · rw [ev_d hx] at hp'
          simp only [SV.d, Lf.d, Option.some.injEq, Value.pointer.injEq] at hp'
          subst hp'
          simp only [SV.d, Value.agg.injEq] at hu
          subst hu; exact h2
        · unfold co
          simp only [hp, hx]
          exact h3 w' _ (hw' e _ (by rw [ev_d hx]; rfl) rfl) rfl
      · exact h.elim
    · split at h
      · rename_i hx
        obtain ⟨p, h1, h2⟩ := h
        refine ⟨p, h1, h2, ⟨trivial, trivial⟩, fun w' _ => ?_⟩
        unfold co
        simp only [hp, hx]
        exact ⟨p, h1, by first | trivial | rfl⟩
      · obtain ⟨p, h1, h2⟩ := h; cases h1
      · exact h.elim
    · split at h
      · rename_i hx hy
        split at h
        · rename_i he
          obtain ⟨p, h1, h2, h3, h4⟩ := h
          refine ⟨p, h1, h2, h3, h4, ⟨trivial, trivial⟩, fun w' _ => ?_⟩
          unfold co
          simp only [hp, hx, hy, he]
          exact ⟨p, h1, h2, h3, by first | trivial | rfl⟩
        · exact h.elim
      · exact h.elim
    · split at h
      · rename_i hx hy
        refine ⟨h.1, h.2.1, h.2.2, ⟨trivial, trivial⟩, fun w' _ => ?_⟩
        unfold co
        simp only [hp, hx, hy]
        exact ⟨h.1, h.2.1, by first | trivial | rfl⟩
      · exact h.elim
    · split at h
      · rename_i hx hy
        refine ⟨h.1, h.2.1, h.2.2, ⟨trivial, trivial⟩, fun w' _ => ?_⟩
        unfold co
        simp only [hp, hx, hy]
        exact ⟨h.1, h.2.1, by first | trivial | rfl⟩
      · exact h.elim
    · split at h
      · rename_i hx
        split at h
        · rename_i hl hh
          refine ⟨h.1, h.2.1, h.2.2.1, h.2.2.2, ⟨trivial, trivial⟩, fun w' _ => ?_⟩
          unfold co
          simp only [hp, hx, hl, hh]
          exact ⟨h.1, h.2.1, h.2.2.1, by first | trivial | rfl⟩
        · exact h.elim
      · exact h.elim
    · split at h
      · rename_i hx
        split at h
        · rename_i he
          split at h
          · rename_i hl hh
            refine ⟨h.1, h.2.1, h.2.2.1, h.2.2.2, ⟨trivial, trivial⟩, fun w' _ => ?_⟩
            unfold co
            simp only [hp, hx, he, hl, hh]
            exact ⟨h.1, h.2.1, h.2.2.1, by first | trivial | rfl⟩
          · exact h.elim
        · exact h.elim
      · exact h.elim
    · split at h
      · rename_i hx hy
        split at h
        · split at h
          · rename_i he
            rw [if_pos he]
            refine ⟨h.1, h.2, ⟨trivial, trivial⟩, fun w' _ => ?_⟩
            unfold co
            simp only [hp, hx, hy, he, if_true]
            exact ⟨h.1, by first | trivial | rfl⟩
          · exact h.elim
        · split at h
          · rename_i he
            rw [if_pos he]
            refine ⟨h.1, h.2, ⟨trivial, trivial⟩, fun w' _ => ?_⟩
            unfold co
            simp only [hp, hx, hy, he, if_true]
            exact ⟨h.1, by first | trivial | rfl⟩
          · exact h.elim
        · refine ⟨h.1, h.2, ⟨trivial, trivial⟩, fun w' _ => ?_⟩
          unfold co
          simp only [hp, hx, hy]
          exact ⟨h.1, by first | trivial | rfl⟩
        · refine ⟨h.1, h.2, ⟨trivial, trivial⟩, fun w' _ => ?_⟩
          unfold co
          simp only [hp, hx, hy]
          exact ⟨h.1, by first | trivial | rfl⟩
        · exact h.elim
      · rename_i hx hy
        split at h
        · refine ⟨h.1, h.2, ⟨trivial, trivial⟩, fun w' _ => ?_⟩
          unfold co
          simp only [hp, hx, hy]
          exact ⟨h.1, by first | trivial | rfl⟩
        · exact h.elim
      · rename_i hx hy
        split at h
        · obtain ⟨b, h1, h2⟩ := h
          refine ⟨b, h1, h2, ⟨trivial, trivial⟩, fun w' _ => ?_⟩
          unfold co
          simp only [hp, hx, hy]
          exact ⟨b, h1, by first | trivial | rfl⟩
        · obtain ⟨b, h1, h2⟩ := h
          refine ⟨b, h1, h2, ⟨trivial, trivial⟩, fun w' _ => ?_⟩
          unfold co
          simp only [hp, hx, hy]
          exact ⟨b, h1, by first | trivial | rfl⟩
        · exact h.elim
      · rename_i hx hy
        split at h
        · obtain ⟨b, h1, h2⟩ := h
          refine ⟨b, h1, h2, ⟨trivial, trivial⟩, fun w' _ => ?_⟩
          unfold co
          simp only [hp, hx, hy]
          exact ⟨b, h1, by first | trivial | rfl⟩
        · obtain ⟨b, h1, h2⟩ := h
          refine ⟨b, h1, h2, ⟨trivial, trivial⟩, fun w' _ => ?_⟩
          unfold co
          simp only [hp, hx, hy]
          exact ⟨b, h1, by first | trivial | rfl⟩
        · exact h.elim
      · exact h.elim
    · split at h
      · rename_i hx
        simp only [if_false, Bool.false_eq_true] at h ⊢
        obtain ⟨e, h1, h2⟩ := h
        refine ⟨e, h1, h2, ⟨⟨_, rfl⟩, fun xv e' hx' hu => ?_⟩, fun w' hw' => ?_⟩
        · rw [ev_d hx] at hx'
          cases some_inj hx'
          simp only [SV.d, Lf.d, Value.string.injEq] at hu
          subst hu; exact h1
        · unfold co
          simp only [hp, hx, if_false, Bool.false_eq_true]
          exact ⟨e, hw' _ e (ev_d hx) rfl, by first | trivial | rfl⟩
      · exact h.elim
    · split at h
      · rename_i hx
        obtain ⟨z, h1, h2⟩ := h
        obtain ⟨y, n', ⟨h3, h4⟩, h5⟩ := exT_re h2
        refine ⟨z, h1, h5 _ ⟨h3, h4, ⟨trivial, trivial⟩, fun w' _ => ?_⟩⟩
        unfold co
        simp only [hp, hx]
        exact ⟨z, h1, h5 _ ⟨h3, rfl⟩⟩
      · exact h.elim
    · exact h.elim
end
end Go.Vc.Ex

namespace Go.Vc.Ex
open Go Go.Vc
section
variable [DS] {P : Program} {ops : Array Oper} {aos : List Ao} {R : Rg} {n m : Nat} {its : List (Nat × TypeId)} {V V' L0 : List (Nat × Value)} {i : Nat} {A A' : Am} {w : World} {f f' : Nat → Option Addr} {g g' : Nat → Nat}
def SubG (V V' : List (Nat × Value)) : Prop := ∀ i v, Env.get V i = some v → Env.get V' i = some v
def fmF (R : Rg) (V : List (Nat × Value)) (p : Nat) : Option (Nat × Value) := match R.dstOf p, Env.get V p with | some d, some v => some (d, v) | _, _ => none
omit [DS] in
theorem envOf_eq : R.envOf V L0 i = (R.preOf i).filterMap (fmF R V) ++ L0.filter fun x => (List.range R.dst.length).all fun q => decide (R.dstOf q ≠ some x.1) || decide (q = i) || (R.preOf q).contains i := rfl
omit [DS] in
theorem envFin_eq : R.envFin V L0 = (List.range R.dst.length).filterMap (fmF R V) ++ L0.filter fun x => (List.range R.dst.length).all fun q => decide (R.dstOf q ≠ some x.1) := rfl
omit [DS] in
theorem dE_fm {V : List (Nat × SV)} (l : List Nat) : dE (prS R V l) = l.filterMap (fmF R (dE V)) := by
  induction l with
  | nil => rfl
  | cons p r ih =>
    have e : prS R V (p :: r) = (match R.dstOf p, lk V p with | some d, some v => [(d, v)] | _, _ => []) ++ prS R V r := by
      unfold prS
      rw [List.filterMap_cons]
      cases R.dstOf p <;> cases lk V p <;> rfl
    rw [e, List.filterMap_cons]
    unfold fmF at ih ⊢
    rw [lk_dE]
    unfold dE at ih ⊢
    rw [List.map_append, ih]
    cases R.dstOf p <;> cases lk V p <;> rfl
omit [DS] in
theorem dE_filter {E : List (Nat × SV)} (p : Nat → Bool) : dE (E.filter fun x => p x.1) = (dE E).filter fun x => p x.1 := by
  unfold dE
  induction E with
  | nil => rfl
  | cons z r ih =>
    simp only [List.filter_cons, List.map_cons]
    split <;> simp [ih]
omit [DS] in
theorem dE_app {E F : List (Nat × SV)} : dE (E ++ F) = dE E ++ dE F := by unfold dE; simp
omit [DS] in
theorem envS_d (A : Am) (i : Nat) : dE (envS R A i) = R.envOf (dE A.V) (dE A.L0) i := by
  rw [envOf_eq]
  unfold envS
  rw [dE_app, dE_fm, dE_filter fun t => (List.range R.dst.length).all fun q => decide (R.dstOf q ≠ some t) || decide (q = i) || (R.preOf q).contains i]
omit [DS] in
theorem finS_d (A : Am) : dE (finS R A) = R.envFin (dE A.V) (dE A.L0) := by
  rw [envFin_eq]
  unfold finS
  rw [dE_app, dE_fm, dE_filter fun t => (List.range R.dst.length).all fun q => decide (R.dstOf q ≠ some t)]
structure Wk (R : Rg) (ops : Array Oper) : Prop where
  len : R.dst.length = ops.size
  uniq : ∀ {p q t : Nat}, R.dstOf p = some t → R.dstOf q = some t → p = q
  pre : ∀ {i p : Nat}, i < ops.size → p ∈ R.preOf i → p < i
  dst : ∀ {i : Nat} {o : Oper}, ops[i]? = some o → o.dst = R.dstOf i
omit [DS] in
theorem dst_lt (hlen : R.dst.length = ops.size) {p t : Nat} (h : R.dstOf p = some t) : p < ops.size := by
  unfold Rg.dstOf at h
  rw [List.getD_eq_getElem?_getD] at h
  cases hx : R.dst[p]? with
  | none => simp [hx] at h
  | some y => rw [← hlen]; exact (List.getElem?_eq_some_iff.1 hx).1
omit [DS] in
theorem uniq_of (hlen : R.dst.length = ops.size) (h : ∀ i, i < ops.size → ((List.range ops.size).all fun q => decide (q = i) || decide (R.dstOf q = none) || decide (R.dstOf q ≠ R.dstOf i)) = true) {p q t : Nat} (hp : R.dstOf p = some t) (hq : R.dstOf q = some t) : p = q := by
  have h2 := List.all_eq_true.1 (h p (dst_lt hlen hp)) q (List.mem_range.2 (dst_lt hlen hq))
  simp only [Bool.or_eq_true, decide_eq_true_eq] at h2
  rcases h2 with (h2 | h2) | h2
  · exact h2.symm
  · rw [hq] at h2; cases h2
  · rw [hp, hq] at h2; exact absurd rfl h2
theorem Wk.of (hc : R.chk ops = true) : Wk R ops := by
  have one : ∀ {i}, (hi : i < ops.size) → R.one ops i ops[i] = true := fun hi => R.chk_one hc (Array.getElem?_eq_getElem hi)
  refine ⟨R.chk_len hc, uniq_of (R.chk_len hc) fun i hi => ?_, fun hi hp => (R.pre_lt hc (Array.getElem?_eq_getElem hi) hp).1, fun {i o} ho => ?_⟩
  · have h := one hi
    unfold Rg.one at h
    simp only [Bool.and_eq_true] at h
    exact h.1.1.2
  · have h := R.chk_one hc ho
    unfold Rg.one at h
    simp only [Bool.and_eq_true, decide_eq_true_eq] at h
    exact h.1.1.1.1.1
theorem Wk.ofh {R : Rh} (hc : R.chk ops = true) : Wk R.toRg ops := by
  refine ⟨Rh.chk_len hc, uniq_of (Rh.chk_len hc) fun i hi => ?_, fun hi hp => (Rh.pre_lt hc (Array.getElem?_eq_getElem hi) hp).1, fun {i o} ho => ?_⟩
  · have h := Rh.chk_one hc (Array.getElem?_eq_getElem hi)
    unfold Rh.one at h
    simp only [Bool.and_eq_true] at h
    exact h.1.1.2
  · have h := Rh.chk_one hc ho
    unfold Rh.one at h
    simp only [Bool.and_eq_true, decide_eq_true_eq] at h
    exact h.1.1.1.1.1
def valO (V : List (Nat × Value)) : Option Nat → Option Value | some p => Env.get V p | none => none
omit [DS] in
theorem get_fm' {V : List (Nat × Value)} (hc : Wk R ops) {t : Nat} : ∀ {l : List Nat}, Env.get (l.filterMap (fmF R V)) t = valO V (l.find? fun p => decide (R.dstOf p = some t))
  | [] => rfl
  | p :: r => by
    rw [List.filterMap_cons, List.find?_cons]
    have ih := get_fm' (V := V) hc (t := t) (l := r)
    cases hd : R.dstOf p with
    | none => simpa [fmF, hd] using ih
    | some d =>
      by_cases h : d = t
      · subst h
        simp only [decide_true]
        cases hv : Env.get V p with
        | some v => simp [fmF, hd, hv, Env.get, valO]
        | none =>
          simp only [fmF, hd, hv, valO]
          rw [ih]
          cases hf : r.find? fun q => decide (R.dstOf q = some d) with
          | none => rfl
          | some q =>
            have := List.find?_some hf
            simp only [decide_eq_true_eq] at this
            simp only [valO]
            rw [hc.uniq this hd, hv]
      · have hne : ¬ (some d = some t) := fun e => h (by injection e)
        simp only [hne, decide_false]
        cases hv : Env.get V p with
        | none => simpa [fmF, hd, hv] using ih
        | some v =>
          simp only [fmF, hd, hv, Env.get]
          have : Nat.beq d t = false := by
            cases hb : Nat.beq d t with
            | false => rfl
            | true => exact absurd (Nat.eq_of_beq_eq_true hb) h
          rw [this]
          exact ih
omit [DS] in
theorem get_app' {l1 l2 : List (Nat × Value)} {t : Nat} : Env.get (l1 ++ l2) t = match Env.get l1 t with | some v => some v | none => Env.get l2 t := by
  induction l1 with
  | nil => rfl
  | cons z r ih =>
    obtain ⟨k, v⟩ := z
    simp only [List.cons_append, Env.get]
    cases Nat.beq k t with
    | true => rfl
    | false => exact ih
omit [DS] in
theorem get_fil {p : Nat → Bool} {l : List (Nat × Value)} {t : Nat} : Env.get (l.filter fun x => p x.1) t = if p t then Env.get l t else none := by
  induction l with
  | nil => simp [Env.get]
  | cons z r ih =>
    obtain ⟨k, v⟩ := z
    simp only [List.filter_cons, Env.get]
    cases hb : Nat.beq k t with
    | true =>
      have := Nat.eq_of_beq_eq_true hb
      subst this
      cases hp : p k with
      | true => simp [Env.get]
      | false => simp [hp] at ih ⊢; exact ih
    | false =>
      cases hp : p k with
      | true => simp [Env.get, hb]; simpa using ih
      | false => simpa using ih
omit [DS] in
theorem envOf_mono (hc : Wk R ops) (hi : i < ops.size) (h : SubG V V') {t : Nat} {v : Value} (hv : Env.get (R.envOf V L0 i) t = some v) : Env.get (R.envOf V' L0 i) t = some v := by
  rw [envOf_eq, get_app', get_fm' hc] at hv ⊢
  cases hf : (R.preOf i).find? fun p => decide (R.dstOf p = some t) with
  | none => simpa [hf, valO] using hv
  | some p =>
    simp only [hf, valO] at hv ⊢
    cases hp : Env.get V p with
    | some u =>
      simp only [hp, Option.some.injEq] at hv
      subst hv
      rw [h p u hp]
    | none =>
      exfalso
      simp only [hp] at hv
      rw [get_fil (p := fun t => (List.range R.dst.length).all fun q => decide (R.dstOf q ≠ some t) || decide (q = i) || (R.preOf q).contains i)] at hv
      split at hv
      · rename_i hall
        have h1 := List.find?_some hf
        simp only [decide_eq_true_eq] at h1
        have h2 := hc.pre hi (List.mem_of_find?_eq_some hf)
        have h3 := List.all_eq_true.1 hall p (List.mem_range.2 (by rw [hc.len]; omega))
        simp only [Bool.or_eq_true, decide_eq_true_eq, List.contains_eq_mem] at h3
        rcases h3 with (h3 | h3) | h3
        · exact h3 h1
        · omega
        · have := hc.pre (show p < ops.size by omega) h3
          omega
      · cases hv
omit [DS] in
theorem at_ops {ao : Ao} (h : optMap (cA P its m ops) ops.toList = some aos) (ha : aos[i]? = some ao) : ∃ o, ops[i]? = some o ∧ cA P its m ops o = some ao := by
  have h2 := (optMap_some h).2
  have h3 := congrArg (fun l => l[i]?) h2
  simp only [List.getElem?_map, Array.getElem?_toList, ha, Option.map_some] at h3
  cases ho : ops[i]? with
  | none => simp [ho] at h3
  | some o => simp [ho] at h3; exact ⟨o, rfl, h3⟩
structure CaOk (P : Program) (its : List (Nat × TypeId)) (m : Nat) (ops : Array Oper) (o : Oper) (ao : Ao) : Prop where
  d : ao.d = o.dst
  g : (o.guard = none ∧ ao.g = none) ∨ ∃ j want t, o.guard = some (j, want) ∧ (ops[j]?).bind (·.dst) = some t ∧ ao.g = some (t, want)
  o : match ao.o with | .pick c a b => o.op = .pick (.tmp c) a b ∧ dOk m o.dst = true ∧ o.dst.isSome = true | .op i => cD P its m o = some i
omit [DS] in
theorem cA_ok {o : Oper} {ao : Ao} (h : cA P its m ops o = some ao) : CaOk P its m ops o ao := by
  unfold cA at h
  dsimp only at h
  split at h
  · cases h
  · rename_i gg hg
    have hg' : (o.guard = none ∧ gg = none) ∨ ∃ j want t, o.guard = some (j, want) ∧ (ops[j]?).bind (·.dst) = some t ∧ gg = some (t, want) := by
      split at hg
      · rename_i hn; cases some_inj hg; exact .inl ⟨hn, rfl⟩
      · rename_i j want hn
        obtain ⟨t, h1, h2⟩ := map_some' hg
        cases h2
        exact .inr ⟨j, want, t, hn, h1, rfl⟩
    split at h
    · rename_i c a b hop
      obtain ⟨h1, rfl⟩ := ifs h
      simp only [Bool.and_eq_true] at h1
      exact ⟨rfl, hg', hop, h1.1, h1.2⟩
    · obtain ⟨i, h1, rfl⟩ := map_some' h
      exact ⟨rfl, hg', h1⟩
end
end Go.Vc.Ex

namespace Go.Vc.Ex
open Go Go.Vc
structure AOk (f : Nat → Option Addr) (g : Nat → Nat) (A : Am) : Prop where
  V : ∀ z ∈ A.V, z.2.ok f g A.nx
  L : ∀ z ∈ A.L0, z.2.ok f g A.nx
  u : ∀ z ∈ A.V, lk A.V z.1 = some z.2
structure Ext (f f' : Nat → Option Addr) (g g' : Nat → Nat) (A A' : Am) : Prop where
  ok : AOk f' g' A'
  le : A.nx ≤ A'.nx
  f : ∀ j < A.nx, f' j = f j
  g : ∀ j < A.nx, g' j = g j
  L0 : dE A'.L0 = dE A.L0
  V : ∀ i v, lk A.V i = some v → ∃ v', lk A'.V i = some v' ∧ Same v v'
section
variable [DS] {P : Program} {ops : Array Oper} {aos : List Ao} {R : Rg} {n m : Nat} {its : List (Nat × TypeId)} {i j : Nat} {A A' : Am} {w : World} {f f' f'' : Nat → Option Addr} {g g' g'' : Nat → Nat}
omit [DS] in
theorem Ext.rfl (h : AOk f g A) : Ext f f g g A A := ⟨h, Nat.le_refl _, fun _ _ => Eq.refl _, fun _ _ => Eq.refl _, Eq.refl _, fun _ v h => ⟨v, h, .rfl⟩⟩
omit [DS] in
theorem Ext.trans {A'' : Am} (h1 : Ext f f' g g' A A') (h2 : Ext f' f'' g' g'' A' A'') : Ext f f'' g g'' A A'' :=
  ⟨h2.ok, Nat.le_trans h1.le h2.le, fun j hj => by rw [h2.f j (Nat.lt_of_lt_of_le hj h1.le), h1.f j hj], fun j hj => by rw [h2.g j (Nat.lt_of_lt_of_le hj h1.le), h1.g j hj], by rw [h2.L0, h1.L0], fun i v h => by
    obtain ⟨v1, h3, h4⟩ := h1.V i v h
    obtain ⟨v2, h5, h6⟩ := h2.V i v1 h3
    exact ⟨v2, h5, h4.trans h6⟩⟩
omit [DS] in
theorem Ext.sub (h : Ext f f' g g' A A') : SubG (dE A.V) (dE A'.V) := fun i v hv => by
  rw [lk_dE] at hv ⊢
  cases hl : lk A.V i with
  | none => simp [hl] at hv
  | some u =>
    obtain ⟨u', h1, h2⟩ := h.V i u hl
    simp only [hl, Option.map_some, Option.some.injEq] at hv
    rw [h1, Option.map_some, h2.d, hv]
def Now (P : Program) (ops : Array Oper) (R : Rg) (m : Nat) (L0 : List (Nat × Value)) (A : Am) (i : Nat) (w : World) : Prop :=
  ∃ o v env, ops[i]? = some o ∧ lk A.V i = some v ∧ SubG env (R.envOf (dE A.V) L0 i) ∧ ∀ a, Has m DS.ds a env → wpList P ops (fun e a' w' => e = .normal ∧ w' = w ∧ Has m DS.ds a' (slotD (R.dstOf i) v.d)) [o] a w
def ShO : AO → SV → Prop
  | .op (.ld ..), v => v = .no ∨ ∃ y, v = .l y
  | .op (.ldN ..), v => v = .no ∨ ∃ y, v = .g y
  | .op (.tS ..), v => v = .no ∨ ∃ e, v = .l (.s e)
  | _, _ => True
def AgO (P : Program) : AO → List (Nat × Value) → Value → World → Prop
  | .op i, env, u, w => AgD P i env u w
  | .pick .., _, _, _ => True
def Just (P : Program) (ops : Array Oper) (aos : List Ao) (R : Rg) (m : Nat) (L0 : List (Nat × Value)) (A : Am) (i : Nat) : Prop :=
  ∃ o ao v env, ops[i]? = some o ∧ aos[i]? = some ao ∧ lk A.V i = some v ∧ ShO ao.o v ∧ SubG env (R.envOf (dE A.V) L0 i) ∧
    ∀ w, (v ≠ .no → AgO P ao.o env v.d w) → ∀ a, Has m DS.ds a env → wpList P ops (fun e a' w' => e = .normal ∧ w' = w ∧ Has m DS.ds a' (slotD (R.dstOf i) v.d)) [o] a w
theorem Now.ext {L0 : List (Nat × Value)} (hc : Wk R ops) (h : Now P ops R m L0 A i w) (e : Ext f f' g g' A A') : Now P ops R m L0 A' i w := by
  obtain ⟨o, v, env, h1, h2, h3, h4⟩ := h
  obtain ⟨v', h5, h6⟩ := e.V i v h2
  refine ⟨o, v', env, h1, h5, fun t u hu => envOf_mono hc (Array.getElem?_eq_some_iff.1 h1).1 e.sub (h3 t u hu), ?_⟩
  rw [h6.d]
  exact h4
theorem Just.ext {L0 : List (Nat × Value)} (hc : Wk R ops) (h : Just P ops aos R m L0 A i) (e : Ext f f' g g' A A') : Just P ops aos R m L0 A' i := by
  obtain ⟨o, ao, v, env, h1, h1', h2, hs, h3, h4⟩ := h
  obtain ⟨v', h5, h6⟩ := e.V i v h2
  refine ⟨o, ao, v', env, h1, h1', h5, ?_, fun t u hu => envOf_mono hc (Array.getElem?_eq_some_iff.1 h1).1 e.sub (h3 t u hu), ?_⟩
  · have l1 : ∀ {q : Prop}, (v = .no ∨ q) → (q → q) → (v' = .no ∨ q) := fun h _ => h.imp h6.u id
    revert hs
    cases ao.o with
    | pick => intro _; trivial
    | op x =>
      cases x <;> intro hs <;> first | trivial | skip
      · rcases hs with hs | ⟨y, hs⟩
        · exact .inl (h6.u hs)
        · exact .inr ⟨y, (h6.s y hs).trans hs⟩
      · rcases hs with hs | ⟨y, hs⟩
        · exact .inl (h6.u hs)
        · exact .inr (h6.l y hs)
      · rcases hs with hs | ⟨y, hs⟩
        · exact .inl (h6.u hs)
        · exact .inr (h6.g y hs)
  · intro w hw
    rw [h6.d] at hw ⊢
    exact h4 w fun hne => hw fun hu => hne (h6.u' hu)
theorem Now.ans {L0 : List (Nat × Value)} (h : Now P ops R m L0 A i w) : Ans P ops m L0 R (dE A.V) w i := by
  obtain ⟨o, v, env, h1, h2, h3, h4⟩ := h
  exact ⟨o, v.d, h1, by rw [lk_dE, h2]; rfl, fun a H => h4 a (H.of h3)⟩
omit [DS] in
theorem lk_prS {V : List (Nat × SV)} {l : List Nat} {t : Nat} {v : SV} (h : lk (prS R V l) t = some v) : ∃ p ∈ l, R.dstOf p = some t ∧ lk V p = some v := by
  have h1 := lk_mem h
  unfold prS at h1
  obtain ⟨p, h2, h3⟩ := List.mem_filterMap.1 h1
  split at h3
  · rename_i d u h4 h5
    cases some_inj h3
    exact ⟨p, h2, h4, h5⟩
  · cases h3
omit [DS] in
theorem lk_mapI {E : List (Nat × SV)} {h : Nat → SV → SV} {t : Nat} : lk (E.map fun z => (z.1, h z.1 z.2)) t = (lk E t).map (h t) := by
  induction E with
  | nil => rfl
  | cons z r ih =>
    simp only [List.map_cons, lk]
    cases hb : Nat.beq z.1 t with
    | true => rw [Nat.eq_of_beq_eq_true hb]; rfl
    | false => exact ih
omit [DS] in
theorem prS_get {t : Nat} {v : SV} (_hi : i < ops.size) (_hc : Wk R ops) {L0 : List (Nat × Value)} (h : lk (prS R A.V (R.preOf i)) t = some v) : Env.get (R.envOf (dE A.V) L0 i) t = some v.d := by
  rw [envOf_eq, ← dE_fm, get_app', lk_dE, h]; rfl
omit [DS] in
theorem lit_ext (hc : Wk R ops) (hA : AOk f g A) {t : Nat} {e b : Bool} {l : List Nat} (h : lk (prS R A.V l) t = some (.l (.b e b))) : Ext f f g g A (A.lit R t b) := by
  obtain ⟨p, _, h1, h2⟩ := lk_prS h
  have hv : ∀ i v, lk A.V i = some v → R.dstOf i = some t → v = .l (.b e b) := fun i v hv hd => by
    rw [hc.uniq hd h1, h2] at hv
    exact (some_inj hv).symm
  have hm : ∀ i, lk (A.lit R t b).V i = (lk A.V i).map fun v => if R.dstOf i = some t then .l (.b true b) else v := fun i => lk_mapI (E := A.V) (h := fun i v => if R.dstOf i = some t then .l (.b true b) else v)
  refine ⟨⟨fun z hz => ?_, hA.L, fun z hz => ?_⟩, Nat.le_refl _, fun _ _ => rfl, fun _ _ => rfl, rfl, fun i v hi => ?_⟩
  · obtain ⟨y, hy, rfl⟩ := List.mem_map.1 hz
    simp only
    split
    · trivial
    · exact hA.V y hy
  · obtain ⟨y, hy, rfl⟩ := List.mem_map.1 hz
    rw [hm, hA.u y hy]; rfl
  · rw [hm, hi]
    refine ⟨_, rfl, ?_⟩
    split
    · rename_i hd
      rw [hv i v hi hd]
      exact ⟨rfl, fun _ _ => ⟨_, rfl⟩, fun y h => (nomatch h), fun e h => (nomatch h), fun h => (nomatch h), fun h => (nomatch h)⟩
    · exact .rfl
omit [DS] in
theorem spl_el (hc : Wk R ops) (hA : AOk f g A) {l : List Nat} {t : Nat} {K : Bool → Am → Prop} (h : spl R A (lk (prS R A.V l) t) t K) : ∃ b A', K b A' ∧ Ext f f g g A A' ∧ (∀ q, lk A.V q = none → lk A'.V q = none) ∧ ∃ v, lk (prS R A'.V l) t = some v ∧ v.d = .bool b := by
  cases hv : lk (prS R A.V l) t with
  | none => rw [hv] at h; exact h.elim
  | some v =>
    rw [hv] at h
    unfold spl at h
    split at h
    · rename_i e he
      cases some_inj he
      exact ⟨e, A, h, .rfl hA, fun _ h => h, _, hv, rfl⟩
    · rename_i e he
      cases some_inj he
      have key : ∀ b, e = b → ∃ v, lk (prS R (A.lit R t b).V l) t = some v ∧ v.d = .bool b := fun b hb => by
        subst hb
        obtain ⟨p, h1, h2, h3⟩ := lk_prS hv
        have h4 := (lit_ext hc hA hv).sub
        have h5 : Env.get (dE (prS R A.V l)) t = some (.bool e) := by rw [lk_dE, hv]; rfl
        rw [dE_fm, get_fm' hc] at h5
        have h6 : Env.get (dE (prS R (A.lit R t e).V l)) t = some (.bool e) := by
          rw [dE_fm, get_fm' hc]
          revert h5
          cases List.find? (fun p => decide (R.dstOf p = some t)) l with
          | none => intro h5; cases h5
          | some q => intro h5; exact h4 q _ h5
        rw [lk_dE] at h6
        obtain ⟨u, h7, h8⟩ := map_some' h6
        exact ⟨u, h7, h8⟩
      have hno : ∀ b q, lk A.V q = none → lk (A.lit R t b).V q = none := fun b q hq => by
        rw [show lk (A.lit R t b).V q = (lk A.V q).map fun v => if R.dstOf q = some t then .l (.b true b) else v from lk_mapI (E := A.V) (h := fun i v => if R.dstOf i = some t then .l (.b true b) else v), hq]; rfl
      cases e with
      | true => exact ⟨true, _, h.1 rfl, lit_ext hc hA hv, hno true, key true rfl⟩
      | false => exact ⟨false, _, h.2 rfl, lit_ext hc hA hv, hno false, key false rfl⟩
    · exact h.elim
theorem grd_el (hc : Wk R ops) (hA : AOk f g A) {o : Oper} {ao : Ao} (ho : ops[i]? = some o) (hca : CaOk P its m ops o ao) {L0 : List (Nat × Value)} {Kr Ks : Am → Prop} (h : grd R i ao A Kr Ks) :
    ∃ A', Ext f f g g A A' ∧ (∀ q, lk A.V q = none → lk A'.V q = none) ∧ ((Kr A' ∧ ∀ a, Has m DS.ds a (R.envOf (dE A'.V) L0 i) → Region.wanted o (yielded ops a.tmps) = true) ∨ (Ks A' ∧ ∀ a, Has m DS.ds a (R.envOf (dE A'.V) L0 i) → Region.wanted o (yielded ops a.tmps) = false)) := by
  have hi := (Array.getElem?_eq_some_iff.1 ho).1
  obtain ⟨dst, op, ty, pos, af, gd⟩ := o
  unfold grd at h
  rcases hca.g with ⟨h1, h2⟩ | ⟨j, want, t, h1, h2, h3⟩
  · rw [h2] at h
    simp only at h1
    subst h1
    exact ⟨A, .rfl hA, fun _ h => h, .inl ⟨h, fun a _ => rfl⟩⟩
  · rw [h3] at h
    simp only at h1 h
    subst h1
    split at h
    · rename_i hu
      exact ⟨A, .rfl hA, fun _ h => h, .inr ⟨h, fun a H => wantU H h2 (prS_get hi hc hu)⟩⟩
    · obtain ⟨b, A', h4, h5, h5', v, h6, h7⟩ := spl_el hc hA h
      refine ⟨A', h5, h5', ?_⟩
      have hg : Env.get (R.envOf (dE A'.V) L0 i) t = some (.bool b) := by rw [prS_get hi hc h6, h7]
      split at h4
      · rename_i hb
        subst hb
        exact .inl ⟨h4, fun a H => wantG H h2 hg⟩
      · rename_i hb
        refine .inr ⟨h4, fun a H => wantN H h2 hg ?_⟩
        cases b <;> cases want <;> first | rfl | exact absurd rfl hb
end
end Go.Vc.Ex

namespace Go.Vc.Ex
open Go Go.Vc
section
variable [DS] {P : Program} {ops : Array Oper} {aos : List Ao} {R : Rg} {n m : Nat} {its : List (Nat × TypeId)} {i j : Nat} {A A' : Am} {w : World} {f f' f'' : Nat → Option Addr} {g g' g'' : Nat → Nat} {L0 : List (Nat × Value)}
omit [DS] in
theorem dummy (E : List (Nat × SV)) : ∃ m a, Has m [] a (dE E) := by
  let m := (E.map (·.1)).foldl (fun a b => a + b + 1) 0
  have hm : ∀ (l : List Nat) (b : Nat), b ≤ l.foldl (fun a b => a + b + 1) b ∧ ∀ x ∈ l, x < l.foldl (fun a b => a + b + 1) b := by
    intro l
    induction l with
    | nil => intro b; simp
    | cons y l ih =>
      intro b
      obtain ⟨h1, h2⟩ := ih (b + y + 1)
      refine ⟨by simp only [List.foldl_cons]; omega, fun x hx => ?_⟩
      simp only [List.foldl_cons]
      rcases List.mem_cons.1 hx with rfl | hx
      · omega
      · exact h2 x hx
  refine ⟨m, ⟨Array.ofFn (n := m) fun t => ((lk E t.1).map SV.d).getD undef, []⟩, by simp, rfl, fun t v hv => ?_⟩
  rw [lk_dE] at hv
  have hlt : t < m := by
    cases hl : lk E t with
    | none => simp [hl] at hv
    | some u => exact (hm (E.map (·.1)) 0).2 t (List.mem_map.2 ⟨_, lk_mem hl, rfl⟩)
  simp [hlt, hv]
omit [DS] in
theorem AOk.inv (hA : AOk f g A) (i : Nat) : Inv f g ⟨envS R A i, [], A.nx⟩ w := by
  refine ⟨fun z hz => ?_, fun z hz => by simp at hz⟩
  unfold envS at hz
  rcases List.mem_append.1 hz with hz | hz
  · unfold prS at hz
    obtain ⟨p, _, h3⟩ := List.mem_filterMap.1 hz
    split at h3
    · rename_i d u h4 h5
      cases some_inj h3
      exact hA.V (p, u) (lk_mem h5)
    · cases h3
  · exact hA.L z (List.mem_filter.1 hz).1
omit [DS] in
theorem lk_cons_ne {E : List (Nat × SV)} {i t : Nat} {v : SV} (h : i ≠ t) : lk ((i, v) :: E) t = lk E t := by
  simp only [lk]
  cases hb : Nat.beq i t with
  | true => exact absurd (Nat.eq_of_beq_eq_true hb) h
  | false => rfl
omit [DS] in
theorem lk_cons_eq {E : List (Nat × SV)} {i : Nat} {v : SV} : lk ((i, v) :: E) i = some v := by simp [lk]
omit [DS] in
theorem add_ext (hA : AOk f g A) (hn : lk A.V i = none) {v : SV} (hv : v.ok f' g' n) (hle : A.nx ≤ n) (hf : ∀ j < A.nx, f' j = f j) (hg : ∀ j < A.nx, g' j = g j) : Ext f f' g g' A { (A.add i v) with nx := n } := by
  have hne : ∀ {t u}, lk A.V t = some u → i ≠ t := fun h e => by rw [← e, hn] at h; cases h
  refine ⟨⟨fun z hz => ?_, fun z hz => (hA.L z hz).mono hf hg hle, fun z hz => ?_⟩, hle, hf, hg, rfl, fun t u hu => ⟨u, (lk_cons_ne (hne hu)).trans hu, .rfl⟩⟩
  · rcases List.mem_cons.1 hz with rfl | hz
    · exact hv
    · exact (hA.V z hz).mono hf hg hle
  · rcases List.mem_cons.1 hz with rfl | hz
    · exact lk_cons_eq
    · have := hA.u z hz
      exact (lk_cons_ne (hne this)).trans this
theorem run1 {o : Oper} {a : Act} {env : List (Nat × Value)} {v : Value} {d : Nat} (H : Has m DS.ds a env) (hw : Region.wanted o (yielded ops a.tmps) = true) (hd : o.dst = some d) (hlt : d < m) (hr : (execOp a.eval o).run P w = .ok (.value v) w) :
    wpList P ops (fun e a' w' => e = .normal ∧ w' = w ∧ Has m DS.ds a' (slotD (some d) v)) [o] a w :=
  s_run H hw hd hlt hr fun a1 H1 => ⟨rfl, rfl, H1.of fun t u hu => by
    simp only [slotD, Env.get] at hu ⊢
    cases hb : Nat.beq d t with
    | true => rw [hb] at hu; exact hu
    | false => rw [hb] at hu; cases hu⟩
theorem skip1 {o : Oper} {a : Act} {env : List (Nat × Value)} {d : Nat} (H : Has m DS.ds a env) (hw : Region.wanted o (yielded ops a.tmps) = false) (hd : o.dst = some d) (hlt : d < m) :
    wpList P ops (fun e a' w' => e = .normal ∧ w' = w ∧ Has m DS.ds a' (slotD (some d) undef)) [o] a w :=
  s_skip H hw hd hlt fun a1 H1 => ⟨rfl, rfl, H1.of fun t u hu => by
    simp only [slotD, Env.get] at hu ⊢
    cases hb : Nat.beq d t with
    | true => rw [hb] at hu; exact hu
    | false => rw [hb] at hu; cases hu⟩
omit [DS] in
theorem dst_chk (hc : Wk R ops) {o : Oper} (ho : ops[i]? = some o) : o.dst = R.dstOf i := hc.dst ho
omit [DS] in
theorem dst_of {o : Oper} {ao : Ao} (hca : CaOk P its m ops o ao) (he : match ao.o with | .op x => x.ef = false | _ => True) : ∃ d, o.dst = some d ∧ d < m := by
  have h := hca.o
  revert h he
  cases ao.o with
  | pick c a b =>
    intro _ h
    obtain ⟨_, h1, h2⟩ := h
    cases hd : o.dst with
    | none => simp [hd] at h2
    | some d => rw [hd] at h1; exact ⟨d, rfl, lt_ h1⟩
  | op x =>
    intro he h
    obtain ⟨_, h1, h2⟩ := cD_ok h
    cases hd : o.dst with
    | none => exfalso; rw [hd] at h2; simp only at he; revert h2 he; cases x <;> simp [dsB, Ex.I.ef]
    | some d => rw [hd] at h1; exact ⟨d, rfl, lt_ h1⟩
theorem stp_el (hc : Wk R ops) (hof : optMap (cA P its m ops) ops.toList = some aos) (hA : AOk f g A) (hL : dE A.L0 = L0) (hne : ∀ x, (aos[i]?).map Ao.o = some (.op x) → x.ef = false) {K : Am → Prop} (h : stp P R aos w i A K) :
    ∃ f' A', K A' ∧ Ext f f' g g A A' ∧ Just P ops aos R m L0 A' i ∧ Now P ops R m L0 A' i w := by
  unfold stp at h
  split at h
  · exact h.elim
  · exact h.elim
  · rename_i ao ha hn
    obtain ⟨o, ho, hcA⟩ := at_ops hof ha
    have hca := cA_ok hcA
    have hi := (Array.getElem?_eq_some_iff.1 ho).1
    have hd0 := dst_chk hc ho
    obtain ⟨d, hd, hlt⟩ := dst_of hca (by
      have := hne
      rw [ha] at this
      cases hq : ao.o with
      | pick => trivial
      | op x => exact this x (by rw [Option.map_some, hq]))
    have hdi : R.dstOf i = some d := by rw [← hd0, hd]
    obtain ⟨A1, e1, hno1, hgr⟩ := grd_el hc hA ho hca (L0 := L0) h
    -- what is done, is done: from what it answers in every world
    have fin : ∀ {A2 : Am} {v : SV} {f2 : Nat → Option Addr} {n2 : Nat} {V2 : List (Nat × SV)} {L2 : List (Nat × SV)}, Ext f f2 g g A ⟨(i, v) :: V2, L2, n2⟩ → SubG (R.envOf (dE A2.V) L0 i) (R.envOf (dE ((i, v) :: V2)) L0 i) → ShO ao.o v → (v ≠ .no → AgO P ao.o (R.envOf (dE A2.V) L0 i) v.d w) →
        (∀ w, (v ≠ .no → AgO P ao.o (R.envOf (dE A2.V) L0 i) v.d w) → ∀ a, Has m DS.ds a (R.envOf (dE A2.V) L0 i) → wpList P ops (fun e a' w' => e = .normal ∧ w' = w ∧ Has m DS.ds a' (slotD (R.dstOf i) v.d)) [o] a w) →
        Just P ops aos R m L0 ⟨(i, v) :: V2, L2, n2⟩ i ∧ Now P ops R m L0 ⟨(i, v) :: V2, L2, n2⟩ i w := fun {A2 v f2 n2 V2 L2} e hs hsh hag hrun =>
      ⟨⟨o, ao, v, _, ho, ha, lk_cons_eq, hsh, hs, hrun⟩, ⟨o, v, _, ho, lk_cons_eq, hs, hrun w hag⟩⟩
    rcases hgr with ⟨hk, hw⟩ | ⟨hk, hw⟩
    · split at hk
      · rename_i c x y hao
        obtain ⟨b, A2, h2, e2, hno2, v0, h3, h4⟩ := spl_el hc e1.ok hk
        split at h2
        · rename_i v hv
          have hvok : v.ok f g A2.nx := ev_okV (e2.ok.inv (w := w) i).E hv
          have e3 := add_ext e2.ok (hno2 i (hno1 i hn)) hvok (Nat.le_refl _) (fun _ _ => rfl) (fun _ _ => rfl)
          have hL2 : dE A2.L0 = L0 := by rw [e2.L0, e1.L0, hL]
          refine ⟨f, A2.add i v, h2, e1.trans (e2.trans e3), fin (A2 := A2) (e1.trans (e2.trans e3)) (fun t u hu => envOf_mono hc hi e3.sub hu) (by rw [hao]; trivial) (fun _ => by rw [hao]; trivial) fun w' _ a H => ?_⟩
          have h5 := hca.o
          rw [hao] at h5
          rw [hdi]
          refine run1 H (hw a (H.of fun t u hu => envOf_mono hc hi e2.sub hu)) hd hlt ?_
          obtain ⟨dst, op, ty, pos, af, gd⟩ := o
          simp only at h5
          obtain ⟨h5, _⟩ := h5
          subst h5
          have k1 : a.eval (.tmp c) = .bool b := H.eval (show Vc.ev _ (.tmp c) = _ by simp only [Vc.ev]; rw [prS_get hi hc h3, h4])
          have k2 : a.eval (if b then x else y) = v.d := H.eval (by rw [← hL2, ← envS_d]; exact ev_d hv)
          cases b <;> simp at k2 <;> simp [execOp, k1, k2, asBool]
        · exact h2.elim
      · rename_i x hao
        have hcO := hca.o
        rw [hao] at hcO
        obtain ⟨hcO, _, _⟩ := cD_ok hcO
        have hL1 : dE A1.L0 = L0 := by rw [e1.L0, hL]
        obtain ⟨m', a', H'⟩ := dummy (envS R A1 i)
        obtain ⟨v, s', σ, f', ⟨hK, ⟨hshp, hag⟩, hre⟩, W, hv, _⟩ := co_ok (dst := none) (pos := "") (af := #[]) (gd := none) hcO (co_strong rfl hk) (e1.ok.inv i) H'
        have henv : dE (envS R A1 i) = R.envOf (dE A1.V) L0 i := by rw [envS_d, hL1]
        have hnn := hno1 i hn
        have hdV : dE (A1.V.map fun z => (z.1, σ z.2)) = dE A1.V := dE_map fun z hz => (W.keep _ (e1.ok.V z hz)).1
        have e2 : Ext f f' g g A1 ⟨(i, v) :: A1.V.map (fun z => (z.1, σ z.2)), A1.L0.map (fun z => (z.1, σ z.2)), s'.nx⟩ := by
          have hmn : lk (A1.V.map fun z => (z.1, σ z.2)) i = none := by rw [lk_map, hnn]; rfl
          have hne' : ∀ {t u}, lk A1.V t = some u → i ≠ t := fun h e => by rw [← e, hnn] at h; cases h
          refine ⟨⟨fun z hz => ?_, fun z hz => ?_, fun z hz => ?_⟩, W.le, W.ag, fun _ _ => rfl, dE_map fun z hz => (W.keep _ (e1.ok.L z hz)).1, fun t u hu => ⟨σ u, ?_, W.same u (e1.ok.V _ (lk_mem hu))⟩⟩
          · rcases List.mem_cons.1 hz with rfl | hz
            · exact hv
            · obtain ⟨y, hy, rfl⟩ := List.mem_map.1 hz; exact (W.keep _ (e1.ok.V y hy)).2
          · obtain ⟨y, hy, rfl⟩ := List.mem_map.1 hz; exact (W.keep _ (e1.ok.L y hy)).2
          · rcases List.mem_cons.1 hz with rfl | hz
            · exact lk_cons_eq
            · obtain ⟨y, hy, rfl⟩ := List.mem_map.1 hz
              have := e1.ok.u y hy
              exact (lk_cons_ne (hne' this)).trans (by rw [lk_map, this]; rfl)
          · exact (lk_cons_ne (hne' hu)).trans (by rw [lk_map, hu]; rfl)
        refine ⟨f', _, hK, e1.trans e2, fin (A2 := A1) (e1.trans e2) (fun t u hu => envOf_mono hc hi e2.sub hu) ?_ (fun _ => by rw [hao, ← henv]; exact hag) fun w' hw' a H => ?_⟩
        · rw [hao]
          revert hshp
          cases x <;> intro hshp <;> first | trivial | exact .inr hshp
        · rw [hdi]
          refine run1 H (hw a H) hd hlt ?_
          have h6 := hre w' (by
            by_cases hu : v = .no
            · rw [hu] at hshp ⊢; exact agd_triv hshp
            · have := hw' hu; rw [hao, ← henv] at this; exact this)
          · obtain ⟨dst, op, ty, pos, af, gd⟩ := o
            obtain ⟨v', s2, σ2, f2, h7, _, _, h8⟩ := co_ok (dst := dst) (pos := pos) (af := af) (gd := gd) hcO h6 (e1.ok.inv i) (by rw [henv]; exact H)
            rw [← h7]
            exact h8 0 (.inr rfl)
    · have e3 := add_ext e1.ok (hno1 i hn) (v := .no) (f' := f) (g' := g) (n := A1.nx) trivial (Nat.le_refl _) (fun _ _ => rfl) (fun _ _ => rfl)
      refine ⟨f, A1.add i .no, hk, e1.trans e3, fin (A2 := A1) (e1.trans e3) (fun t u hu => envOf_mono hc hi e3.sub hu) ?_ (fun h => absurd rfl h) fun w' _ a H => ?_⟩
      · cases ao.o with
        | pick => trivial
        | op x => cases x <;> first | trivial | exact .inl rfl
      · rw [hdi]
        exact skip1 H (hw a H) hd hlt
theorem news_el (hc : Wk R ops) (hof : optMap (cA P its m ops) ops.toList = some aos) : ∀ {l : List Nat} {A : Am} {f : Nat → Option Addr} {K : Am → Prop}, AOk f g A → dE A.L0 = L0 → (∀ i ∈ l, ∀ x, (aos[i]?).map Ao.o = some (.op x) → x.ef = false) → news P R aos w l A K →
    ∃ f' A', K A' ∧ Ext f f' g g A A' ∧ ∀ i ∈ l, Just P ops aos R m L0 A' i ∧ Now P ops R m L0 A' i w
  | [], A, f, K, hA, _, _, h => ⟨f, A, h, .rfl hA, by simp⟩
  | i :: r, A, f, K, hA, hL, hne, h => by
    obtain ⟨f1, A1, h1, e1, j1, n1⟩ := stp_el hc hof hA hL (hne i (by simp)) h
    obtain ⟨f2, A2, h2, e2, k2⟩ := news_el hc hof e1.ok (by rw [e1.L0, hL]) (fun q hq => hne q (List.mem_cons_of_mem _ hq)) h1
    refine ⟨f2, A2, h2, e1.trans e2, fun q hq => ?_⟩
    rcases List.mem_cons.1 hq with rfl | hq
    · exact ⟨j1.ext hc e2, n1.ext hc e2⟩
    · exact k2 q hq
omit [DS] in
theorem agN_el {e : Addr} : ∀ {vs : List Lf} {k : Nat} {K : Prop}, agN w e k vs K → Cells w e k (vs.map Lf.d) ∧ K
  | [], _, _, h => ⟨trivial, h⟩
  | _ :: r, _, _, h => by
    obtain ⟨h1, h2⟩ := agN_el (vs := r) h.2
    exact ⟨⟨h.1, h1⟩, h2⟩
theorem again_el (hL : dE A.L0 = L0) : ∀ {l : List Nat} {K : Prop}, (∀ i ∈ l, Just P ops aos R m L0 A i) → again P R aos A w l K → K ∧ ∀ i ∈ l, Now P ops R m L0 A i w
  | [], K, _, h => ⟨h, by simp⟩
  | i :: r, K, hj, h => by
    have hj' : ∀ q ∈ r, Just P ops aos R m L0 A q := fun q hq => hj q (List.mem_cons_of_mem _ hq)
    obtain ⟨o, ao, v, env, h1, h2, h3, h4, h5, h6⟩ := hj i (by simp)
    have fin : ∀ (_ : again P R aos A w r K) (_ : v ≠ .no → AgO P ao.o env v.d w), K ∧ ∀ q ∈ i :: r, Now P ops R m L0 A q w := fun ha hag => by
      obtain ⟨k1, k2⟩ := again_el hL hj' ha
      refine ⟨k1, fun q hq => ?_⟩
      rcases List.mem_cons.1 hq with rfl | hq
      · exact ⟨o, v, env, h1, h3, h5, h6 w hag⟩
      · exact k2 q hq
    have hE : ∀ {x : Operand} {u u' : Value}, Vc.ev env x = some u → Vc.ev (R.envOf (dE A.V) L0 i) x = some u' → u = u' := fun {x u u'} e1 e2 => by
      cases x with
      | tmp t => simp only [Vc.ev] at e1 e2; rw [h5 t u e1] at e2; exact some_inj e2
      | const c => simp only [Vc.ev] at e1 e2; cases e1; cases e2; rfl
      | global c => simp only [Vc.ev] at e1 e2; cases e1; cases e2; rfl
      | func c => simp only [Vc.ev] at e1 e2; cases e1; cases e2; rfl
    have hS : ∀ {x : Operand} {y : SV}, ev (envS R A i) x = some y → Vc.ev (R.envOf (dE A.V) L0 i) x = some y.d := fun h => by rw [← hL, ← envS_d]; exact ev_d h
    obtain ⟨ad, ag, aop⟩ := ao
    simp only [again, h2, h3] at h
    cases aop with
    | pick c x y => exact fin h fun _ => trivial
    | op x =>
      cases x
      case ld x l =>
        rcases h4 with h4 | ⟨y, h4⟩
        · subst h4; exact fin h fun h => absurd rfl h
        · subst h4
          simp only at h
          split at h
          · rename_i k e hx
            refine fin h.2 fun _ p hp => ?_
            have := hE hp (hS hx)
            simp only [SV.d, Lf.d, Value.pointer.injEq, Option.some.injEq] at this
            rw [this]; exact h.1
          · exact h.elim
      case ldN x l =>
        rcases h4 with h4 | ⟨y, h4⟩
        · subst h4; exact fin h fun h => absurd rfl h
        · subst h4
          simp only at h
          split at h
          · rename_i k e hx
            obtain ⟨h7, h8⟩ := agN_el h
            refine fin h8 fun _ p cs hp hu => ?_
            have := hE hp (hS hx)
            simp only [SV.d, Lf.d, Value.pointer.injEq, Option.some.injEq] at this
            simp only [SV.d, Value.agg.injEq] at hu
            rw [this, ← hu]; exact h7
          · exact h.elim
      case tS t u x =>
        rcases h4 with h4 | ⟨y, h4⟩
        · subst h4; exact fin h fun h => absurd rfl h
        · subst h4
          simp only at h
          split at h
          · rename_i xv hx
            refine fin h.2 fun _ xv' e' hx' hu => ?_
            have := hE hx' (hS hx)
            simp only [SV.d, Lf.d, Value.string.injEq] at hu
            rw [this, ← hu]; exact h.1
          · exact h.elim
      all_goals exact fin h fun _ => trivial
omit [DS] in
theorem avail_mem (hlen : R.dst.length = ops.size) {j i : Nat} : i ∈ R.avail j ↔ i < ops.size ∧ R.eff.contains i = false ∧ R.loOf i ≤ j ∧ j ≤ R.hiOf i := by
  unfold Rg.avail
  rw [List.mem_filter, List.mem_range, hlen]
  simp only [Bool.and_eq_true, Bool.not_eq_true', decide_eq_true_eq]
  constructor
  · rintro ⟨h1, ⟨h2, h3⟩, h4⟩; exact ⟨h1, h2, h3, h4⟩
  · rintro ⟨h1, h2, h3, h4⟩; exact ⟨h1, ⟨h2, h3⟩, h4⟩
omit [DS] in
theorem allL_of {F : Nat → Prop} : ∀ {l : List Nat}, (∀ i ∈ l, F i) → AllL F l
  | [], _ => trivial
  | i :: r, h => ⟨h i (by simp), allL_of fun q hq => h q (List.mem_cons_of_mem _ hq)⟩
omit [DS] in
theorem sub_mem {L : List (Nat × Value)} : ∀ {l : List (Nat × Value)}, (∀ z ∈ l, Env.get L z.1 = some z.2) → Sub l L
  | [], _ => trivial
  | (k, v) :: r, h => ⟨h (k, v) (by simp), sub_mem fun z hz => h z (List.mem_cons_of_mem _ hz)⟩
omit [DS] in
theorem sub_of_u {L : List (Nat × Value)} (hA : AOk f g A) (h : SubG (dE A.V) L) : Sub (dE A.V) L := sub_mem fun z hz => by
  obtain ⟨y, hy, rfl⟩ := List.mem_map.1 hz
  exact h _ _ (by rw [lk_dE, hA.u y hy]; rfl)
theorem stA_el {Q : Ending → World → Prop} {QX : Exit → Act → World → Prop} {K : St → World → Prop} (hc : Wk R ops) (hof : optMap (cA P its m ops) ops.toList = some aos)
    (hne : ∀ i, R.eff.contains i = false → ∀ x, (aos[i]?).map Ao.o = some (.op x) → x.ef = false)
    (hn : ∀ A w f g a, K ⟨finS R A, [], A.nx⟩ w → AOk f g A → dE A.L0 = L0 → Has m DS.ds a (dE (finS R A)) → QX .normal a w)
    (hp : ∀ c w a L, Q (.panicked c) w → Has m DS.ds a L → QX (.panic c) a w) : ∀ {rest : List Nat} {j : Nat} {A : Am} {w : World} {f : Nat → Option Addr} {g : Nat → Nat}, AOk f g A → dE A.L0 = L0 →
    (∀ i, i < ops.size → R.eff.contains i = false → R.loOf i < j → Just P ops aos R m L0 A i) → stA P Q R aos K rest j A w → ∃ V, SubG (dE A.V) V ∧ Stg P ops QX m L0 R rest j V w := by
  intro rest
  induction rest with
  | nil =>
    intro j A w f g hA hL hj h
    have hlen := hc.len
    simp only [stA] at h
    obtain ⟨h1, n1⟩ := again_el (P := P) (ops := ops) (m := m) hL (fun i hi => by
      unfold oldL at hi
      rw [List.mem_filter, List.mem_range, hlen] at hi
      simp only [Bool.and_eq_true, Bool.not_eq_true'] at hi
      exact hj i hi.1 hi.2.1.1 (Nat.lt_of_succ_le (Nat.le_of_ble_eq_true hi.2.1.2))) h
    obtain ⟨f2, A2, h2, e2, k2⟩ := news_el hc hof hA hL (fun i hi => hne i (by
      unfold newL at hi
      simp only [List.mem_filter, Bool.and_eq_true, Bool.not_eq_true'] at hi
      exact hi.2.1)) h1
    refine ⟨dE A2.V, e2.sub, allL_of fun i hi => ?_, fun a H => hn A2 w f2 g a h2 e2.ok (by rw [e2.L0, hL]) (by rw [finS_d, e2.L0, hL]; exact H)⟩
    obtain ⟨q1, q2, q3, q4⟩ := (avail_mem hlen).1 hi
    by_cases hq : R.loOf i = j
    · refine (k2 i ?_).2.ans
      unfold newL
      rw [List.mem_filter, List.mem_range, hlen]
      exact ⟨q1, by rw [q2, hq]; simp⟩
    · refine ((n1 i ?_).ext hc e2).ans
      unfold oldL
      rw [List.mem_filter, List.mem_range, hlen]
      exact ⟨q1, by rw [q2]; simp [Nat.ble_eq]; omega⟩
  | cons e rest ih =>
    intro j A w f g hA hL hj h
    have hlen := hc.len
    simp only [stA] at h
    obtain ⟨h1, n1⟩ := again_el (P := P) (ops := ops) (m := m) hL (fun i hi => by
      unfold oldL at hi
      rw [List.mem_filter, List.mem_range, hlen] at hi
      simp only [Bool.and_eq_true, Bool.not_eq_true'] at hi
      exact hj i hi.1 hi.2.1.1 (Nat.lt_of_succ_le (Nat.le_of_ble_eq_true hi.2.1.2))) h
    obtain ⟨f2, A2, h2, e2, k2⟩ := news_el hc hof hA hL (fun i hi => hne i (by
      unfold newL at hi
      simp only [List.mem_filter, Bool.and_eq_true, Bool.not_eq_true'] at hi
      exact hi.2.1)) h1
    have hL2 : dE A2.L0 = L0 := by rw [e2.L0, hL]
    -- all that has come ahead of the next stage
    have hj2 : ∀ i, i < ops.size → R.eff.contains i = false → R.loOf i < j + 1 → Just P ops aos R m L0 A2 i := fun i q1 q2 q3 => by
      by_cases hq : R.loOf i = j
      · refine (k2 i ?_).1
        unfold newL
        rw [List.mem_filter, List.mem_range, hlen]
        exact ⟨q1, by rw [q2, hq]; simp⟩
      · exact (hj i q1 q2 (by omega)).ext hc e2
    have hnow : ∀ {A3 : Am} {f3 : Nat → Option Addr}, Ext f2 f3 g g A2 A3 → AllL (Ans P ops m L0 R (dE A3.V) w) (R.avail j) := fun {A3 f3} e3 => allL_of fun i hi => by
      obtain ⟨q1, q2, q3, q4⟩ := (avail_mem hlen).1 hi
      by_cases hq : R.loOf i = j
      · refine ((k2 i ?_).2.ext hc e3).ans
        unfold newL
        rw [List.mem_filter, List.mem_range, hlen]
        exact ⟨q1, by rw [q2, hq]; simp⟩
      · refine ((n1 i ?_).ext hc (e2.trans e3)).ans
        unfold oldL
        rw [List.mem_filter, List.mem_range, hlen]
        exact ⟨q1, by rw [q2]; simp [Nat.ble_eq]; omega⟩
    split at h2
    · exact h2.elim
    · exact h2.elim
    · rename_i ao ha hno
      obtain ⟨o, ho, hcA⟩ := at_ops hof ha
      have hca := cA_ok hcA
      have hi := (Array.getElem?_eq_some_iff.1 ho).1
      have hd0 := dst_chk hc ho
      obtain ⟨A3, e3, hno3, hgr⟩ := grd_el hc e2.ok ho hca (L0 := L0) h2
      have hL3 : dE A3.L0 = L0 := by rw [e3.L0, hL2]
      have henv : dE (envS R A3 e) = R.envOf (dE A3.V) L0 e := by rw [envS_d, hL3]
      refine ⟨dE A3.V, (e2.trans e3).sub, hnow e3, o, ho, fun a H => ?_⟩
      have hn3 := hno3 e hno
      rcases hgr with ⟨hk, hw⟩ | ⟨hk, hw⟩
      · split at hk
        · rename_i x hao
          have hcO := hca.o
          rw [hao] at hcO
          obtain ⟨hcO, hd1, hd2⟩ := cD_ok hcO
          obtain ⟨dst, op, ty, pos, af, gd⟩ := o
          simp only at hd0
          refine ef_ok hcO hd1 hd2 hk (e3.ok.inv (w := w) e) (by rw [henv]; exact H) (hw a H) (fun v s' w' f' g' a' hk' T H' => ?_) fun c w' a' hq H' => hp c w' a' _ hq H'
          have e4 : Ext f2 f' g g' A3 { (A3.add e v) with nx := s'.nx } := add_ext e3.ok hn3 T.v T.le T.f T.g
          obtain ⟨V', hV, hst⟩ := ih e4.ok (by rw [e4.L0, hL3]) (fun i q1 q2 q3 => ((hj2 i q1 q2 q3).ext hc e3).ext hc e4) hk'
          refine effQ.ok (v := v.d) (H'.of fun t u hu => ?_) ⟨V', ?_, hst⟩
          · rw [← hd0] at hu
            cases dst with
            | none => cases hu
            | some d =>
              simp only [slotD, Env.get] at hu
              simp only [slotS, List.cons_append, Env.get]
              cases hb : Nat.beq d t with
              | true => rw [hb] at hu; exact hu
              | false => rw [hb] at hu; cases hu
          · exact sub_of_u e4.ok hV
        · exact hk.elim
      · have e4 : Ext f2 f2 g g A3 (A3.add e .no) := add_ext e3.ok hn3 (v := .no) (n := A3.nx) trivial (Nat.le_refl _) (fun _ _ => rfl) (fun _ _ => rfl)
        obtain ⟨V', hV, hst⟩ := ih e4.ok (by rw [e4.L0, hL3]) (fun i q1 q2 q3 => ((hj2 i q1 q2 q3).ext hc e3).ext hc e4) hk
        have hw' := hw a H
        unfold wpList
        rw [if_neg (by rw [hw']; simp)]
        refine effQ.ok (v := undef) ?_ ⟨V', sub_of_u e4.ok hV, hst⟩
        rw [← hd0]
        have hdm : dOk m o.dst = true := by
          have h5 := hca.o
          revert h5
          cases ao.o with
          | pick c x y => intro h5; exact h5.2.1
          | op x => intro h5; exact (cD_ok h5).2.1
        cases hd : o.dst with
        | none => exact H.of fun t u hu => by cases hu
        | some d =>
          rw [hd] at hdm
          refine (H.put (lt_ hdm) undef).of fun t u hu => ?_
          simp only [slotD, Env.get] at hu ⊢
          cases hb : Nat.beq d t with
          | true => rw [hb] at hu; exact hu
          | false => rw [hb] at hu; cases hu
end
end Go.Vc.Ex

namespace Go.Vc.Ex
open Go Go.Vc
def KC (ws : List Nat) (s s' : St) : Prop := ∀ t, t ∉ ws → ∀ v, lk s.E t = some v → ∃ v', lk s'.E t = some v' ∧ v'.d = v.d
theorem KC.rfl {ws : List Nat} {s : St} : KC ws s s := fun _ _ v h => ⟨v, h, Eq.refl _⟩
theorem KC.trans {a b : List Nat} {s1 s2 s3 : St} (h1 : KC a s1 s2) (h2 : KC b s2 s3) {c : List Nat} (ha : ∀ t ∈ a, t ∈ c) (hb : ∀ t ∈ b, t ∈ c) : KC c s1 s3 := fun t ht v hv => by
  obtain ⟨v1, h3, h4⟩ := h1 t (fun h => ht (ha t h)) v hv
  obtain ⟨v2, h5, h6⟩ := h2 t (fun h => ht (hb t h)) v1 h3
  exact ⟨v2, h5, h6.trans h4⟩
theorem KC.mono {a c : List Nat} {s s' : St} (h : KC a s s') (ha : ∀ t ∈ a, t ∈ c) : KC c s s' := fun t ht => h t fun q => ht (ha t q)
theorem Keeps.kc {l : List Oper} {s s' : St} (h : Keeps l s s') : KC (dsts l) s s' := fun t ht v hv => by
  obtain ⟨v', h1, h2, _⟩ := h t (fun o ho he => ht (dsts_mem.2 ⟨o, ho, he⟩)) v hv
  exact ⟨v', h1, h2⟩
section
variable [DS] {X : Cx} {ops : Array Oper} {s : St} {a : Act} {w : World} {f : Nat → Option Addr} {g : Nat → Nat} {QX : Exit → Act → World → Prop} {Q : Ending → World → Prop} {K : Cn}
omit [DS] in
theorem Inv.drew {k : Nat} (I : Inv f g s w) : Inv f g s (w.drewN k) := ⟨I.E, I.kn⟩
omit [DS] in
theorem arr_lit (ops : Array Oper) : ops = ops.toList.toArray := by simp
theorem quiet_ok {P : Program} {its : List (Nat × TypeId)} {m : Nat} {k : Nat} {l2 : List Oper} {L : Ex.L} {K : St → World → Prop} (hc : cL P its m ops k none l2 = some L) (he : L.hasEf = false) (h : L.den P true Q s w fun s w => ∀ k : Nat, K s (w.drewN k)) (I : Inv f g s w) (H : Has m DS.ds a (dE s.E))
    (hn : ∀ s' w' f' g' a', K s' w' → Inv f' g' s' w' → Keeps l2 s s' → Has m DS.ds a' (dE s'.E) → QX .normal a' w') :
    wpQuiet P ops (fun w' => ∃ n, w' = w.drewN n) (fun a' => ∀ w', (∃ n, w' = w.drewN n) → QX .normal a' w') l2 a := by
  have hR : Ln true P ops Q m DS.ds (fun e _ _ => match e with | .panic _ => True | _ => False) (fun l a w' => w' = w → wpQuiet P ops (fun w' => ∃ n, w' = w.drewN n) (fun a' => ∀ w', (∃ n, w' = w.drewN n) → QX .normal a' w') l a) := ⟨Rn.quiet, fun h => (nomatch h), fun h => (nomatch h), fun _ _ => trivial⟩
  have := L_ok hR k (rest := []) hc (fun h => by rw [he] at h; cases h) (L.den_same he h) I H (cx := none) trivial fun s' w' f' g' a' hk I' hkp H' => fun _ => ?_
  · simpa using this rfl
  · obtain ⟨rfl, hk⟩ := hk
    intro w'' ⟨k, hw⟩
    subst hw
    exact hn s' _ f' g' a' (hk k) I'.drew hkp H'
theorem R_ok {draw : Bool} {t : T} {id : Nat} (hF : ∀ fr : Fr, t = .free fr → frB fr ops = true → X.P.follows .mixedOrders = true → optMap (cA X.P X.its X.n ops) ops.toList = some fr.ops → (Code.region id ops true).wp X.P QX a w) (hc : cR X ops draw = some t) (h : t.den X.P Q s w K) (I : Inv f g s w) (H : Has X.n DS.ds a (dE s.E))
    (hn : ∀ s' w' f' g' a', K.n s' w' → Inv f' g' s' w' → KC (dsts ops.toList) s s' → Has X.n DS.ds a' (dE s'.E) → QX .normal a' w')
    (hp : ∀ c w' a' L', Q (.panicked c) w' → Has X.n DS.ds a' L' → QX (.panic c) a' w') : (Code.region id ops draw).wp X.P QX a w := by
  unfold cR at hc
  dsimp only at hc
  split at hc
  · rename_i hd
    have hd : draw = true := hd
    subst hd
    split at hc
    · rename_i hmix
      split at hc
      · -- nothing turns the world
        obtain ⟨hB, hc⟩ := ifs' hc
        split at hc
        · rename_i l hl
          split at hc
          · cases hc
          · rename_i he
            cases some_inj hc
            have he : l.hasEf = false := by simpa using he
            rw [arr_lit ops]
            refine c_regD hmix (by simpa using hB) ?_
            simp only [T.den] at h
            have := quiet_ok (ops := ops) (QX := QX) hl he h I H fun s' w' f' g' a' hk I' hkp H' => hn s' w' f' g' a' hk I' hkp.kc H'
            simpa using this
        · cases hc
      · rename_i k0 _
        split at hc
        · -- the first operations stand in one order
          rename_i hB
          simp only [Bool.and_eq_true] at hB
          obtain ⟨⟨hB1, hB2⟩, hB3⟩ := hB
          split at hc
          · rename_i l1 l2 hl1 hl2
            split at hc
            · cases hc
            · rename_i he
              cases some_inj hc
              have he : l2.hasEf = false := by simpa using he
              rw [arr_lit ops]
              refine c_pre (k0 + 1) hmix (by simpa using hB1) (by simpa using Nat.eq_of_beq_eq_true hB2) (by simpa using hB3) ?_
              simp only [T.den] at h
              have hR : Ln false X.P ops Q X.n DS.ds (preQ X.P ops QX (ops.toList.drop (k0 + 1))) (wpList X.P ops (preQ X.P ops QX (ops.toList.drop (k0 + 1)))) := ⟨Rn.list, fun _ h => h, fun _ h => h, fun hq H => hp _ _ _ _ hq H⟩
              have := L_ok hR _ (rest := []) hl1 (fun _ => rfl) h I.drew H (cx := none) trivial fun s' w' f' g' a' hk I' hkp H' => ?_
              · simpa using this
              · refine quiet_ok (ops := ops) (QX := QX) hl2 he hk I' H' fun s2 w2 f2 g2 a2 hk2 I2 hkp2 H2 => hn s2 w2 f2 g2 a2 hk2 I2 ?_ H2
                have := hkp.trans hkp2
                rw [List.take_append_drop] at this
                exact this.kc
          · cases hc
        · split at hc
          · -- stages
            obtain ⟨hchk, hc⟩ := ifs' hc
            obtain ⟨aos, hof, rfl⟩ := map_some' hc
            simp only [T.den] at h
            have hlen := Rg.chk_len hchk
            have hne : ∀ i, (rgOf ops (efsOf X.P X.its ops.toList)).eff.contains i = false → ∀ x, (aos[i]?).map Ao.o = some (.op x) → x.ef = false := fun i hi x hx => by
              -- what turns the world is told among those that do
              cases hao : aos[i]? with
              | none => simp [hao] at hx
              | some ao =>
                simp only [hao, Option.map_some, Option.some.injEq] at hx
                obtain ⟨o, ho, hcA⟩ := at_ops hof hao
                have h5 := (cA_ok hcA).o
                rw [hx] at h5
                obtain ⟨h5, _, _⟩ := cD_ok h5
                cases hef : x.ef with
                | false => rfl
                | true =>
                  exfalso
                  have : i ∈ efsOf X.P X.its ops.toList := by
                    unfold efsOf
                    rw [List.mem_map]
                    refine ⟨(o, i), List.mem_filter.2 ⟨?_, by simp [h5, hef]⟩, rfl⟩
                    rw [List.mk_mem_zipIdx_iff_getElem?]
                    simpa using ho
                  have h6 : (rgOf ops (efsOf X.P X.its ops.toList)).eff.contains i = true := List.contains_iff_mem.2 this
                  rw [hi] at h6
                  cases h6
            have hfin : ∀ (A : Am) w' f' g' a', K.n ⟨finS (rgOf ops (efsOf X.P X.its ops.toList)) A, [], A.nx⟩ w' → AOk f' g' A → dE A.L0 = dE s.E → Has X.n DS.ds a' (dE (finS (rgOf ops (efsOf X.P X.its ops.toList)) A)) → QX .normal a' w' := fun A w' f' g' a' hk hA hL H' => by
              refine hn _ w' f' g' a' hk ⟨fun z hz => ?_, fun z hz => by simp at hz⟩ (fun t ht v hv => ?_) H'
              · unfold finS at hz
                rcases List.mem_append.1 hz with hz | hz
                · unfold prS at hz
                  obtain ⟨p, _, h3⟩ := List.mem_filterMap.1 hz
                  split at h3
                  · rename_i d u h4 h5
                    cases some_inj h3
                    exact hA.V (p, u) (lk_mem h5)
                  · cases h3
                · exact hA.L z (List.mem_filter.1 hz).1
              · have hnd : ∀ q, (rgOf ops (efsOf X.P X.its ops.toList)).dstOf q ≠ some t := fun q hq => by
                  unfold Rg.dstOf at hq
                  rw [List.getD_eq_getElem?_getD] at hq
                  have : (rgOf ops (efsOf X.P X.its ops.toList)).dst = ops.toList.map (·.dst) := rfl
                  rw [this, List.getElem?_map] at hq
                  cases ho : ops.toList[q]? with
                  | none => simp [ho] at hq
                  | some o => simp [ho] at hq; exact ht (dsts_mem.2 ⟨o, List.mem_of_getElem? ho, hq⟩)
                have h6 : Env.get (dE (finS (rgOf ops (efsOf X.P X.its ops.toList)) A)) t = some v.d := by
                  rw [finS_d, envFin_eq, get_app', get_fm' (.of hchk)]
                  have : List.find? (fun p => decide ((rgOf ops (efsOf X.P X.its ops.toList)).dstOf p = some t)) (List.range (rgOf ops (efsOf X.P X.its ops.toList)).dst.length) = none := by
                    rw [List.find?_eq_none]; intro q _; simpa using hnd q
                  rw [this]
                  simp only [valO]
                  rw [get_fil (p := fun t => (List.range (rgOf ops (efsOf X.P X.its ops.toList)).dst.length).all fun q => decide ((rgOf ops (efsOf X.P X.its ops.toList)).dstOf q ≠ some t)), if_pos, hL, lk_dE, hv]
                  · rfl
                  · rw [List.all_eq_true]; intro q _; simpa using hnd q
                rw [lk_dE] at h6
                obtain ⟨u, h7, h8⟩ := map_some' h6
                exact ⟨u, h7, h8⟩
            obtain ⟨V, _, hst⟩ := stA_el (L0 := dE s.E) (QX := QX) (Q := Q) (K := K.n) (.of hchk) hof hne hfin hp (A := ⟨[], s.E, s.nx⟩) (f := f) (g := g) (j := 0) ⟨by simp, I.E, by simp⟩ rfl (fun i _ _ h => by omega) h
            rw [arr_lit ops]
            exact c_any _ (dE s.E) hmix (by simpa using hchk) H (by simpa using hst)
          · split at hc
            · rename_i aos os has _
              obtain ⟨hb, rfl⟩ := ifs hc
              exact hF _ rfl hb hmix has
            · cases hc
    · cases hc
  · rename_i hd
    have hd : draw = false := by simpa using hd
    subst hd
    obtain ⟨l, hl, rfl⟩ := map_some' hc
    simp only [T.den] at h
    refine wp_region_list ?_
    have hR : Ln false X.P ops Q X.n DS.ds QX (wpList X.P ops QX) := ⟨Rn.list, fun _ h => h, fun _ h => h, fun hq H => hp _ _ _ _ hq H⟩
    have := L_ok hR _ (rest := []) hl (fun _ => rfl) h I H (cx := none) trivial fun s' w' f' g' a' hk I' hkp H' => hn s' w' f' g' a' hk I' hkp.kc H'
    simpa using this
end
end Go.Vc.Ex
