/-
  The executor is right: code. Nothing of any program stands here.
-/
import Derived.Test.YtabifopphhpciaaGreatDoorM4
import Derived.Test.YtabifopphhpciaaGreatDoorRecVc
namespace Go.Vc.Ex
open Go Go.Vc
theorem ins_mem {t x : Nat} : ∀ {l : List Nat}, t ∈ ins x l ↔ t = x ∨ t ∈ l
  | [] => by simp [ins]
  | y :: r => by
    simp only [ins]
    split
    · rename_i h
      have := Nat.eq_of_beq_eq_true h
      subst this
      simp
    · split
      · simp
      · rw [List.mem_cons, ins_mem (l := r), List.mem_cons]
        constructor
        · rintro (h | h | h) <;> simp [h]
        · rintro (h | h | h) <;> simp [h]
theorem uni_mem {t : Nat} : ∀ {a b : List Nat}, t ∈ uni a b ↔ t ∈ a ∨ t ∈ b := by
  intro a
  unfold uni
  induction a with
  | nil => intro b; simp
  | cons x a ih =>
    intro b
    simp only [List.foldl_cons]
    rw [ih, ins_mem, List.mem_cons]
    constructor
    · rintro (h | h | h) <;> simp [h]
    · rintro ((h | h) | h) <;> simp [h]
theorem wr_reg {id : Nat} {ops : Array Oper} {d : Bool} {t : Nat} : t ∈ wrC (.region id ops d) ↔ t ∈ dsts ops.toList := by
  have := uni_mem (t := t) (a := dsts ops.toList) (b := [])
  unfold uni at this
  simpa [wrC] using this
/-! ## States of names -/
theorem allT_el : ∀ {ls : List LT} {F : Tup ls → Prop}, allT ls F → ∀ z, F z
  | [], _, h, () => h
  | _ :: r, F, h, (x, z) => allT_el (ls := r) (F := fun z => F (x, z)) (h x) z
theorem toT_d {l : LT} {x : Lf} {e : l.T} {n : Nat} (h : toT l x = some e) : (mkL l n e).d = x.d := by
  cases l <;> cases x <;> simp only [toT, reduceCtorEq] at h
  case i.i k k' _ e' =>
    obtain ⟨rfl, rfl⟩ := ifs h; rfl
  all_goals first
    | (cases h; rfl)
    | (cases some_inj h; rfl)
    | (simp only [ptrE, slcE, reduceCtorEq] at h; done)
    | (simp only [ptrE, slcE, Option.some.injEq] at h; subst h; rfl)
theorem mkL_ok {l : LT} {n : Nat} {e : l.T} (f : Nat → Option Addr) : ∃ f', (∀ j < n, f' j = f j) ∧ ∀ g, Lf.ok f' g (n + 1) (mkL l n e) := by
  cases l
  case p => exact ⟨upd f n e, fun j hj => upd_lt hj, fun g => ⟨Nat.lt_succ_self n, upd_at.symm⟩⟩
  all_goals exact ⟨f, fun _ _ => rfl, fun _ => trivial⟩
theorem ofT_ok : ∀ {ls : List LT} {n : Nat} {z : Tup ls} (f : Nat → Option Addr), ∃ f', (∀ j < n, f' j = f j) ∧ ∀ g, ∀ x ∈ ofT ls n z, Lf.ok f' g (n + ls.length) x
  | [], n, z, f => ⟨f, fun _ _ => rfl, by simp [ofT]⟩
  | l :: r, n, z, f => by
    obtain ⟨f1, h1, h2⟩ := mkL_ok (l := l) (n := n) (e := z.1) f
    obtain ⟨f2, h3, h4⟩ := ofT_ok (ls := r) (n := n + 1) (z := z.2) f1
    refine ⟨f2, fun j hj => by rw [h3 j (by omega), h1 j hj], fun g x hx => ?_⟩
    simp only [ofT] at hx
    rcases List.mem_cons.1 hx with rfl | hx
    · exact (h2 g).mono h3 (fun _ _ => rfl) (by simp)
    · exact (h4 g x hx).mono (fun _ _ => rfl) (fun _ _ => rfl) (by simp; omega)
theorem argT_d : ∀ {ls : List LT} {xs : List Lf} {z : Tup ls} {n : Nat}, argT ls xs = some z → (ofT ls n z).map Lf.d = xs.map Lf.d
  | [], [], _, _, _ => rfl
  | l :: r, x :: xs, z, n, h => by
    simp only [argT] at h
    split at h
    · rename_i e z' h1 h2
      cases some_inj h
      simp only [ofT, List.map_cons]
      rw [toT_d h1, argT_d h2]
    · cases h
  | [], _ :: _, _, _, h => by simp [argT] at h
  | _ :: _, [], _, _, h => by simp [argT] at h
theorem bldC_d : ∀ {cs : List (Bool × List LT)} {xs : List (Bool × List Lf)} {l : List Lf}, cs.length = xs.length → ((cs.zip xs).all (fun z => z.1.1 == z.2.1 && z.1.2.length == z.2.2.length)) = true → l.map Lf.d = (xs.flatMap Prod.snd).map Lf.d → (bldC cs l).map cmpD = xs.map cmpD
  | [], [], _, _, _, _ => rfl
  | (b, ls) :: cs, (b', ys) :: xs, l, hl, ha, hd => by
    simp only [List.zip_cons_cons, List.all_cons, Bool.and_eq_true, beq_iff_eq] at ha
    obtain ⟨⟨rfl, hlen⟩, ha⟩ := ha
    simp only [List.flatMap_cons, List.map_append] at hd
    have h1 : (l.take ls.length).map Lf.d = ys.map Lf.d := by
      rw [List.map_take, hd, List.take_append_of_le_length (by simp [hlen]), List.take_of_length_le (by simp [hlen])]
    have h2 : (l.drop ls.length).map Lf.d = (xs.flatMap Prod.snd).map Lf.d := by
      rw [List.map_drop, hd, List.drop_append_of_le_length (by simp [hlen]), List.drop_of_length_le (by simp [hlen])]; simp
    simp only [bldC, List.map_cons]
    rw [bldC_d (by simpa using hl) ha h2]
    congr 1
    cases b
    · have h3 : (l.take ls.length).length = ys.length := by simpa using congrArg List.length h1
      match hq : l.take ls.length, ys, h1, h3 with
      | [], [], _, _ => rfl
      | [x], [y], h1, _ => simpa [cmpD] using h1
      | _ :: _ :: _, _ :: _ :: _, _, _ => rfl
    · simp only [cmpD]; rw [h1]
theorem bldV_d {y : ST} {v : SV} {l : List Lf} (hs : shapeB y v = true) (hl : ((flatV v).length == (flatT y).length) = true) (hd : l.map Lf.d = (flatV v).map Lf.d) : (bldV y l).d = v.d := by
  cases y <;> cases v <;> simp only [shapeB, Bool.false_eq_true] at hs
  · simp only [flatV, List.map_cons, List.map_nil] at hd
    have h1 : l.length = 1 := by simpa using congrArg List.length hd
    obtain ⟨x, rfl⟩ := List.length_eq_one_iff.1 h1
    simpa [bldV, SV.d] using hd
  · simp only [flatV] at hd
    simp only [bldV, SV.d, hd]
  · simp only [Bool.and_eq_true, beq_iff_eq] at hs
    simp only [flatV] at hd
    simp only [bldV, SV.d]
    rw [bldC_d hs.1 (by simpa using hs.2) hd]
theorem vals_bld {E : List (Nat × SV)} : ∀ {sl : List (Nat × ST)} {xs l : List Lf}, vals E sl = some xs → l.map Lf.d = xs.map Lf.d → ∀ t u, lk (bld sl l) t = some u → ∃ v, lk E t = some v ∧ v.d = u.d
  | [], _, _, _, _, t, u, h => by simp [bld, lk] at h
  | (k, y) :: r, xs, l, hv, hd, t, u, h => by
    simp only [vals] at hv
    split at hv
    · rename_i v ys h1 h2
      obtain ⟨hc, rfl⟩ := ifs hv
      simp only [Bool.and_eq_true] at hc
      have hlen : (flatV v).length = (flatT y).length := by simpa using hc.2
      simp only [List.map_append] at hd
      have h3 : (l.take (flatT y).length).map Lf.d = (flatV v).map Lf.d := by
        rw [List.map_take, hd, List.take_append_of_le_length (by simp [hlen]), List.take_of_length_le (by simp [hlen])]
      have h4 : (l.drop (flatT y).length).map Lf.d = ys.map Lf.d := by
        rw [List.map_drop, hd, List.drop_append_of_le_length (by simp [hlen]), List.drop_of_length_le (by simp [hlen])]; simp
      simp only [bld, lk] at h
      cases hb : Nat.beq k t with
      | true =>
        rw [hb] at h
        simp only [cond_true, Option.some.injEq] at h
        subst h
        rw [← Nat.eq_of_beq_eq_true hb]
        exact ⟨v, h1, (bldV_d hc.1 hc.2 h3).symm⟩
      | false =>
        rw [hb] at h
        exact vals_bld h2 h4 t u h
    · cases hv
theorem bldC_ok {f : Nat → Option Addr} {g : Nat → Nat} {n : Nat} : ∀ {cs : List (Bool × List LT)} {l : List Lf}, (∀ x ∈ l, Lf.ok f g n x) → ∀ c ∈ bldC cs l, ∀ x ∈ c.2, Lf.ok f g n x
  | [], _, _, c, hc => by simp [bldC] at hc
  | (b, ls) :: cs, l, h, c, hc => by
    simp only [bldC] at hc
    rcases List.mem_cons.1 hc with rfl | hc
    · exact fun x hx => h x (List.mem_of_mem_take hx)
    · exact bldC_ok (fun x hx => h x (List.mem_of_mem_drop hx)) c hc
theorem bldV_ok {f : Nat → Option Addr} {g : Nat → Nat} {n : Nat} {y : ST} {l : List Lf} (h : ∀ x ∈ l, Lf.ok f g n x) : (bldV y l).ok f g n := by
  cases y with
  | l t => cases l with | nil => trivial | cons x r => exact h x (by simp)
  | g ls => exact h
  | t cs => exact bldC_ok h
theorem bld_ok {f : Nat → Option Addr} {g : Nat → Nat} {n : Nat} : ∀ {sl : List (Nat × ST)} {l : List Lf}, (∀ x ∈ l, Lf.ok f g n x) → ∀ z ∈ bld sl l, z.2.ok f g n
  | [], _, _, z, hz => by simp [bld] at hz
  | (k, y) :: r, l, h, z, hz => by
    simp only [bld] at hz
    rcases List.mem_cons.1 hz with rfl | hz
    · exact bldV_ok fun x hx => h x (List.mem_of_mem_take hx)
    · exact bld_ok (fun x hx => h x (List.mem_of_mem_drop hx)) z hz
section
variable [DS] {X : Cx} {s s' : St} {a : Act} {w w' : World} {f : Nat → Option Addr} {g : Nat → Nat} {QX : Exit → Act → World → Prop} {Q : Ending → World → Prop} {K : Cn}
omit [DS] in
theorem at_inv {sl : List (Nat × ST)} {dr : List Nat} {z : Tup (lsOf sl)} (I : Inv f g s w) : ∃ f', Inv f' g (s.at sl dr z) w' := by
  obtain ⟨f', h1, h2⟩ := ofT_ok (ls := lsOf sl) (n := s.nx) (z := z) f
  refine ⟨f', fun q hq => ?_, fun q hq => by simp [St.at] at hq⟩
  rcases List.mem_append.1 hq with hq | hq
  · exact bld_ok (h2 g) q hq
  · exact (I.E q (List.mem_filter.1 hq).1).mono h1 (fun _ _ => rfl) (Nat.le_add_right _ _)
omit [DS] in
theorem lk_app {E F : List (Nat × SV)} {t : Nat} : lk (E ++ F) t = match lk E t with | some v => some v | none => lk F t := by
  induction E with
  | nil => rfl
  | cons z r ih =>
    simp only [List.cons_append, lk]
    cases Nat.beq z.1 t with
    | true => rfl
    | false => exact ih
theorem at_has {sl : List (Nat × ST)} {dr : List Nat} {z : Tup (lsOf sl)} (hk : KC dr s s') (hz : (vals s'.E sl).bind (argT (lsOf sl)) = some z) (H : Has X.n DS.ds a (dE s'.E)) : Has X.n DS.ds a (dE (s.at sl dr z).E) := by
  obtain ⟨xs, h1, h2⟩ := none_bind hz
  refine H.of fun t u hu => ?_
  rw [lk_dE] at hu ⊢
  obtain ⟨v, hv, rfl⟩ := map_some' hu
  unfold St.at at hv
  simp only [lk_app] at hv
  split at hv
  · rename_i v' hv'
    cases some_inj hv
    obtain ⟨v2, h3, h4⟩ := vals_bld h1 (argT_d h2) t v hv'
    rw [h3, Option.map_some, h4]
  · rw [lk_drop] at hv
    split at hv
    · cases hv
    · rename_i hnot
      obtain ⟨v2, h3, h4⟩ := hk t (fun h => hnot (has_mem.2 h)) v hv
      rw [h3, Option.map_some, h4]
omit [DS] in
theorem at_kc {sl : List (Nat × ST)} {dr : List Nat} {z : Tup (lsOf sl)} (hsl : ∀ y ∈ sl, y.1 ∈ dr) : KC dr s (s.at sl dr z) := fun t ht v hv => by
  refine ⟨v, ?_, rfl⟩
  unfold St.at
  simp only [lk_app]
  have : lk (bld sl (ofT (lsOf sl) s.nx z)) t = none := by
    have key : ∀ (sl : List (Nat × ST)) (l : List Lf), (∀ y ∈ sl, y.1 ∈ dr) → lk (bld sl l) t = none := by
      intro sl
      induction sl with
      | nil => intro l _; rfl
      | cons y r ih =>
        intro l h
        simp only [bld, lk]
        have : Nat.beq y.1 t = false := by
          cases hb : Nat.beq y.1 t with
          | false => rfl
          | true => exact absurd (by rw [← Nat.eq_of_beq_eq_true hb]; exact h y (by simp)) ht
        rw [this]
        exact ih _ fun q hq => h q (List.mem_cons_of_mem _ hq)
    exact key sl _ hsl
  rw [this]
  simp only
  rw [lk_drop, if_neg, hv]
  rw [has_mem]; exact ht
def RegOk (X : Cx) (Q : Ending → World → Prop) : Prop := ∀ {ops : Array Oper} {draw : Bool} {t : T} {id : Nat} {s : St} {a : Act} {w : World} {f : Nat → Option Addr} {g : Nat → Nat} {QX : Exit → Act → World → Prop} {K : Cn},
  cR X ops draw = some t → t.den X.P Q s w K → Inv f g s w → Has X.n DS.ds a (dE s.E) →
  (∀ s' w' f' g' a', K.n s' w' → Inv f' g' s' w' → KC (dsts ops.toList) s s' → Has X.n DS.ds a' (dE s'.E) → QX .normal a' w') →
  (∀ c w' a' L', Q (.panicked c) w' → Has X.n DS.ds a' L' → QX (.panic c) a' w') → (Code.region id ops draw).wp X.P QX a w
omit [DS] in
theorem slots_mem {l : List Nat} {sl : List (Nat × ST)} (h : optMap (slot X) l = some sl) : ∀ y ∈ sl, y.1 ∈ l := fun y hy => by
  obtain ⟨t, h1, h2⟩ := optMap_mem h hy
  unfold slot at h2
  split at h2
  · obtain ⟨_, _, rfl⟩ := map_some' h2; exact h1
  · cases h2
theorem T_ok (hR : RegOk X Q) : ∀ (c : Code) {t : T} {nl : List Nat} {el : Nat → List Nat} {df : List Nat} {s : St} {a : Act} {w : World} {f : Nat → Option Addr} {g : Nat → Nat} {QX : Exit → Act → World → Prop} {K : Cn},
    cC X c nl el df = some t → t.den X.P Q s w K → Inv f g s w → Has X.n DS.ds a (dE s.E) →
    (∀ s' w' f' g' a', K.n s' w' → Inv f' g' s' w' → KC (wrC c) s s' → Has X.n DS.ds a' (dE s'.E) → QX .normal a' w') →
    (∀ i s' w' f' g' a', K.e i s' w' → Inv f' g' s' w' → KC (wrC c) s s' → Has X.n DS.ds a' (dE s'.E) → QX (.exit i) a' w') →
    (∀ s' w' f' g' a', K.r s' w' → Inv f' g' s' w' → KC (wrC c) s s' → Has X.n DS.ds a' (dE s'.E) → QX .ret a' w') →
    (∀ c w' a' L', Q (.panicked c) w' → Has X.n DS.ds a' L' → QX (.panic c) a' w') → c.wp X.P QX a w
  | .skip, t, nl, el, df, s, a, w, f, g, QX, K, hc, h, I, H, hn, he, hr, hp => by
    cases some_inj hc; exact c_skip (hn s w f g a h I .rfl H)
  | .ret, t, nl, el, df, s, a, w, f, g, QX, K, hc, h, I, H, hn, he, hr, hp => by
    cases some_inj hc; exact c_ret (hr s w f g a h I .rfl H)
  | .label l, t, nl, el, df, s, a, w, f, g, QX, K, hc, h, I, H, hn, he, hr, hp => by
    cases some_inj hc; exact c_label (hn s w f g a h I .rfl H)
  | .exit i, t, nl, el, df, s, a, w, f, g, QX, K, hc, h, I, H, hn, he, hr, hp => by
    cases some_inj hc; exact c_exit (he i s w f g a h I .rfl H)
  | .region id ops draw, t, nl, el, df, s, a, w, f, g, QX, K, hc, h, I, H, hn, he, hr, hp =>
    hR hc h I H (fun s' w' f' g' a' hk I' kc H' => hn s' w' f' g' a' hk I' (kc.mono fun t ht => wr_reg.2 ht) H') hp
  | .seq x y, t, nl, el, df, s, a, w, f, g, QX, K, hc, h, I, H, hn, he, hr, hp => by
    simp only [cC] at hc
    split at hc
    · rename_i x' y' hx hy
      split at hc
      · cases some_inj hc
        simp only [T.den] at h
        refine c_seq fun K' hK => ?_
        refine T_ok hR x (QX := Exit.then K' QX) hx h I H (fun s1 w1 f1 g1 a1 h1 I1 k1 H1 => hK a1 w1 ?_) (fun i s1 w1 f1 g1 a1 h1 I1 k1 H1 => he i s1 w1 f1 g1 a1 h1 I1 (k1.mono fun t ht => uni_mem.2 (.inl ht)) H1)
          (fun s1 w1 f1 g1 a1 h1 I1 k1 H1 => hr s1 w1 f1 g1 a1 h1 I1 (k1.mono fun t ht => uni_mem.2 (.inl ht)) H1) fun c w1 a1 L1 h1 H1 => hp c w1 a1 L1 h1 H1
        exact T_ok hR y hy h1 I1 H1 (fun s2 w2 f2 g2 a2 h2 I2 k2 H2 => hn s2 w2 f2 g2 a2 h2 I2 (k1.trans k2 (fun t ht => uni_mem.2 (.inl ht)) fun t ht => uni_mem.2 (.inr ht)) H2)
          (fun i s2 w2 f2 g2 a2 h2 I2 k2 H2 => he i s2 w2 f2 g2 a2 h2 I2 (k1.trans k2 (fun t ht => uni_mem.2 (.inl ht)) fun t ht => uni_mem.2 (.inr ht)) H2)
          (fun s2 w2 f2 g2 a2 h2 I2 k2 H2 => hr s2 w2 f2 g2 a2 h2 I2 (k1.trans k2 (fun t ht => uni_mem.2 (.inl ht)) fun t ht => uni_mem.2 (.inr ht)) H2) hp
      · obtain ⟨sl, hsl, rfl⟩ := map_some' hc
        simp only [T.den] at h
        obtain ⟨Rl, h1, h2⟩ := h
        have hin : ∀ y ∈ sl, y.1 ∈ wrC x := fun y hy => has_mem.1 (List.mem_filter.1 (slots_mem hsl y hy)).2
        refine c_seq fun K' hK => ?_
        refine T_ok hR x (QX := Exit.then K' QX) hx h1 I H (fun s1 w1 f1 g1 a1 h3 I1 k1 H1 => hK a1 w1 ?_) (fun i s1 w1 f1 g1 a1 h1 I1 k1 H1 => he i s1 w1 f1 g1 a1 h1 I1 (k1.mono fun t ht => uni_mem.2 (.inl ht)) H1)
          (fun s1 w1 f1 g1 a1 h1 I1 k1 H1 => hr s1 w1 f1 g1 a1 h1 I1 (k1.mono fun t ht => uni_mem.2 (.inl ht)) H1) fun c w1 a1 L1 h1 H1 => hp c w1 a1 L1 h1 H1
        dsimp only at h3
        split at h3
        · rename_i z hz
          obtain ⟨f2, I2⟩ := at_inv (w' := w1) (sl := sl) (dr := wrC x) (z := z) I
          have kx : KC (wrC x) s (s.at sl (wrC x) z) := at_kc hin
          exact T_ok hR y hy (allT_el h2 z w1 h3) I2 (at_has k1 hz H1) (fun s2 w2 f2 g2 a2 h2 I2 k2 H2 => hn s2 w2 f2 g2 a2 h2 I2 (kx.trans k2 (fun t ht => uni_mem.2 (.inl ht)) fun t ht => uni_mem.2 (.inr ht)) H2)
            (fun i s2 w2 f2 g2 a2 h2 I2 k2 H2 => he i s2 w2 f2 g2 a2 h2 I2 (kx.trans k2 (fun t ht => uni_mem.2 (.inl ht)) fun t ht => uni_mem.2 (.inr ht)) H2)
            (fun s2 w2 f2 g2 a2 h2 I2 k2 H2 => hr s2 w2 f2 g2 a2 h2 I2 (kx.trans k2 (fun t ht => uni_mem.2 (.inl ht)) fun t ht => uni_mem.2 (.inr ht)) H2) hp
        · exact h3.elim
    · cases hc
  | .cond cn x y, t, nl, el, df, s, a, w, f, g, QX, K, hc, h, I, H, hn, he, hr, hp => by
    simp only [cC] at hc
    split at hc
    · rename_i x' y' hx hy
      cases some_inj hc
      simp only [T.den] at h
      split at h
      · rename_i _ b hb
        refine c_cond H (ev_d hb) (fun e => ?_) fun e => ?_
        · exact T_ok hR x hx (h.1 e) I H (fun s2 w2 f2 g2 a2 h2 I2 k2 H2 => hn s2 w2 f2 g2 a2 h2 I2 (k2.mono fun t ht => uni_mem.2 (.inl ht)) H2) (fun i s2 w2 f2 g2 a2 h2 I2 k2 H2 => he i s2 w2 f2 g2 a2 h2 I2 (k2.mono fun t ht => uni_mem.2 (.inl ht)) H2)
            (fun s2 w2 f2 g2 a2 h2 I2 k2 H2 => hr s2 w2 f2 g2 a2 h2 I2 (k2.mono fun t ht => uni_mem.2 (.inl ht)) H2) hp
        · exact T_ok hR y hy (h.2 e) I H (fun s2 w2 f2 g2 a2 h2 I2 k2 H2 => hn s2 w2 f2 g2 a2 h2 I2 (k2.mono fun t ht => uni_mem.2 (.inr ht)) H2) (fun i s2 w2 f2 g2 a2 h2 I2 k2 H2 => he i s2 w2 f2 g2 a2 h2 I2 (k2.mono fun t ht => uni_mem.2 (.inr ht)) H2)
            (fun s2 w2 f2 g2 a2 h2 I2 k2 H2 => hr s2 w2 f2 g2 a2 h2 I2 (k2.mono fun t ht => uni_mem.2 (.inr ht)) H2) hp
      · exact h.elim
    · cases hc
  | .block i x, t, nl, el, df, s, a, w, f, g, QX, K, hc, h, I, H, hn, he, hr, hp => by
    obtain ⟨x', hx, rfl⟩ := map_some' hc
    simp only [T.den] at h
    refine c_block (T_ok hR x (QX := Exit.inBlock i QX) hx h I H hn (fun j s2 w2 f2 g2 a2 h2 I2 k2 H2 => ?_) hr hp)
    cases hb : Nat.beq j i with
    | true =>
      have := Nat.eq_of_beq_eq_true hb
      subst this
      simp only [hb, cond_true] at h2
      exact x_here (hn s2 w2 f2 g2 a2 h2 I2 k2 H2)
    | false =>
      simp only [hb, cond_false] at h2
      exact x_there hb (he j s2 w2 f2 g2 a2 h2 I2 k2 H2)
  | .loop x, t, nl, el, df, s, a, w, f, g, QX, K, hc, h, I, H, hn, he, hr, hp => by
    simp only [cC] at hc
    split at hc
    · rename_i x' sl hx hsl
      cases some_inj hc
      simp only [T.den] at h
      obtain ⟨Iv, mu, h0, hl⟩ := h
      have hin : ∀ y ∈ sl, y.1 ∈ wrC x := fun y hy => by
        have := (List.mem_filter.1 (slots_mem hsl y hy)).2
        simp only [Bool.and_eq_true] at this
        exact has_mem.1 this.1
      have kx : ∀ z, KC (wrC x) s (s.at sl (wrC x) z) := fun z => at_kc hin
      split at h0
      · rename_i z0 hz0
        refine c_loop (σ := Tup (lsOf sl)) (fun z w => app (lsOf sl) Iv z w) (fun z w => app (lsOf sl) mu z w) (fun z => dE (s.at sl (wrC x) z).E) z0 h0 (at_has .rfl hz0 H) fun z a w hi Hz => ?_
        obtain ⟨f2, I2⟩ := at_inv (w' := w) (sl := sl) (dr := wrC x) (z := z) I
        refine T_ok hR x (QX := Exit.then _ QX) hx (allT_el hl z w hi) I2 Hz (fun s1 w1 f1 g1 a1 h1 I1 k1 H1 => ?_) (fun i s1 w1 f1 g1 a1 h1 I1 k1 H1 => he i s1 w1 f1 g1 a1 h1 I1 ((kx z).trans k1 (fun _ h => h) fun _ h => h) H1)
          (fun s1 w1 f1 g1 a1 h1 I1 k1 H1 => hr s1 w1 f1 g1 a1 h1 I1 ((kx z).trans k1 (fun _ h => h) fun _ h => h) H1) fun c w1 a1 L1 h1 H1 => hp c w1 a1 L1 h1 H1
        dsimp only at h1
        split at h1
        · rename_i z' hz'
          exact ⟨z', h1.1, h1.2, at_has ((kx z).trans k1 (fun _ h => h) fun _ h => h) hz' H1⟩
        · exact h1.elim
      · exact h0.elim
    · cases hc
  | .scope x, t, nl, el, df, s, a, w, f, g, QX, K, hc, h, I, H, hn, he, hr, hp => by
    obtain ⟨x', hx, rfl⟩ := map_some' hc
    simp only [T.den] at h
    exact c_scope (T_ok hR x (QX := Exit.noGoto QX) hx h I H hn he hr hp)
  | .rangeFunc .., t, nl, el, df, s, a, w, f, g, QX, K, hc, h, I, H, hn, he, hr, hp => by cases hc
  | .goto _, t, nl, el, df, s, a, w, f, g, QX, K, hc, h, I, H, hn, he, hr, hp => by cases hc
  | .refuse _, t, nl, el, df, s, a, w, f, g, QX, K, hc, h, I, H, hn, he, hr, hp => by cases hc
end
end Go.Vc.Ex

namespace Go.Vc.Ex
open Go Go.Vc
section
variable {P : Program} {f : Nat → Option Addr} {g : Nat → Nat} {s : St} {w : World} {a : Act} {m : Nat} {Q : Ending → World → Prop}
theorem ids_ok : ∀ {l : List Lf} {ids : List Nat} {n : Nat}, idsL l = some ids → (∀ i ∈ ids, i < n) → nodB ids = true → ∃ f : Nat → Option Addr, ∀ g, ∀ x ∈ l, Lf.ok f g n x
  | [], _, _, _, _, _ => ⟨fun _ => none, by simp⟩
  | x :: r, ids, n, h, hn, hd => by
    cases x with
    | p id e =>
      obtain ⟨l, h1, rfl⟩ := map_some' h
      simp only [nodB, Bool.and_eq_true, Bool.not_eq_true'] at hd
      obtain ⟨f, h2⟩ := ids_ok h1 (fun i hi => hn i (List.mem_cons_of_mem _ hi)) hd.2
      refine ⟨upd f id e, fun g x hx0 => ?_⟩
      rcases List.mem_cons.1 hx0 with rfl | hx
      · exact ⟨hn id (by simp), upd_at.symm⟩
      · clear hx0
        have h3 := h2 g x hx
        -- the others have other numbers
        have key : ∀ {l : List Lf} {ids : List Nat}, idsL l = some ids → ∀ j e', Lf.p j e' ∈ l → j ∈ ids := by
          intro l
          induction l with
          | nil => intro ids _ j e' hj; simp at hj
          | cons y r ih =>
            intro ids h j e' hj
            cases y with
            | p id' e'' =>
              obtain ⟨l', h4, rfl⟩ := map_some' h
              rcases List.mem_cons.1 hj with hj | hj
              · cases hj; simp
              · exact List.mem_cons_of_mem _ (ih h4 j e' hj)
            | a key' e'' =>
              cases key' with
              | some z => cases h
              | none =>
                rcases List.mem_cons.1 hj with hj | hj
                · cases hj
                · exact ih h j e' hj
            | _ =>
              rcases List.mem_cons.1 hj with hj | hj
              · cases hj
              · exact ih h j e' hj
        cases x with
        | p j e' =>
          refine ⟨h3.1, ?_⟩
          have : j ≠ id := fun e => by
            subst e
            have := key h1 j e' hx
            rw [← has_mem, hd.1] at this
            cases this
          rw [show upd f id e j = f j by simp [upd, this]]
          exact h3.2
        | a key' e' => cases key' <;> exact h3
        | _ => exact h3
    | a key e =>
      cases key with
      | some z => cases h
      | none =>
        obtain ⟨f, h2⟩ := ids_ok (l := r) h hn hd
        exact ⟨f, fun g x hx => by rcases List.mem_cons.1 hx with rfl | hx; trivial; exact h2 g x hx⟩
    | _ =>
      obtain ⟨f, h2⟩ := ids_ok (l := r) h hn hd
      exact ⟨f, fun g x hx => by rcases List.mem_cons.1 hx with rfl | hx; trivial; exact h2 g x hx⟩
theorem okVs_ok {vs : List SV} {nx : Nat} (h : okVs vs nx = true) : ∃ f : Nat → Option Addr, ∀ g, ∀ v ∈ vs, SV.ok f g nx v := by
  unfold okVs at h
  split at h
  · rename_i ids hi
    simp only [Bool.and_eq_true] at h
    obtain ⟨f, h1⟩ := ids_ok hi (fun i q => Nat.le_of_ble_eq_true (List.all_eq_true.1 h.1 i q)) h.2
    refine ⟨f, fun g v hv => ?_⟩
    have h2 : ∀ x ∈ flatV v, Lf.ok f g nx x := fun x hx => h1 g x (List.mem_flatMap.2 ⟨v, hv, hx⟩)
    cases v with
    | l y => exact h2 y (by simp [flatV])
    | g ys => exact h2
    | t cs => exact fun c hc x hx => h2 x (List.mem_flatMap.2 ⟨c, hc, hx⟩)
    | no => trivial
  · cases h
theorem num_dE : ∀ (vs : List SV) (k : Nat), dE ((vs.zipIdx k).map fun z => (z.2, z.1)) = number k (vs.map SV.d)
  | [], _ => rfl
  | v :: r, k => by
    simp only [List.zipIdx_cons, List.map_cons, number]
    have := num_dE r (k + 1)
    unfold dE at this ⊢
    simp only [List.map_cons]
    rw [this]
theorem rs_run (I : Inv f g s w) (H : Has m [] a (dE s.E)) : ∀ {rl : List ResultVar} {rs : List Rs} {K : List Value → Prop}, optMap (rsOf P) rl = some rs → resD s w K rs → ∃ vs, K vs ∧ vs.length = rl.length ∧ (rl.mapM (resF a.tmps)).run P w = .ok vs w
  | [], rs, K, h, hk => by
    simp only [optMap, Option.some.injEq] at h
    subst h
    exact ⟨[], hk, rfl, by simp⟩
  | r :: rl, rs, K, h, hk => by
    simp only [optMap] at h
    split at h
    · cases h
    · rename_i x hx
      split at h
      · cases h
      · rename_i xs hxs
        cases some_inj h
        have fin : ∀ {v : Value}, RV P (dE s.E) w r v → resD s w (fun vs => K (v :: vs)) xs → ∃ vs, K vs ∧ vs.length = (r :: rl).length ∧ ((r :: rl).mapM (resF a.tmps)).run P w = .ok vs w := fun {v} hv hr => by
          obtain ⟨vs, h1, h2, h3⟩ := rs_run I H hxs hr
          refine ⟨v :: vs, h1, by simp [h2], ?_⟩
          simp only [List.mapM_cons, Sem.run_bind, run_rv H hv, Result.andThen_ok, h3, Sem.run_pure]
        cases r with
        | tmp t =>
          simp only [rsOf, Option.some.injEq] at hx
          subst hx
          simp only [resD] at hk
          split at hk
          · rename_i v hv
            exact fin (show Env.get _ t = some v.d by rw [lk_dE, hv]; rfl) hk
          · exact hk.elim
        | cell t u =>
          simp only [rsOf] at hx
          split at hx
          · rename_i h1
            obtain ⟨l, _, rfl⟩ := map_some' hx
            simp only [resD] at hk
            split at hk
            · rename_i k e he
              have hp : Env.get (dE s.E) t = some (.pointer (some e)) := by rw [lk_dE, he]; rfl
              have hok := I.E _ (lk_mem he)
              split at hk
              · rename_i v hv
                obtain ⟨h3, _⟩ := knAt_ok I hok hv
                rw [cell_add0] at h3
                exact fin ⟨e, hp, run_load1 h1 h3⟩ hk
              · obtain ⟨x, _, ⟨h3, h4⟩, _⟩ := ex1_el hk f
                exact fin ⟨e, hp, run_load1 h1 h3⟩ h4
            · exact hk.elim
          · split at hx
            · rename_i ls _
              obtain ⟨h1, rfl⟩ := ifs hx
              simp only [resD] at hk
              split at hk
              · rename_i k e he
                have hp : Env.get (dE s.E) t = some (.pointer (some e)) := by rw [lk_dE, he]; rfl
                obtain ⟨vs, n', f', h3, _, _, _, h4, h5⟩ := ldN_el I (I.E _ (lk_mem he)) f hk (Nat.le_refl _) (fun _ _ => rfl)
                exact fin ⟨e, hp, run_loadN h1 (by simpa using h4) h5⟩ h3
              · exact hk.elim
            · cases hx
theorem body_ret {fn : Func} {rs : List Rs} (I : Inv f g s w) (H : Has m [] a (dE s.E)) (hr : optMap (rsOf P) fn.results.toList = some rs) (h : resD s w (fun vs => Q (.returned (one vs)) w) rs) : bodyPost P fn Q .ret a w := by
  obtain ⟨vs, h1, h2, h3⟩ := rs_run I H hr h
  refine ⟨H.defers, one vs, ?_, h1⟩
  rw [results_eq]
  simp only [Sem.run_bind, Array.mapM_eq_mapM_toList, Sem.run_map, h3]
  match vs with
  | [] => rfl
  | [v] => rfl
  | v :: v2 :: r => simp [one]
theorem fn_ok {fid : FuncId} {vs : List SV} {nx : Nat} (hR : ∀ X : Cx, X.P = P → RegOk X Q) (h : fnD P fid vs nx w Q) : Calls P fid (vs.map SV.d).toArray w Q := by
  unfold fnD at h
  split at h
  · rename_i fn hf
    split at h
    · rename_i c hb
      split at h
      · rename_i F hF
        split at h
        · rename_i hok
          simp only [Bool.and_eq_true] at hok
          unfold cF at hF
          dsimp only at hF
          split at hF
          · rename_i t rs ht hrs
            cases some_inj hF
            simp only [F.den] at h
            refine enter hf hb rfl (by simpa using Nat.le_of_ble_eq_true hok.1) fun a H => ?_
            obtain ⟨f0, h0⟩ := okVs_ok hok.2
            rw [← num_dE vs 0] at H
            have I : Inv f0 (fun _ => 0) ⟨vs.zipIdx.map (fun z => (z.2, z.1)), [], nx⟩ w := ⟨fun z hz => by
              obtain ⟨y, hy, rfl⟩ := List.mem_map.1 hz
              exact h0 _ y.1 (List.fst_mem_of_mem_zipIdx hy), fun z hz => by simp at hz⟩
            exact T_ok (hR _ rfl) c ht h I H (fun s' w' f' g' a' hk I' _ H' => e_end (body_ret I' H' hrs hk)) (fun i s' w' f' g' a' hk I' _ H' => hk.elim) (fun s' w' f' g' a' hk I' _ H' => body_ret I' H' hrs hk) fun c w' a' L' hq H' => e_panic H' hq
          · cases hF
        · exact h.elim
      · exact h.elim
    · exact h.elim
  · exact h.elim
end
end Go.Vc.Ex

namespace Go.Vc.Ex
open Go Go.Vc
section
variable [DS] {P : Program} {ops : Array Oper} {n m : Nat} {its : List (Nat × TypeId)} {i j : Nat} {A A' : Am} {w : World} {f f' f'' : Nat → Option Addr} {g g' g'' : Nat → Nat} {L0 : List (Nat × Value)} {fr : Fr} {s : St}
omit [DS] in
theorem isIn_mem {l : List Nat} {e : Nat} : isIn l e = true ↔ e ∈ l := by unfold isIn; exact List.contains_iff_mem
structure FrOk (fr : Fr) (ops : Array Oper) : Prop where
  chk : Rh.chk ⟨fr.R, fr.ep, fr.es⟩ ops = true
  len : fr.os.length = fr.R.eff.length
  nod : nodN fr.R.eff = true
  sub : ∀ {i p e}, i < fr.ops.length → p ∈ fr.R.preOf i → e ∈ fr.epOf p → e ∈ fr.epOf i
  eff : ∀ {i p}, i < fr.ops.length → p ∈ fr.R.preOf i → p ∈ fr.R.eff → p ∈ fr.epOf i
  self : ∀ {e}, e ∈ fr.R.eff → e ∉ fr.epOf e
  es : ∀ {e x}, e ∈ fr.R.eff → x ∈ fr.esOf e → x ∈ fr.R.eff → e ∈ fr.epOf x
omit [DS] in
theorem frB_ok (h : frB fr ops = true) : FrOk fr ops := by
  unfold frB at h
  simp only [Bool.and_eq_true] at h
  obtain ⟨⟨⟨⟨h1, h2⟩, h3⟩, h4⟩, h5⟩ := h
  have k4 : ∀ {i p}, i < fr.ops.length → p ∈ fr.R.preOf i → (∀ e ∈ fr.epOf p, e ∈ fr.epOf i) ∧ (p ∈ fr.R.eff → p ∈ fr.epOf i) := fun {i p} hi hp => by
    have := List.all_eq_true.1 (List.all_eq_true.1 h4 i (List.mem_range.2 hi)) p hp
    simp only [Bool.and_eq_true, Bool.or_eq_true, Bool.not_eq_true'] at this
    refine ⟨fun e he => isIn_mem.1 (List.all_eq_true.1 this.1 e he), fun hpe => ?_⟩
    rcases this.2 with hx | hx
    · rw [isIn_mem.2 hpe] at hx; cases hx
    · exact isIn_mem.1 hx
  have k5 : ∀ {e}, e ∈ fr.R.eff → e ∉ fr.epOf e ∧ ∀ x ∈ fr.esOf e, x ∈ fr.R.eff → e ∈ fr.epOf x := fun {e} he => by
    have := List.all_eq_true.1 h5 e he
    simp only [Bool.and_eq_true, Bool.not_eq_true'] at this
    refine ⟨fun hx => (by rw [isIn_mem.2 hx] at this; cases this.1), fun x hx hxe => ?_⟩
    have h6 := List.all_eq_true.1 this.2 x hx
    simp only [Bool.or_eq_true, Bool.not_eq_true'] at h6
    rcases h6 with h6 | h6
    · rw [isIn_mem.2 hxe] at h6; cases h6
    · exact isIn_mem.1 h6
  exact ⟨h1, Nat.eq_of_beq_eq_true h2, h3, fun hi hp he => (k4 hi hp).1 _ he, fun hi hp => (k4 hi hp).2, fun he => (k5 he).1, fun he => (k5 he).2 _⟩
/-! ## What asks nothing of those that turn the world -/
omit [DS] in
theorem exL_ldN (hk : s.kn = []) {e : Addr} {key : Option (Nat × Nat)} : ∀ {ls : List LT} {n : Nat} {K : List Lf → Nat → Prop}, exL ls n K → ∃ vs n', K vs n' ∧ (∀ _f : Nat → Option Addr, True) ∧ ∀ (w : World) (i : Nat) (K' : List Lf → Nat → Prop), Cells w e i (vs.map Lf.d) → K' vs n' → ldN s w e key i ls n K'
  | [], n, K, h => ⟨_, _, h, fun _ => trivial, fun _ _ _ _ h => h⟩
  | l :: r, n, K, h => by
    obtain ⟨x, h1, h2⟩ := ex1_re h
    obtain ⟨xs, n', h3, _, h4⟩ := exL_ldN hk h1
    refine ⟨x :: xs, n', h3, fun _ => trivial, fun w i K' hc hk' => ?_⟩
    have hn : knAt s key i = none := by unfold knAt; cases key with | none => rfl | some z => simp [hk, knF]
    simp only [ldN, hn]
    exact h2 _ ⟨hc.1, h4 w (i + 1) _ hc.2 hk'⟩
omit [DS] in
theorem cnj_el {e : Addr} : ∀ {vs : List Lf} {k : Nat}, cnj w e k vs → Cells w e k (vs.map Lf.d)
  | [], _, _ => trivial
  | [_v], _, h => ⟨h, trivial⟩
  | _ :: _v :: _r, _, h => ⟨h.1, cnj_el h.2⟩
theorem Now.grow {R : Rg} (hc : Wk R ops) (h : Now P ops R m L0 A i w) (hs : ∀ p v, lk A.V p = some v → lk A'.V p = some v) : Now P ops R m L0 A' i w := by
  obtain ⟨o, v, env, h1, h2, h3, h4⟩ := h
  refine ⟨o, v, env, h1, hs _ _ h2, fun t u hu => envOf_mono hc (Array.getElem?_eq_some_iff.1 h1).1 (fun p u hp => ?_) (h3 t u hu), h4⟩
  rw [lk_dE] at hp ⊢
  obtain ⟨y, hy, rfl⟩ := map_some' hp
  rw [hs p y hy]; rfl
def UpJ (P : Program) (ops : Array Oper) (R : Rg) (m : Nat) (L0 : List (Nat × Value)) (A : Am) (ls : List (Nat × (World → Prop))) (i : Nat) : Prop :=
  (∀ w, Now P ops R m L0 A i w) ∨ ∃ c, (i, c) ∈ ls ∧ ∀ w, c w → Now P ops R m L0 A i w
def isUp (fr : Fr) (i : Nat) : Bool := !fr.R.eff.contains i && (fr.epOf i).isEmpty
omit [DS] in
theorem up_not (fr : Fr) (i : Nat) : (fr.R.eff.contains i || !(fr.epOf i).isEmpty) = !isUp fr i := by
  unfold isUp; cases fr.R.eff.contains i <;> cases (fr.epOf i).isEmpty <;> rfl
theorem now_of {R : Rg} (hc : Wk R ops) {o : Oper} {ao : Ao} {x : I} {v : SV} (ho : ops[i]? = some o) (hca : CaOk P its m ops o ao) (hg : ao.g = none) (hao : ao.o = .op x) (he : x.ef = false) (hA : AOk f g A) (hL : dE A.L0 = L0)
    (hv : lk A'.V i = some v) (hs : ∀ p u, lk A.V p = some u → lk A'.V p = some u) (hre : co P false ⟨envS R A i, [], n⟩ w x fun v' _ _ => v'.d = v.d) (hn : A.nx ≤ n) : Now P ops R m L0 A' i w := by
  have hi := (Array.getElem?_eq_some_iff.1 ho).1
  have hcO := hca.o
  rw [hao] at hcO
  obtain ⟨hcO, _, _⟩ := cD_ok hcO
  obtain ⟨d, hd, hlt⟩ := dst_of hca (by rw [hao]; exact he)
  have hdi : R.dstOf i = some d := by rw [← hc.dst ho, hd]
  have henv : dE (envS R A i) = R.envOf (dE A.V) L0 i := by rw [envS_d, hL]
  refine ⟨o, v, R.envOf (dE A.V) L0 i, ho, hv, fun t u hu => envOf_mono hc hi (fun p u hp => ?_) hu, fun a H => ?_⟩
  · rw [lk_dE] at hp ⊢
    obtain ⟨y, hy, rfl⟩ := map_some' hp
    rw [hs p y hy]; rfl
  · rw [hdi]
    have hgd : o.guard = none := by
      rcases hca.g with ⟨h1, _⟩ | ⟨j, want, t, _, _, h3⟩
      · exact h1
      · rw [hg] at h3; cases h3
    obtain ⟨dst, op, ty, pos, af, gd⟩ := o
    simp only at hgd
    subst hgd
    have I : Inv f g ⟨envS R A i, [], n⟩ w := by
      have := (hA.inv (w := w) (R := R) i).mono (n' := n) (fun _ _ => rfl) hn
      exact ⟨this.E, fun z hz => by simp at hz⟩
    obtain ⟨v', s2, σ2, f2, h7, _, _, h8⟩ := co_ok (dst := dst) (pos := pos) (af := af) (gd := none) hcO hre I (by rw [henv]; exact H)
    refine run1 H rfl hd hlt ?_
    rw [← h7]
    exact h8 0 (.inr rfl)
omit [DS] in
theorem agd_nop {x : I} {env : List (Nat × Value)} {u : Value} (hld : ∀ y z, x ≠ .ld y z) (hldN : ∀ a b, x ≠ .ldN a b) (htS : ∀ a b c, x ≠ .tS a b c) : AgD P x env u w := by
  cases x <;> first | trivial | exact absurd rfl (hld _ _) | exact absurd rfl (hldN _ _) | exact absurd rfl (htS _ _ _)
theorem upF_el (hc : Wk fr.R ops) (hof : optMap (cA P its m ops) ops.toList = some fr.ops) : ∀ {l : List Nat} {A : Am} {ls : List (Nat × (World → Prop))} {f : Nat → Option Addr} {K : Am → List (Nat × (World → Prop)) → Prop}, AOk f g A → dE A.L0 = L0 →
    (∀ i ∈ l, lk A.V i = none) → l.Nodup → upF P fr l A ls K → ∃ f' A' ls', K A' ls' ∧ Ext f f' g g A A' ∧ A'.L0 = A.L0 ∧ (∀ p v, lk A.V p = some v → lk A'.V p = some v) ∧ (∀ z ∈ ls, z ∈ ls') ∧ (∀ p, (lk A'.V p).isSome = true → (lk A.V p).isSome = true ∨ (p ∈ l ∧ isUp fr p = true)) ∧
      ∀ i ∈ l, isUp fr i = true → (lk A'.V i).isSome = true ∧ UpJ P ops fr.R m L0 A' ls' i
  | [], A, ls, f, K, hA, _, _, _, h => ⟨f, A, ls, h, .rfl hA, rfl, fun _ _ h => h, fun _ h => h, fun _ h => .inl h, by simp⟩
  | i :: r, A, ls, f, K, hA, hL, hno, hnd, h => by
    simp only [upF] at h
    have hnd' := (List.nodup_cons.1 hnd)
    split at h
    · rename_i hnu
      obtain ⟨f', A', ls', h1, h2, h2', h3, h4, h5, h6⟩ := upF_el hc hof hA hL (fun q hq => hno q (List.mem_cons_of_mem _ hq)) hnd'.2 h
      refine ⟨f', A', ls', h1, h2, h2', h3, h4, fun p hp => (h5 p hp).imp id fun ⟨q1, q2⟩ => ⟨List.mem_cons_of_mem _ q1, q2⟩, fun q hq hu => ?_⟩
      rcases List.mem_cons.1 hq with rfl | hq
      · exfalso
        rw [up_not, hu] at hnu
        cases hnu
      · exact h6 q hq hu
    · rename_i hnu
      have hup : isUp fr i = true := by
        rw [up_not] at hnu
        cases hq : isUp fr i with
        | true => rfl
        | false => rw [hq] at hnu; exact absurd rfl hnu
      have hni := hno i (by simp)
      -- one is done, the others follow
      have next : ∀ {f1 : Nat → Option Addr} {v : SV} {n1 : Nat} {ls1 : List (Nat × (World → Prop))}, v.ok f1 g n1 → A.nx ≤ n1 → (∀ j < A.nx, f1 j = f j) → (∀ z ∈ ls, z ∈ ls1) → upF P fr r { (A.add i v) with nx := n1 } ls1 K → UpJ P ops fr.R m L0 { (A.add i v) with nx := n1 } ls1 i →
          ∃ f' A' ls', K A' ls' ∧ Ext f f' g g A A' ∧ A'.L0 = A.L0 ∧ (∀ p v, lk A.V p = some v → lk A'.V p = some v) ∧ (∀ z ∈ ls, z ∈ ls') ∧ (∀ p, (lk A'.V p).isSome = true → (lk A.V p).isSome = true ∨ (p ∈ i :: r ∧ isUp fr p = true)) ∧ ∀ q ∈ i :: r, isUp fr q = true → (lk A'.V q).isSome = true ∧ UpJ P ops fr.R m L0 A' ls' q := fun {f1 v n1 ls1} hv hn hf hls hr hj => by
        have e1 := add_ext hA hni hv hn hf (fun _ _ => rfl)
        have hgrow : ∀ p u, lk A.V p = some u → lk (A.add i v).V p = some u := fun p u hp => by
          have : i ≠ p := fun e => by rw [← e, hni] at hp; cases hp
          exact (lk_cons_ne this).trans hp
        obtain ⟨f', A', ls', h1, h2, h2', h3, h4, h5, h6⟩ := upF_el hc hof (A := { (A.add i v) with nx := n1 }) e1.ok (by rw [e1.L0, hL]) (fun q hq => by
          have : i ≠ q := fun e => hnd'.1 (by rw [e]; exact hq)
          exact (lk_cons_ne this).trans (hno q (List.mem_cons_of_mem _ hq))) hnd'.2 hr
        refine ⟨f', A', ls', h1, e1.trans h2, by rw [h2']; rfl, fun p u hp => h3 p u (hgrow p u hp), fun z hz => h4 z (hls z hz), fun p hp => ?_, fun q hq hu => ?_⟩
        · rcases h5 p hp with h7 | ⟨h7, h8⟩
          · by_cases e : i = p
            · subst e; exact .inr ⟨by simp, hup⟩
            · rw [show lk (A.add i v).V p = lk A.V p from lk_cons_ne e] at h7; exact .inl h7
          · exact .inr ⟨List.mem_cons_of_mem _ h7, h8⟩
        · rcases List.mem_cons.1 hq with rfl | hq
          · refine ⟨by rw [h3 q v lk_cons_eq]; rfl, ?_⟩
            rcases hj with hj | ⟨c, hc1, hc2⟩
            · exact .inl fun w => (hj w).grow hc h3
            · exact .inr ⟨c, h4 _ hc1, fun w hw => (hc2 w hw).grow hc h3⟩
          · exact h6 q hq hu
      have hs1 : ∀ {v : SV} {n1 : Nat}, ∀ p u, lk A.V p = some u → lk ({ (A.add i v) with nx := n1 } : Am).V p = some u := fun {v n1} p u hp => by
        have : i ≠ p := fun e => by rw [← e, hni] at hp; cases hp
        exact (lk_cons_ne this).trans hp
      split at h
      · -- a cell is read
        rename_i d x y ha
        obtain ⟨o, ho, hcA⟩ := at_ops hof ha
        have hca := cA_ok hcA
        split at h
        · rename_i k e hx
          obtain ⟨v, h1, h2⟩ := ex1_re h
          obtain ⟨v', f1, h3, h4, h5, _⟩ := ex1_el (h2 (fun x => x = v ∧ True) ⟨rfl, trivial⟩) f
          obtain ⟨rfl, _⟩ := h3
          refine next (v := .l v') (f1 := f1) (h5 g) (Nat.le_succ _) h4 (fun z hz => List.mem_append_left _ hz) h1 (.inr ⟨_, List.mem_append_right _ (List.mem_singleton.2 rfl), fun w hw => ?_⟩)
          refine now_of hc ho hca rfl rfl rfl hA hL lk_cons_eq hs1 (n := A.nx) ?_ (Nat.le_refl _)
          have hpn : pu ⟨envS fr.R A i, [], A.nx⟩ (.ld x y) = none := by
            simp only [pu, hx]
            have : knAt ⟨envS fr.R A i, [], A.nx⟩ k 0 = none := by unfold knAt; cases k with | none => rfl | some z => simp [knF]
            rw [this]; rfl
          unfold co
          simp only [hpn, hx]
          exact h2 _ ⟨hw, rfl⟩
        · exact h.elim
      · rename_i d x ys ha
        obtain ⟨o, ho, hcA⟩ := at_ops hof ha
        have hca := cA_ok hcA
        split at h
        · rename_i k e hx
          obtain ⟨vs0, n0, h1, h2⟩ := exL_re h
          obtain ⟨vs1, n1, ⟨h3, h3'⟩, _, h4⟩ := exL_ldN (s := ⟨envS fr.R A i, [], A.nx⟩) (e := e) (key := k) rfl (h2 (fun vs n => vs = vs0 ∧ n = n0) ⟨rfl, rfl⟩)
          subst h3 h3'
          obtain ⟨vs, n', f1, ⟨h5, h5'⟩, h6, h7, h8, _⟩ := exL_el (h2 (fun vs n => vs = vs1 ∧ n = n1) ⟨rfl, rfl⟩) f
          subst h5 h5'
          refine next (v := .g vs) (f1 := f1) (h8 g) h6 h7 (fun z hz => List.mem_append_left _ hz) h1 (.inr ⟨_, List.mem_append_right _ (List.mem_singleton.2 rfl), fun w hw => ?_⟩)
          refine now_of hc ho hca rfl rfl rfl hA hL lk_cons_eq hs1 (n := A.nx) ?_ (Nat.le_refl _)
          unfold co
          cases hpn : pu ⟨envS fr.R A i, [], A.nx⟩ (.ldN x ys) with
          | some u =>
            -- no cells at all
            simp only [pu, hx] at hpn
            cases ys with
            | nil =>
              simp only [knN, Option.map_some, Option.some.injEq] at hpn
              subst hpn
              have : vs = [] := by
                have := h2 (fun a b => a = []) (by simpa [exL] using h2 (fun a b => a = vs) rfl) 
                simpa [exL] using (h2 (fun a b => a = vs) rfl).symm
              subst this; rfl
            | cons l r =>
              have : knAt ⟨envS fr.R A i, [], A.nx⟩ k 0 = none := by unfold knAt; cases k with | none => rfl | some z => simp [knF]
              simp [knN, this] at hpn
          | none =>
            simp only [hx]
            exact h4 w 0 _ (cnj_el hw) rfl
        · exact h.elim
      · exact h.elim
      · rename_i d x ha
        obtain ⟨o, ho, hcA⟩ := at_ops hof ha
        have hca := cA_ok hcA
        split at h
        · rename_i v hv
          obtain ⟨m', a', H'⟩ := dummy (envS fr.R A i)
          have hcO := hca.o
          obtain ⟨hcO, _, _⟩ := cD_ok hcO
          have hvok := (pu_ok (dst := none) (pos := "") (af := #[]) (gd := none) hcO hv (hA.inv (w := default) i) H').1
          exact next hvok (Nat.le_refl _) (fun _ _ => rfl) (fun _ h => h) h (.inl fun w => now_of hc ho hca rfl rfl rfl hA hL lk_cons_eq hs1 (n := A.nx) (pu_co hv rfl) (Nat.le_refl _))
        · exact h.elim
      · rename_i d x hld hldN htS hnc ha
        obtain ⟨o, ho, hcA⟩ := at_ops hof ha
        have hca := cA_ok hcA
        split at h
        · exact h.elim
        · rename_i hef
          have hef : x.ef = false := by simpa using hef
          obtain ⟨m', a', H'⟩ := dummy (envS fr.R A i)
          have hcO := hca.o
          obtain ⟨hcO, _, _⟩ := cD_ok hcO
          obtain ⟨v, s', σ, f1, ⟨hK, _, hre⟩, W, hv, _⟩ := co_ok (dst := none) (pos := "") (af := #[]) (gd := none) hcO (co_strong rfl h) (hA.inv i) H'
          refine next hv W.le W.ag (fun _ h => h) hK (.inl fun w => now_of hc ho hca rfl rfl hef hA hL lk_cons_eq hs1 (n := A.nx) (hre w ?_) (Nat.le_refl _))
          exact agd_nop (fun _ _ e => hld _ _ e) (fun a b e => hldN _ _ e) (fun a b c e => htS _ _ _ e)
      · exact h.elim
end
end Go.Vc.Ex

namespace Go.Vc.Ex
open Go Go.Vc
/-! ## Names -/
theorem allN_el : ∀ {ts : List NT} {F : TupX ts → Prop}, allN ts F → ∀ z, F z
  | [], _, h, () => h
  | [_], _, h, x => h x
  | _ :: b :: r, F, h, (x, z) => allN_el (ts := b :: r) (F := fun z => F (x, z)) (h x) z
theorem mkX_ok : ∀ {ts : List NT} {b : Bool} {n : Nat} {z : TupX ts} (f : Nat → Option Addr), ∃ f', (∀ j < n, f' j = f j) ∧ ∀ g, ∀ x ∈ mkX ts b n z, Lf.ok f' g (n + ts.length) x
  | [], _, n, _, f => ⟨f, fun _ _ => rfl, by simp [mkX]⟩
  | [a], b, n, z, f => by
    cases a with
    | l l =>
      obtain ⟨f', h1, h2⟩ := mkL_ok (l := l) (n := n) (e := z) f
      exact ⟨f', h1, fun g x hx => by simp only [mkX, List.mem_singleton] at hx; subst hx; cases b <;> exact h2 g⟩
    | n => exact ⟨f, fun _ _ => rfl, fun g x hx => by simp only [mkX, List.mem_singleton] at hx; subst hx; cases b <;> trivial⟩
  | a :: c :: r, b, n, z, f => by
    have h0 : ∃ f', (∀ j < n, f' j = f j) ∧ ∀ g, Lf.ok f' g (n + 1) (mkN a b n z.1) := by
      cases a with
      | l l =>
        obtain ⟨f', h1, h2⟩ := mkL_ok (l := l) (n := n) (e := z.1) f
        exact ⟨f', h1, fun g => by cases b <;> exact h2 g⟩
      | n => exact ⟨f, fun _ _ => rfl, fun g => by cases b <;> trivial⟩
    obtain ⟨f1, h1, h2⟩ := h0
    obtain ⟨f2, h3, h4⟩ := mkX_ok (ts := c :: r) (b := b) (n := n + 1) (z := z.2) f1
    refine ⟨f2, fun j hj => by rw [h3 j (by omega), h1 j hj], fun g x hx => ?_⟩
    simp only [mkX] at hx
    rcases List.mem_cons.1 hx with rfl | hx
    · exact (h2 g).mono h3 (fun _ _ => rfl) (by simp)
    · exact (h4 g x hx).mono (fun _ _ => rfl) (fun _ _ => rfl) (by simp; omega)
theorem sv_ok {o : OK} {n : Nat} {x : o.T} (f : Nat → Option Addr) : ∃ f', (∀ j < n, f' j = f j) ∧ ∀ g, SV.ok f' g (n + o.tys.length) (o.sv n x) := by
  cases o with
  | blk => exact ⟨f, fun _ _ => rfl, fun g => trivial⟩
  | mp => exact ⟨f, fun _ _ => rfl, fun g => trivial⟩
  | un => exact ⟨f, fun _ _ => rfl, fun g => trivial⟩
  | ut => exact ⟨f, fun _ _ => rfl, fun g c hc => by simp at hc⟩
  | st r =>
    obtain ⟨f', h1, h2⟩ := mkX_ok (ts := (OK.st r).tys) (b := true) (n := n) (z := x) f
    exact ⟨f', h1, fun g => bldV_ok (h2 g)⟩
theorem svs_ok : ∀ {os : List OK} {es : List Nat} {n : Nat} {z : Asg os} (f : Nat → Option Addr), ∃ f', (∀ j < n, f' j = f j) ∧ ∀ g, ∀ p ∈ svsA os es n z, p.2.ok f' g (n + nmsL os)
  | [], _, n, _, f => ⟨f, fun _ _ => rfl, by simp [svsA]⟩
  | o :: r, [], n, z, f => ⟨f, fun _ _ => rfl, by simp [svsA]⟩
  | o :: r, e :: es, n, z, f => by
    have hs : nmsL (o :: r) = o.tys.length + nmsL r := rfl
    cases hz : z.1 with
    | none =>
      obtain ⟨f', h1, h2⟩ := svs_ok (os := r) (es := es) (n := n + o.tys.length) (z := z.2) f
      refine ⟨f', fun j hj => h1 j (by omega), fun g p hp => ?_⟩
      simp only [svsA, hz] at hp
      exact (h2 g p hp).mono (fun _ _ => rfl) (fun _ _ => rfl) (by omega)
    | some x =>
      obtain ⟨f1, h1, h2⟩ := sv_ok (o := o) (n := n) (x := x) f
      obtain ⟨f', h3, h4⟩ := svs_ok (os := r) (es := es) (n := n + o.tys.length) (z := z.2) f1
      refine ⟨f', fun j hj => by rw [h3 j (by omega), h1 j hj], fun g p hp => ?_⟩
      simp only [svsA, hz] at hp
      rcases List.mem_cons.1 hp with rfl | hp
      · exact (h2 g).mono h3 (fun _ _ => rfl) (by omega)
      · exact (h4 g p hp).mono (fun _ _ => rfl) (fun _ _ => rfl) (by omega)
theorem nmX_d {b : Bool} : ∀ {ls : List LT} {xs : List Lf} {y : TupX (ls.map NT.l)} {k : Nat}, xs.length = ls.length → nmX (ls.map NT.l) xs = some y → (mkX (ls.map NT.l) b k y).map Lf.d = xs.map Lf.d
  | [], [], _, _, _, _ => rfl
  | [l], [x], y, k, _, h => by
    have h1 := toT_d (n := k) (show toT l x = some y from h)
    show [(mkN (NT.l l) b k y).d] = [x.d]
    cases b <;> simp only [mkN, h1]
  | l :: l2 :: ls, x :: xs, y, k, hl, h => by
    have h' : nmX (NT.l l :: NT.l l2 :: ls.map NT.l) (x :: xs) = some y := h
    simp only [nmX, nmL] at h'
    split at h'
    · rename_i e z h1 h2
      cases some_inj h'
      have h3 := nmX_d (b := b) (ls := l2 :: ls) (k := k + 1) (by simpa using hl) h2
      have h4 := toT_d (n := k) h1
      show (mkN (NT.l l) b k e).d :: (mkX ((l2 :: ls).map NT.l) b (k + 1) z).map Lf.d = x.d :: xs.map Lf.d
      rw [h3]
      cases b <;> simp only [mkN, h4]
    · cases h'
  | [], _ :: _, _, _, hl, _ => by simp at hl
  | [_], [], _, _, hl, _ => by simp at hl
  | [_], _ :: _ :: _, _, _, hl, _ => by simp at hl
  | _ :: _ :: _, [], _, _, hl, _ => by simp at hl
theorem nmV_d {o : OK} {v : SV} {y : o.T} {f : Nat → Option Addr} {g : Nat → Nat} {n k : Nat} (h : nmV o v = some y) (hv : v.ok f g n) : (o.sv k y).d = v.d := by
  unfold nmV at h
  obtain ⟨h1, h⟩ := ifs' h
  cases o with
  | un => cases v with
    | no => rfl
    | _ => cases h1
  | ut => cases v with
    | t xs => cases xs with
      | nil => rfl
      | cons c r => cases h1
    | _ => cases h1
  | blk => cases v with
    | l x => cases x with
      | a key e =>
        simp only [OK.tys, flatV, nmX] at h
        cases key with
        | none => cases h
        | some z =>
          simp only [nmL] at h
          obtain ⟨h2, rfl⟩ := ifs h
          obtain ⟨_, h4⟩ := hv
          show Value.pointer (some (blk e.block)) = Value.pointer (some e)
          rw [h4, Nat.eq_of_beq_eq_true h2]
      | _ => cases h1
    | _ => cases h1
  | mp => cases v with
    | l x => cases x with
      | m e =>
        simp only [OK.tys, flatV, nmX] at h
        cases e with
        | none => cases h
        | some q =>
          simp only [nmL] at h
          cases h; rfl
      | _ => cases h1
    | _ => cases h1
  | st r =>
    simp only [okB, Bool.and_eq_true] at h1
    have hl : (flatV v).length = (flatT r).length := by simpa using h1.2
    have key : ∀ {ls : List LT} {y : TupX (ls.map NT.l)}, ls = flatT r → nmX (ls.map NT.l) (flatV v) = some y → (bldV r (mkX (ls.map NT.l) true k y)).d = v.d := fun {ls y} e h => by
      subst e
      exact bldV_d h1.1 h1.2 (nmX_d hl h)
    cases r with
    | l l => exact key (ls := [l]) rfl h
    | g ls => exact key (ls := ls) rfl h
    | t cs => exact key (ls := cs.flatMap Prod.snd) rfl h
/-! ## Assignments -/
def AgrQ : (os : List OK) → List Nat → (Nat → Bool) → Asg os → Asg os → Prop
  | [], _, _, _, _ => True
  | _ :: r, e :: es, q, z, z' => (q e = false → z.1 = z'.1) ∧ AgrQ r es q z.2 z'.2
  | _ :: _, [], _, z, z' => z = z'
def MatQ : (os : List OK) → List Nat → (Nat → Bool) → Asg os → Prop
  | [], _, _, _ => True
  | _ :: r, e :: es, q, z => z.1.isSome = q e ∧ MatQ r es q z.2
  | o :: r, [], _, z => z = noA (o :: r)
theorem allO_el : ∀ {os : List OK} {es : List Nat} {q : Nat → Bool} {z0 : Asg os} {F : Asg os → Prop}, allO os (es.map q) z0 F → ∀ z, AgrQ os es q z z0 → F z
  | [], _, _, _, _, h, (), _ => h
  | o :: r, [], q, z0, F, h, z, ha => by
    have ha : z = z0 := ha
    subst ha
    exact h
  | o :: r, e :: es, q, z0, F, h, z, ha => by
    simp only [List.map_cons] at h
    cases hq : q e with
    | true =>
      rw [hq] at h
      exact allO_el (F := fun y => F (z.1, y)) (h z.1) z.2 ha.2
    | false =>
      rw [hq] at h
      have := allO_el (F := fun y => F (z0.1, y)) h z.2 ha.2
      rw [← ha.1 hq] at this
      exact this
theorem allD_el : ∀ {os : List OK} {es : List Nat} {q : Nat → Bool} {F : Asg os → Prop}, allD os (es.map q) F → ∀ z, MatQ os es q z → F z
  | [], _, _, _, h, (), _ => h
  | o :: r, [], q, F, h, z, hm => by
    have hm : z = noA (o :: r) := hm
    subst hm; exact h
  | o :: r, e :: es, q, F, h, (z1, z2), hm => by
    simp only [List.map_cons] at h
    obtain ⟨h1, h2⟩ := hm
    cases hq : q e with
    | true =>
      rw [hq] at h h1
      cases z1 with
      | none => cases h1
      | some x => exact allD_el (F := fun y => F (some x, y)) (allN_el h x) z2 h2
    | false =>
      rw [hq] at h h1
      cases z1 with
      | none => exact allD_el (F := fun y => F (none, y)) h z2 h2
      | some x => cases h1
def resA : (os : List OK) → List Nat → (Nat → Bool) → Asg os → Asg os
  | [], _, _, _ => ()
  | _ :: r, e :: es, q, z => (if q e then z.1 else none, resA r es q z.2)
  | o :: r, [], _, _ => noA (o :: r)
def dz (os : List OK) (es : List Nat) (z : Asg os) (e : Nat) : Bool := (lk (svsA os es 0 z) e).isSome
theorem svs_notin : ∀ {os : List OK} {es : List Nat} {n : Nat} {z : Asg os} {e : Nat}, e ∉ es → lk (svsA os es n z) e = none
  | [], _, _, _, _, _ => rfl
  | _ :: _, [], _, _, _, _ => rfl
  | o :: r, x :: es, n, z, e, h => by
    have h1 : e ∉ es := fun q => h (List.mem_cons_of_mem _ q)
    have h2 : Nat.beq x e = false := by
      cases hb : Nat.beq x e with
      | false => rfl
      | true => exact absurd (by simp [Nat.eq_of_beq_eq_true hb]) h
    cases hz : z.1 with
    | none => simp only [svsA, hz]; exact svs_notin h1
    | some y => simp only [svsA, hz, lk, h2]; exact svs_notin h1
theorem svs_some {os : List OK} {es : List Nat} {n n' : Nat} {z : Asg os} {e : Nat} : (lk (svsA os es n z) e).isSome = (lk (svsA os es n' z) e).isSome := by
  induction os generalizing es n n' with
  | nil => rfl
  | cons o r ih =>
    cases es with
    | nil => rfl
    | cons x es =>
      cases hz : z.1 with
      | none => simp only [svsA, hz]; exact ih
      | some y =>
        simp only [svsA, hz, lk]
        cases Nat.beq x e with
        | true => rfl
        | false => exact ih
theorem dz_head {o : OK} {r : List OK} {x : Nat} {es : List Nat} {z : Asg (o :: r)} (hn : nodN (x :: es) = true) : dz (o :: r) (x :: es) z x = z.1.isSome := by
  simp only [nodN, Bool.and_eq_true, Bool.not_eq_true'] at hn
  have hx : x ∉ es := fun h => by rw [isIn_mem.2 h] at hn; cases hn.1
  unfold dz
  cases hz : z.1 with
  | none => simp only [svsA, hz]; rw [svs_notin hx]; rfl
  | some y => simp [svsA, hz, lk]
theorem dz_tail {o : OK} {r : List OK} {x e : Nat} {es : List Nat} {z : Asg (o :: r)} (hne : x ≠ e) : dz (o :: r) (x :: es) z e = dz r es z.2 e := by
  have h2 : Nat.beq x e = false := by
    cases hb : Nat.beq x e with
    | false => rfl
    | true => exact absurd (Nat.eq_of_beq_eq_true hb) hne
  unfold dz
  cases hz : z.1 with
  | none => simp only [svsA, hz]; exact svs_some
  | some y => simp only [svsA, hz, lk, h2]; exact svs_some
theorem nod_tail {x : Nat} {es : List Nat} (hn : nodN (x :: es) = true) : nodN es = true ∧ ∀ e ∈ es, x ≠ e := by
  simp only [nodN, Bool.and_eq_true, Bool.not_eq_true'] at hn
  exact ⟨hn.2, fun e he h => by subst h; rw [isIn_mem.2 he] at hn; cases hn.1⟩
theorem mat_res : ∀ {os : List OK} {es : List Nat} {q : Nat → Bool} {z : Asg os}, nodN es = true → (∀ x ∈ es, q x = true → dz os es z x = true) → MatQ os es q (resA os es q z)
  | [], _, _, _, _, _ => trivial
  | _ :: _, [], _, _, _, _ => rfl
  | o :: r, x :: es, q, z, hn, h => by
    obtain ⟨h1, h2⟩ := nod_tail hn
    refine ⟨?_, mat_res h1 fun e he hq => by rw [← dz_tail (o := o) (x := x) (h2 e he)]; exact h e (List.mem_cons_of_mem _ he) hq⟩
    simp only [resA]
    cases hq : q x with
    | true =>
      have := h x (by simp) hq
      rw [dz_head hn] at this
      simpa using this
    | false => simp
theorem agr_res : ∀ {os : List OK} {es : List Nat} {q q' : Nat → Bool} {z : Asg os}, os.length = es.length → nodN es = true → (∀ x ∈ es, q' x = false → q x = true ∨ dz os es z x = false) → AgrQ os es q' z (resA os es q z)
  | [], _, _, _, _, _, _, _ => trivial
  | _ :: _, [], _, _, _, hl, _, _ => by simp at hl
  | o :: r, x :: es, q, q', z, hl, hn, h => by
    obtain ⟨h1, h2⟩ := nod_tail hn
    refine ⟨fun hq => ?_, agr_res (by simpa using hl) h1 fun e he hq => by rw [← dz_tail (o := o) (x := x) (h2 e he)]; exact h e (List.mem_cons_of_mem _ he) hq⟩
    simp only [resA]
    rcases h x (by simp) hq with h3 | h3
    · simp [h3]
    · rw [dz_head hn] at h3
      cases hz : z.1 with
      | none => simp
      | some y => rw [hz] at h3; cases h3
theorem agr_no : ∀ {os : List OK} {es : List Nat} {q' : Nat → Bool} {z : Asg os}, os.length = es.length → nodN es = true → (∀ x ∈ es, q' x = false → dz os es z x = false) → AgrQ os es q' z (noA os)
  | [], _, _, _, _, _, _ => trivial
  | _ :: _, [], _, _, hl, _, _ => by simp at hl
  | o :: r, x :: es, q', z, hl, hn, h => by
    obtain ⟨h1, h2⟩ := nod_tail hn
    refine ⟨fun hq => ?_, agr_no (by simpa using hl) h1 fun e he hq => by rw [← dz_tail (o := o) (x := x) (h2 e he)]; exact h e (List.mem_cons_of_mem _ he) hq⟩
    have h3 := h x (by simp) hq
    rw [dz_head hn] at h3
    simp only [noA]
    cases hz : z.1 with
    | none => rfl
    | some y => rw [hz] at h3; cases h3
theorem mat_all : ∀ {os : List OK} {es : List Nat} {z : Asg os}, os.length = es.length → nodN es = true → (∀ x ∈ es, dz os es z x = true) → MatQ os es (fun _ => true) z
  | [], _, _, _, _, _ => trivial
  | _ :: _, [], _, hl, _, _ => by simp at hl
  | o :: r, x :: es, z, hl, hn, h => by
    obtain ⟨h1, h2⟩ := nod_tail hn
    exact ⟨by have := h x (by simp); rw [dz_head hn] at this; exact this, mat_all (by simpa using hl) h1 fun e he => by rw [← dz_tail (o := o) (x := x) (h2 e he)]; exact h e (List.mem_cons_of_mem _ he)⟩
theorem res_lk : ∀ {os : List OK} {es : List Nat} {q : Nat → Bool} {n : Nat} {z : Asg os} {e : Nat} {v : SV}, lk (svsA os es n (resA os es q z)) e = some v → lk (svsA os es n z) e = some v ∧ q e = true
  | [], _, _, _, _, _, _, h => by simp [svsA, lk] at h
  | _ :: _, [], _, _, _, _, _, h => by simp [svsA, lk] at h
  | o :: r, x :: es, q, n, z, e, v, h => by
    simp only [resA] at h
    cases hz : z.1 with
    | none =>
      simp only [hz, ite_self, svsA] at h ⊢
      exact res_lk h
    | some y =>
      cases hq : q x with
      | true =>
        simp only [hz, hq, if_true, svsA, lk] at h ⊢
        cases hb : Nat.beq x e with
        | true =>
          rw [hb] at h
          exact ⟨h, by rw [← Nat.eq_of_beq_eq_true hb]; exact hq⟩
        | false => rw [hb] at h; exact res_lk h
      | false =>
        simp only [hz, hq, Bool.false_eq_true, if_false, svsA, lk] at h ⊢
        obtain ⟨h1, h2⟩ := res_lk h
        refine ⟨?_, h2⟩
        cases hb : Nat.beq x e with
        | true => rw [← Nat.eq_of_beq_eq_true hb, hq] at h2; cases h2
        | false => exact h1
theorem res_dz : ∀ {os : List OK} {es : List Nat} {q : Nat → Bool} {n : Nat} {z : Asg os} {e : Nat} {v : SV}, nodN es = true → lk (svsA os es n z) e = some v → q e = true → lk (svsA os es n (resA os es q z)) e = some v
  | [], _, _, _, _, _, _, _, h, _ => by simp [svsA, lk] at h
  | _ :: _, [], _, _, _, _, _, _, h, _ => by simp [svsA, lk] at h
  | o :: r, x :: es, q, n, z, e, v, hn, h, hq => by
    obtain ⟨h1, h2⟩ := nod_tail hn
    simp only [resA]
    cases hz : z.1 with
    | none =>
      simp only [hz, ite_self, svsA] at h ⊢
      exact res_dz h1 h hq
    | some y =>
      simp only [hz, svsA, lk] at h
      cases hb : Nat.beq x e with
      | true =>
        rw [hb] at h
        have hx := Nat.eq_of_beq_eq_true hb
        subst hx
        simp only [hq, if_true, svsA, lk, hb]; exact h
      | false =>
        rw [hb] at h
        have := res_dz (q := q) h1 h hq
        cases hqx : q x with
        | true => simp only [if_true, svsA, lk, hb]; exact this
        | false => simp only [Bool.false_eq_true, if_false, svsA]; exact this
theorem setV_el {f : Nat → Option Addr} {g : Nat → Nat} {N : Nat} {v : SV} (hv : v.ok f g N) {e : Nat} : ∀ {os : List OK} {es : List Nat} {n : Nat} {z z' : Asg os}, nodN es = true → setV os es e v z = some z' → (∃ u, lk (svsA os es n z') e = some u ∧ u.d = v.d) ∧ ∀ x, x ≠ e → lk (svsA os es n z') x = lk (svsA os es n z) x
  | [], _, _, _, _, _, h => by simp [setV] at h
  | _ :: _, [], _, _, _, _, h => by simp [setV] at h
  | o :: r, x :: es, n, z, z', hn, h => by
    obtain ⟨h1, h2⟩ := nod_tail hn
    simp only [setV] at h
    split at h
    · rename_i hb
      obtain ⟨y, h3, rfl⟩ := map_some' h
      have hx := Nat.eq_of_beq_eq_true hb
      subst hx
      refine ⟨⟨o.sv n y, by simp [svsA, lk], nmV_d h3 hv⟩, fun t ht => ?_⟩
      have hb : Nat.beq x t = false := by
        cases hb : Nat.beq x t with
        | false => rfl
        | true => exact absurd (Nat.eq_of_beq_eq_true hb).symm ht
      cases hz : z.1 with
      | none => simp only [svsA, hz, lk, hb]; rfl
      | some y' => simp only [svsA, hz, lk, hb]; rfl
    · rename_i hb
      have hb : Nat.beq x e = false := by cases hq : Nat.beq x e with | false => rfl | true => exact absurd hq hb
      obtain ⟨t, h3, rfl⟩ := map_some' h
      obtain ⟨⟨u, h4, h5⟩, h6⟩ := setV_el hv (n := n + o.tys.length) h1 h3
      refine ⟨⟨u, ?_, h5⟩, fun q hq => ?_⟩
      · cases hz : z.1 with
        | none => simp only [svsA]; exact h4
        | some y => simp only [svsA, lk, hb]; exact h4
      · cases hz : z.1 with
        | none => simp only [svsA, hz]; exact h6 q hq
        | some y =>
          simp only [svsA, hz, lk]
          rw [h6 q hq]
end Go.Vc.Ex

namespace Go.Vc.Ex
open Go Go.Vc
/-! ## Shapes -/
inductive Sp where | l (v : Bool) | g (n : Nat) | t (l : List (Bool × Nat × Bool)) | no
def isV : Lf → Bool | .v _ => true | _ => false
def spC (c : Bool × List Lf) : Bool × Nat × Bool := (c.1, c.2.length, match c.2 with | [x] => isV x | _ => false)
def shp : SV → Sp | .l x => .l (isV x) | .g xs => .g xs.length | .t cs => .t (cs.map spC) | .no => .no
theorem lvs_shp {v v' : SV} (h : shp v = shp v') : (lvs v).map List.length = (lvs v').map List.length := by
  cases v <;> cases v' <;> simp only [shp, reduceCtorEq, Sp.l.injEq, Sp.g.injEq] at h
  · rename_i x y
    cases x <;> cases y <;> first | rfl | (simp [isV] at h)
  · simp [lvs, h]
  · rfl
  · rfl
theorem cmpS_shp {c c' : Bool × List Lf} (h : spC c = spC c') : (cmpS c).map shp = (cmpS c').map shp := by
  obtain ⟨b, l⟩ := c
  obtain ⟨b', l'⟩ := c'
  simp only [spC, Prod.mk.injEq] at h
  obtain ⟨rfl, h1, h2⟩ := h
  cases b with
  | true => simp [cmpS, shp, h1]
  | false =>
    match l, l', h1, h2 with
    | [], [], _, _ => rfl
    | [x], [y], _, h2 =>
      have h2 : isV x = isV y := h2
      simp only [cmpS, Option.map_some, shp, h2]
    | _ :: _ :: _, _ :: _ :: _, _, _ => rfl
def ShE (E E' : List (Nat × SV)) : Prop := ∀ t, (lk E t).map shp = (lk E' t).map shp
theorem ev_shp {E E' : List (Nat × SV)} (h : ShE E E') (x : Operand) : (ev E x).map shp = (ev E' x).map shp := by
  cases x with
  | tmp t => exact h t
  | _ => rfl
theorem fillS_shp {E E' : List (Nat × SV)} (h : ShE E E') : ∀ {ps : List (Nat × Nat × Operand)} {z z' : List Lf}, z.length = z'.length → (fillS E z ps).map List.length = (fillS E' z' ps).map List.length
  | [], z, z', hz => by simp [fillS, hz]
  | (off, size, x) :: ps, z, z', hz => by
    simp only [fillS]
    have h1 := ev_shp h x
    have h2 : ((ev E x).bind lvs).map List.length = ((ev E' x).bind lvs).map List.length := by
      cases ha : ev E x with
      | none =>
        cases hb : ev E' x with
        | none => rfl
        | some v => rw [ha, hb] at h1; cases h1
      | some v =>
        cases hb : ev E' x with
        | none => rw [ha, hb] at h1; cases h1
        | some v' => rw [ha, hb] at h1; exact lvs_shp (some_inj h1)
    cases ha : (ev E x).bind lvs with
    | none =>
      cases hb : (ev E' x).bind lvs with
      | none => rfl
      | some l => rw [ha, hb] at h2; cases h2
    | some l =>
      cases hb : (ev E' x).bind lvs with
      | none => rw [ha, hb] at h2; cases h2
      | some l' =>
        rw [ha, hb] at h2
        have hl : l.length = l'.length := some_inj h2
        simp only [place]
        by_cases hc : l.length = size ∧ off + size ≤ z.length
        · rw [if_pos hc, if_pos (by rw [← hl, ← hz]; exact hc)]
          exact fillS_shp h (by simp [hl, hz])
        · rw [if_neg hc, if_neg (by rw [← hl, ← hz]; exact hc)]
theorem pu_shp {E E' : List (Nat × SV)} (h : ShE E E') {x : I} (hx : late' x = true) {kn kn' : List ((Nat × Nat) × Lf)} {n n' : Nat} : (pu ⟨E, kn, n⟩ x).map shp = (pu ⟨E', kn', n'⟩ x).map shp := by
  cases x <;> simp only [late', Bool.false_eq_true] at hx
  · exact ev_shp h _
  · rename_i x q
    simp only [pu]
    have h1 := ev_shp h x
    cases ha : ev E x with
    | none =>
      cases hb : ev E' x with
      | none => rfl
      | some v => rw [ha, hb] at h1; cases h1
    | some v =>
      cases hb : ev E' x with
      | none => rw [ha, hb] at h1; cases h1
      | some v' =>
        rw [ha, hb] at h1
        have h1 := some_inj h1
        cases v <;> cases v' <;> simp only [shp, reduceCtorEq, Sp.t.injEq] at h1 <;> first | rfl | skip
        rename_i cs cs' _
        simp only
        have h2 := congrArg (fun l => l[q]?) h1
        simp only [List.getElem?_map] at h2
        cases hc : cs[q]? with
        | none =>
          cases hd : cs'[q]? with
          | none => rfl
          | some d => rw [hc, hd] at h2; cases h2
        | some c =>
          cases hd : cs'[q]? with
          | none => rw [hc, hd] at h2; cases h2
          | some d => rw [hc, hd] at h2; exact cmpS_shp (some_inj h2)
  · rename_i z ps
    simp only [pu, Option.map_map]
    have h1 := fillS_shp h (ps := ps) (z := z) (z' := z) rfl
    have e : ∀ o : Option (List Lf), Option.map (shp ∘ SV.g) o = (o.map List.length).map Sp.g := fun o => by cases o <;> rfl
    rw [e, e, h1]
theorem mkX_shp : ∀ {ts : List NT} {b : Bool} {n n' : Nat} {z z' : TupX ts}, (mkX ts b n z).map isV = (mkX ts b n' z').map isV
  | [], _, _, _, _, _ => rfl
  | [a], b, _, _, _, _ => by
    cases a with
    | n => cases b <;> rfl
    | l l => cases l <;> cases b <;> rfl
  | a :: c :: r, b, n, n', z, z' => by
    simp only [mkX, List.map_cons]
    have h1 : isV (mkN a b n z.1) = isV (mkN a b n' z'.1) := by
      cases a with
      | n => cases b <;> rfl
      | l l => cases l <;> cases b <;> rfl
    have h2 := mkX_shp (ts := c :: r) (b := b) (n := n + 1) (n' := n' + 1) (z := z.2) (z' := z'.2)
    rw [h1]
    exact congrArg _ h2
theorem bldC_shp : ∀ {cs : List (Bool × List LT)} {l l' : List Lf}, l.map isV = l'.map isV → (bldC cs l).map spC = (bldC cs l').map spC
  | [], _, _, _ => rfl
  | (b, ls) :: cs, l, l', h => by
    simp only [bldC, List.map_cons]
    have h1 : (l.take ls.length).map isV = (l'.take ls.length).map isV := by rw [List.map_take, List.map_take, h]
    have h2 : (l.drop ls.length).map isV = (l'.drop ls.length).map isV := by rw [List.map_drop, List.map_drop, h]
    rw [bldC_shp h2]
    congr 1
    have h3 : (l.take ls.length).length = (l'.take ls.length).length := by simpa using congrArg List.length h1
    simp only [spC, h3]
    congr 2
    match hp : l.take ls.length, hq : l'.take ls.length, h1, h3 with
    | [], [], _, _ => rfl
    | [x], [y], h1, _ => simpa using h1
    | _ :: _ :: _, _ :: _ :: _, _, _ => rfl
theorem sv_shp {o : OK} {n n' : Nat} {x x' : o.T} : shp (o.sv n x) = shp (o.sv n' x') := by
  cases o with
  | blk => rfl
  | mp => rfl
  | un => rfl
  | ut => rfl
  | st r =>
    have h := mkX_shp (ts := (OK.st r).tys) (b := true) (n := n) (n' := n') (z := x) (z' := x')
    simp only [OK.sv]
    cases r with
    | l l =>
      simp only [bldV]
      cases hl : mkX (OK.st (.l l)).tys true n x with
      | nil =>
        cases hl' : mkX (OK.st (.l l)).tys true n' x' with
        | nil => rfl
        | cons y r => rw [hl, hl'] at h; simp at h
      | cons y r =>
        cases hl' : mkX (OK.st (.l l)).tys true n' x' with
        | nil => rw [hl, hl'] at h; simp at h
        | cons y' r' => rw [hl, hl'] at h; simp only [List.map_cons, List.cons.injEq] at h; simp only [shp, h.1]
    | g ls => simp only [bldV, shp]; congr 1; simpa using congrArg List.length h
    | t cs => simp only [bldV, shp]; rw [bldC_shp h]
theorem svs_shp : ∀ {os : List OK} {es : List Nat} {n n' : Nat} {z : Asg os} {e : Nat} {v : SV}, os.length = es.length → nodN es = true → lk (svsA os es n z) e = some v → ∃ v', lk (svsA os es n' (dfA os)) e = some v' ∧ shp v = shp v'
  | [], _, _, _, _, _, _, _, _, h => by simp [svsA, lk] at h
  | _ :: _, [], _, _, _, _, _, _, _, h => by simp [svsA, lk] at h
  | o :: r, x :: es, n, n', z, e, v, hl, hn, h => by
    obtain ⟨hn1, hn2⟩ := nod_tail hn
    simp only [dfA, svsA, lk]
    cases hz : z.1 with
    | none =>
      simp only [svsA, hz] at h
      obtain ⟨v', h1, h2⟩ := svs_shp (n' := n' + o.tys.length) (by simpa using hl) hn1 h
      cases hb : Nat.beq x e with
      | true =>
        have hx := Nat.eq_of_beq_eq_true hb
        subst hx
        rw [svs_notin fun hm => hn2 x hm rfl] at h
        cases h
      | false => exact ⟨v', h1, h2⟩
    | some y =>
      simp only [svsA, hz, lk] at h
      cases hb : Nat.beq x e with
      | true =>
        rw [hb] at h
        cases some_inj h
        exact ⟨_, rfl, sv_shp⟩
      | false =>
        rw [hb] at h
        exact svs_shp (by simpa using hl) hn1 h
theorem svs_full : ∀ {os : List OK} {es : List Nat} {n : Nat} {e : Nat}, os.length = es.length → e ∈ es → (lk (svsA os es n (dfA os)) e).isSome = true
  | [], [], _, _, _, h => by simp at h
  | o :: r, x :: es, n, e, hl, h => by
    simp only [dfA, svsA, lk]
    cases hb : Nat.beq x e with
    | true => rfl
    | false =>
      rcases List.mem_cons.1 h with rfl | h
      · rw [Nat.beq_refl] at hb; cases hb
      · exact svs_full (by simpa using hl) h
  | [], _ :: _, _, _, hl, _ => by simp at hl
  | _ :: _, [], _, _, hl, _ => by simp at hl
end Go.Vc.Ex

namespace Go.Vc.Ex
open Go Go.Vc
theorem knN_nx {E : List (Nat × SV)} {kn : List ((Nat × Nat) × Lf)} {n n' : Nat} : ∀ {ls : List LT} {i : Nat} {key : Option (Nat × Nat)}, knN ⟨E, kn, n⟩ key i ls = knN ⟨E, kn, n'⟩ key i ls
  | [], _, _ => rfl
  | l :: r, i, key => by
    have h : knAt ⟨E, kn, n⟩ key i = knAt ⟨E, kn, n'⟩ key i := rfl
    simp only [knN, h, knN_nx (n := n) (n' := n') (ls := r)]
theorem pu_nx {E : List (Nat × SV)} {kn : List ((Nat × Nat) × Lf)} {n n' : Nat} {x : I} : pu ⟨E, kn, n⟩ x = pu ⟨E, kn, n'⟩ x := by
  cases x
  case ldN x ls => simp only [pu, knN_nx (n := n) (n' := n')]
  case ln k x => cases k <;> rfl
  all_goals rfl
def cond (fr : Fr) (G : List (Nat × SV)) (p : Nat) : Bool := if fr.R.eff.contains p then (lk G p).isSome else (fr.epOf p).all fun e => (lk G e).isSome
structure RI (fr : Fr) (k : Nat) (A : Am) (G : List (Nat × SV)) : Prop where
  pres : ∀ p, p < k → cond fr G p = true → (lk A.V p).isSome = true
  key : ∀ p, (lk A.V p).isSome = true → (p < k ∧ cond fr G p = true) ∨ isUp fr p = true
  up : ∀ p, p < fr.ops.length → isUp fr p = true → (lk A.V p).isSome = true
section
variable [DS] {P : Program} {ops : Array Oper} {n m : Nat} {its : List (Nat × TypeId)} {i j : Nat} {A A' : Am} {w : World} {f : Nat → Option Addr} {g : Nat → Nat} {L0 : List (Nat × Value)} {fr : Fr} {G G' : List (Nat × SV)}
omit [DS] in
theorem prS_eq {R : Rg} {V V' : List (Nat × SV)} : ∀ {l : List Nat}, (∀ p ∈ l, lk V p = lk V' p) → prS R V l = prS R V' l
  | [], _ => rfl
  | p :: l, h => by
    have h1 := prS_eq (R := R) (l := l) fun q hq => h q (List.mem_cons_of_mem _ hq)
    unfold prS at h1 ⊢
    rw [List.filterMap_cons, List.filterMap_cons, h p (by simp), h1]
omit [DS] in
theorem env_eq {R : Rg} (h : ∀ p ∈ R.preOf i, lk A.V p = lk A'.V p) (hL : A.L0 = A'.L0) : envS R A i = envS R A' i := by
  unfold envS; rw [prS_eq h, hL]
omit [DS] in
theorem prS_shp {R : Rg} {V V' : List (Nat × SV)} : ∀ {l : List Nat}, (∀ p ∈ l, (lk V p).map shp = (lk V' p).map shp) → ShE (prS R V l) (prS R V' l)
  | [], _ => fun _ => rfl
  | p :: l, h => fun t => by
    have h1 := prS_shp (R := R) (l := l) (fun q hq => h q (List.mem_cons_of_mem _ hq)) t
    have h2 := h p (by simp)
    unfold prS at h1 ⊢
    rw [List.filterMap_cons, List.filterMap_cons]
    cases R.dstOf p with
    | none => exact h1
    | some d =>
      cases ha : lk V p with
      | none =>
        cases hb : lk V' p with
        | none => exact h1
        | some v => rw [ha, hb] at h2; cases h2
      | some v =>
        cases hb : lk V' p with
        | none => rw [ha, hb] at h2; cases h2
        | some v' =>
          rw [ha, hb] at h2
          simp only [lk]
          cases Nat.beq d t with
          | true => exact h2
          | false => exact h1
omit [DS] in
theorem env_shp {R : Rg} (h : ∀ p ∈ R.preOf i, (lk A.V p).map shp = (lk A'.V p).map shp) (hL : A.L0 = A'.L0) : ShE (envS R A i) (envS R A' i) := fun t => by
  unfold envS
  rw [lk_app, lk_app, hL]
  have h1 := prS_shp (R := R) h t
  cases ha : lk (prS R A.V (R.preOf i)) t with
  | none =>
    cases hb : lk (prS R A'.V (R.preOf i)) t with
    | none => rfl
    | some v => rw [ha, hb] at h1; cases h1
  | some v =>
    cases hb : lk (prS R A'.V (R.preOf i)) t with
    | none => rw [ha, hb] at h1; cases h1
    | some v' => rw [ha, hb] at h1; exact h1
omit [DS] in
theorem cond_pre (hF : FrOk fr ops) (hi : i < fr.ops.length) (hne : fr.R.eff.contains i = false) (hcn : cond fr G i = true) {p : Nat} (hp : p ∈ fr.R.preOf i) : cond fr G p = true := by
  unfold cond at hcn ⊢
  rw [if_neg (by rw [hne]; simp)] at hcn
  split
  · rename_i hpe
    exact List.all_eq_true.1 hcn p (hF.eff hi hp (List.contains_iff_mem.1 hpe))
  · rw [List.all_eq_true]
    exact fun e he => List.all_eq_true.1 hcn e (hF.sub hi hp he)
omit [DS] in
theorem RI.skip {k : Nat} (h : RI fr k A G) (hn : cond fr G k = true → (lk A.V k).isSome = true) : RI fr (k + 1) A G :=
  ⟨fun p hp hcn => by
    by_cases e : p = k
    · subst e; exact hn hcn
    · exact h.pres p (by omega) hcn, fun p hp => (h.key p hp).imp (fun q => ⟨by omega, q.2⟩) id, h.up⟩
omit [DS] in
theorem RI.add {k : Nat} (h : RI fr k A G) (hcn : cond fr G k = true) (v : SV) : RI fr (k + 1) (A.add k v) G := by
  refine ⟨fun p hp hcp => ?_, fun p hp => ?_, fun p hp hu => ?_⟩
  · by_cases e : k = p
    · subst e; rw [show lk (A.add k v).V k = some v from lk_cons_eq]; rfl
    · rw [show lk (A.add k v).V p = lk A.V p from lk_cons_ne e]; exact h.pres p (by omega) hcp
  · by_cases e : k = p
    · subst e; exact .inl ⟨Nat.lt_succ_self _, hcn⟩
    · rw [show lk (A.add k v).V p = lk A.V p from lk_cons_ne e] at hp
      exact (h.key p hp).imp (fun q => ⟨by omega, q.2⟩) id
  · by_cases e : k = p
    · subst e; rw [show lk (A.add k v).V k = some v from lk_cons_eq]; rfl
    · rw [show lk (A.add k v).V p = lk A.V p from lk_cons_ne e]; exact h.up p hp hu
omit [DS] in
theorem RI.fresh {k : Nat} (h : RI fr k A G) (hu : isUp fr k = false) : lk A.V k = none := by
  cases hl : lk A.V k with
  | none => rfl
  | some v =>
    rcases h.key k (by rw [hl]; rfl) with ⟨h1, _⟩ | h1
    · omega
    · rw [hu] at h1; cases h1
structure Ran (P : Program) (ops : Array Oper) (fr : Fr) (m : Nat) (L0 : List (Nat × Value)) (f : Nat → Option Addr) (g : Nat → Nat) (n k : Nat) (A B : Am) (G : List (Nat × SV)) : Prop where
  ri : RI fr fr.ops.length B G
  ok : AOk f g { B with nx := n }
  L : B.L0 = A.L0
  nx : B.nx = A.nx
  grow : ∀ p v, lk A.V p = some v → lk B.V p = some v
  now : ∀ p, k ≤ p → p < fr.ops.length → isUp fr p = false → fr.R.eff.contains p = false → cond fr G p = true → ∀ w, Now P ops fr.R m L0 B p w
  eff : ∀ e, k ≤ e → e < fr.ops.length → fr.R.eff.contains e = true → ∀ v, lk G e = some v → lk B.V e = some v
omit [DS] in
theorem add_ok (hA : AOk f g { A with nx := n }) (hn : lk A.V i = none) {v : SV} (hv : v.ok f g n) : AOk f g { (A.add i v) with nx := n } :=
  (add_ext (A := { A with nx := n }) hA hn hv (Nat.le_refl _) (fun _ _ => rfl) (fun _ _ => rfl)).ok
theorem run_main (hF : FrOk fr ops) (hc : Wk fr.R ops) (hof : optMap (cA P its m ops) ops.toList = some fr.ops) {G0 : List (Nat × SV)} (hG : ∀ z ∈ G, z.2.ok f g n) (hsh : ∀ e v, lk G e = some v → ∃ v', lk G0 e = some v' ∧ shp v = shp v') (hfull : ∀ e ∈ fr.R.eff, (lk G0 e).isSome = true)
    (hep : ∀ i, i < fr.ops.length → ∀ e ∈ fr.epOf i, e ∈ fr.R.eff) : ∀ (len k : Nat) (A A0 B0 : Am), k + len = fr.ops.length → RI fr k A G → RI fr k A0 G0 → A.L0 = A0.L0 → (∀ p v, lk A.V p = some v → ∃ v', lk A0.V p = some v' ∧ shp v = shp v') → AOk f g { A with nx := n } → dE A.L0 = L0 →
    runV fr A0 G0 (List.range' k len) = some B0 → ∃ B, runV fr A G (List.range' k len) = some B ∧ Ran P ops fr m L0 f g n k A B G
  | 0, k, A, A0, B0, hk, hr, _, _, _, hA, _, _ => by
    refine ⟨A, rfl, ⟨by rw [← show k = fr.ops.length by omega]; exact hr, hA, rfl, rfl, fun _ _ h => h, fun p h1 h2 => by omega, fun e h1 h2 => by omega⟩⟩
  | len + 1, k, A, A0, B0, hk, hr, hr0, hL, hs, hA, hL0, h => by
    have hklt : k < fr.ops.length := by omega
    have hc0 : cond fr G0 k = true := by
      unfold cond
      split
      · rename_i he; exact hfull k (List.contains_iff_mem.1 he)
      · rw [List.all_eq_true]; exact fun e he => hfull e (hep k hklt e he)
    rw [List.range'_succ] at h ⊢
    simp only [runV] at h ⊢
    cases he : fr.R.eff.contains k with
    | true =>
      simp only [he, if_true] at h ⊢
      have hnup : isUp fr k = false := by simp only [isUp, he]; rfl
      obtain ⟨v0, hv0⟩ := Option.isSome_iff_exists.1 (hfull k (List.contains_iff_mem.1 he))
      simp only [hv0] at h
      cases hv : lk G k with
      | some v =>
        simp only
        obtain ⟨v1, h1, h2⟩ := hsh k v hv
        rw [hv0] at h1
        cases some_inj h1
        have hcn : cond fr G k = true := by unfold cond; rw [if_pos he, hv]; rfl
        have hfr := hr.fresh hnup
        obtain ⟨B, hB, rn⟩ := run_main hF hc hof hG hsh hfull hep len (k + 1) (A.add k v) (A0.add k v0) B0 (by omega) (hr.add hcn v) (hr0.add hc0 v0) hL (fun p u hp => by
          by_cases e : k = p
          · subst e
            rw [show lk (A.add k v).V k = some v from lk_cons_eq] at hp
            cases some_inj hp
            exact ⟨v0, lk_cons_eq, h2⟩
          · rw [show lk (A.add k v).V p = lk A.V p from lk_cons_ne e] at hp
            obtain ⟨v', h3, h4⟩ := hs p u hp
            exact ⟨v', (lk_cons_ne e).trans h3, h4⟩) (add_ok hA hfr (hG _ (lk_mem hv))) hL0 h
        refine ⟨B, hB, ⟨rn.ri, rn.ok, rn.L, rn.nx, fun p u hp => rn.grow p u ?_, fun p h1 h2 h3 h4 h5 => ?_, fun e h1 h2 h3 u hu => ?_⟩⟩
        · have : k ≠ p := fun e => by rw [← e, hfr] at hp; cases hp
          exact (lk_cons_ne this).trans hp
        · exact rn.now p (by by_cases e : p = k; subst e; rw [he] at h4; cases h4; omega) h2 h3 h4 h5
        · by_cases e' : e = k
          · subst e'
            rw [hv] at hu
            cases some_inj hu
            exact rn.grow _ _ lk_cons_eq
          · exact rn.eff e (by omega) h2 h3 u hu
      | none =>
        simp only
        have hcn : cond fr G k = false := by unfold cond; rw [if_pos he, hv]; rfl
        obtain ⟨B, hB, rn⟩ := run_main hF hc hof hG hsh hfull hep len (k + 1) A (A0.add k v0) B0 (by omega) (hr.skip fun hh => by rw [hcn] at hh; cases hh) (hr0.add hc0 v0) hL (fun p u hp => by
          obtain ⟨v', h3, h4⟩ := hs p u hp
          have : k ≠ p := fun e => by rw [← e, hr.fresh hnup] at hp; cases hp
          exact ⟨v', (lk_cons_ne this).trans h3, h4⟩) hA hL0 h
        refine ⟨B, hB, ⟨rn.ri, rn.ok, rn.L, rn.nx, rn.grow, fun p h1 h2 h3 h4 h5 => ?_, fun e h1 h2 h3 u hu => ?_⟩⟩
        · exact rn.now p (by by_cases e : p = k; subst e; rw [he] at h4; cases h4; omega) h2 h3 h4 h5
        · by_cases e' : e = k
          · subst e'; rw [hv] at hu; cases hu
          · exact rn.eff e (by omega) h2 h3 u hu
    | false =>
      simp only [he, Bool.false_eq_true, if_false] at h ⊢
      cases hemp : (fr.epOf k).isEmpty with
      | true =>
        simp only [hemp, if_true] at h ⊢
        have hup : isUp fr k = true := by simp only [isUp, he, hemp]; rfl
        obtain ⟨B, hB, rn⟩ := run_main hF hc hof hG hsh hfull hep len (k + 1) A A0 B0 (by omega) (hr.skip fun _ => hr.up k hklt hup) (hr0.skip fun _ => hr0.up k hklt hup) hL hs hA hL0 h
        refine ⟨B, hB, ⟨rn.ri, rn.ok, rn.L, rn.nx, rn.grow, fun p h1 h2 h3 h4 h5 => ?_, fun e h1 h2 h3 u hu => ?_⟩⟩
        · exact rn.now p (by by_cases e : p = k; subst e; rw [hup] at h3; cases h3; omega) h2 h3 h4 h5
        · exact rn.eff e (by by_cases e' : e = k; subst e'; rw [he] at h3; cases h3; omega) h2 h3 u hu
      | false =>
        simp only [hemp, Bool.false_eq_true, if_false] at h ⊢
        have hnup : isUp fr k = false := by simp only [isUp, he, hemp]; rfl
        have hall0 : (fr.epOf k).all (fun e => (lk G0 e).isSome) = true := by
          rw [List.all_eq_true]; exact fun e he => hfull e (hep k hklt e he)
        rw [if_pos hall0] at h
        split at h
        · rename_i d x ha
          split at h
          · rename_i hlate
            split at h
            · rename_i v0 hv0
              have hfr := hr.fresh hnup
              by_cases hall : (fr.epOf k).all (fun e => (lk G e).isSome) = true
              · have hcn : cond fr G k = true := by unfold cond; rw [if_neg (by rw [he]; simp)]; exact hall
                rw [if_pos hall]
                simp only [hlate, if_true]
                obtain ⟨o, ho, hcA⟩ := at_ops hof ha
                have hca := cA_ok hcA
                have hsz := (Array.getElem?_eq_some_iff.1 ho).1
                have hshE : ShE (envS fr.R A k) (envS fr.R A0 k) := env_shp (fun p hp => by
                  have hpl : p < k := hc.pre hsz hp
                  have h1 := hr.pres p hpl (cond_pre hF hklt he hcn hp)
                  obtain ⟨u, hu⟩ := Option.isSome_iff_exists.1 h1
                  obtain ⟨u', h2, h3⟩ := hs p u hu
                  rw [hu, h2]; simp only [Option.map_some, h3]) hL
                have hpu := pu_shp hshE hlate (kn := []) (kn' := []) (n := A.nx) (n' := A0.nx)
                rw [hv0] at hpu
                obtain ⟨v, hv, hvs⟩ := map_some' hpu
                simp only [hv]
                have hef : x.ef = false := by cases x <;> simp [late'] at hlate <;> rfl
                have hvok : v.ok f g n := by
                  obtain ⟨m', a', H'⟩ := dummy (envS fr.R A k)
                  have hcO := hca.o
                  obtain ⟨hcO, _, _⟩ := cD_ok hcO
                  exact (pu_ok (s := ⟨envS fr.R A k, [], n⟩) (dst := none) (pos := "") (af := #[]) (gd := none) hcO (by rw [← hv]; exact pu_nx) (hA.inv (w := default) k) H').1
                obtain ⟨B, hB, rn⟩ := run_main hF hc hof hG hsh hfull hep len (k + 1) (A.add k v) (A0.add k v0) B0 (by omega) (hr.add hcn v) (hr0.add hc0 v0) hL (fun p u hp => by
                  by_cases e : k = p
                  · subst e
                    rw [show lk (A.add k v).V k = some v from lk_cons_eq] at hp
                    cases some_inj hp
                    exact ⟨v0, lk_cons_eq, hvs⟩
                  · rw [show lk (A.add k v).V p = lk A.V p from lk_cons_ne e] at hp
                    obtain ⟨v', h3, h4⟩ := hs p u hp
                    exact ⟨v', (lk_cons_ne e).trans h3, h4⟩) (add_ok hA hfr hvok) hL0 h
                have hgr : ∀ p u, lk A.V p = some u → lk (A.add k v).V p = some u := fun p u hp => by
                  have : k ≠ p := fun e => by rw [← e, hfr] at hp; cases hp
                  exact (lk_cons_ne this).trans hp
                refine ⟨B, hB, ⟨rn.ri, rn.ok, rn.L, rn.nx, fun p u hp => rn.grow p u (hgr p u hp), fun p h1 h2 h3 h4 h5 w => ?_, fun e h1 h2 h3 u hu => ?_⟩⟩
                · by_cases e : p = k
                  · subst e
                    exact now_of (A := { A with nx := n }) (A' := B) hc ho hca rfl rfl hef hA hL0 (rn.grow _ _ lk_cons_eq) (fun q u hq => rn.grow q u (hgr q u hq)) (n := n) (pu_co (by rw [← hv]; exact pu_nx) rfl) (Nat.le_refl _)
                  · exact rn.now p (by omega) h2 h3 h4 h5 w
                · exact rn.eff e (by by_cases e' : e = k; subst e'; rw [he] at h3; cases h3; omega) h2 h3 u hu
              · rw [if_neg hall]
                have hcn : cond fr G k = false := by unfold cond; rw [if_neg (by rw [he]; simp)]; simpa using hall
                obtain ⟨B, hB, rn⟩ := run_main hF hc hof hG hsh hfull hep len (k + 1) A (A0.add k v0) B0 (by omega) (hr.skip fun hh => by rw [hcn] at hh; cases hh) (hr0.add hc0 v0) hL (fun p u hp => by
                  obtain ⟨v', h3, h4⟩ := hs p u hp
                  have : k ≠ p := fun e => by rw [← e, hr.fresh hnup] at hp; cases hp
                  exact ⟨v', (lk_cons_ne this).trans h3, h4⟩) hA hL0 h
                refine ⟨B, hB, ⟨rn.ri, rn.ok, rn.L, rn.nx, rn.grow, fun p h1 h2 h3 h4 h5 => ?_, fun e h1 h2 h3 u hu => ?_⟩⟩
                · exact rn.now p (by by_cases e : p = k; subst e; rw [hcn] at h5; cases h5; omega) h2 h3 h4 h5
                · exact rn.eff e (by by_cases e' : e = k; subst e'; rw [he] at h3; cases h3; omega) h2 h3 u hu
            · cases h
          · cases h
        · cases h
end
end Go.Vc.Ex

namespace Go.Vc.Ex
open Go Go.Vc
section
variable [DS] {P : Program} {ops : Array Oper} {n m : Nat} {its : List (Nat × TypeId)} {i j : Nat} {A A' : Am} {w : World} {f : Nat → Option Addr} {g : Nat → Nat} {L0 : List (Nat × Value)} {fr : Fr} {G G' : List (Nat × SV)} {s : St}
omit [DS] in
theorem run_sub (hF : FrOk fr ops) (hc : Wk fr.R ops) (hlen : fr.ops.length = ops.size) (hG : ∀ p v, lk G p = some v → lk G' p = some v) : ∀ (len k : Nat) (A A' B B' : Am), k + len = fr.ops.length → RI fr k A G → RI fr k A' G' → A.L0 = A'.L0 → (∀ p v, lk A.V p = some v → lk A'.V p = some v) →
    runV fr A G (List.range' k len) = some B → runV fr A' G' (List.range' k len) = some B' → ∀ p v, lk B.V p = some v → lk B'.V p = some v
  | 0, k, A, A', B, B', _, _, _, _, hs, h, h' => by
    cases some_inj h
    cases some_inj h'
    exact hs
  | len + 1, k, A, A', B, B', hk, hr, hr', hL, hs, h, h' => by
    have hklt : k < fr.ops.length := by omega
    rw [List.range'_succ] at h h'
    simp only [runV] at h h'
    have both : ∀ {v : SV}, ∀ p u, lk (A.add k v).V p = some u → lk (A'.add k v).V p = some u := fun {v} p u hp => by
      by_cases e : k = p
      · subst e
        rw [show lk (A.add k v).V k = some v from lk_cons_eq] at hp
        rw [← hp]; exact lk_cons_eq
      · rw [show lk (A.add k v).V p = lk A.V p from lk_cons_ne e] at hp
        exact (lk_cons_ne e).trans (hs p u hp)
    have one : isUp fr k = false → ∀ {v : SV}, ∀ p u, lk A.V p = some u → lk (A'.add k v).V p = some u := fun hu {v} p u hp => by
      have : k ≠ p := fun e => by rw [← e, hr.fresh hu] at hp; cases hp
      exact (lk_cons_ne this).trans (hs p u hp)
    cases he : fr.R.eff.contains k with
    | true =>
      simp only [he, if_true] at h h'
      have hnup : isUp fr k = false := by simp only [isUp, he]; rfl
      cases hv : lk G k with
      | some v =>
        have hcn : cond fr G k = true := by unfold cond; rw [if_pos he, hv]; rfl
        have hcn' : cond fr G' k = true := by unfold cond; rw [if_pos he, hG k v hv]; rfl
        simp only [hv, hG k v hv] at h h'
        exact run_sub hF hc hlen hG len (k + 1) _ _ B B' (by omega) (hr.add hcn v) (hr'.add hcn' v) hL both h h'
      | none =>
        have hcn : cond fr G k = false := by unfold cond; rw [if_pos he, hv]; rfl
        simp only [hv] at h
        have hsk : RI fr (k + 1) A G := hr.skip fun hh => by rw [hcn] at hh; cases hh
        cases hv' : lk G' k with
        | some v =>
          have hcn' : cond fr G' k = true := by unfold cond; rw [if_pos he, hv']; rfl
          simp only [hv'] at h'
          exact run_sub hF hc hlen hG len (k + 1) _ _ B B' (by omega) hsk (hr'.add hcn' v) hL (one hnup) h h'
        | none =>
          have hcn' : cond fr G' k = false := by unfold cond; rw [if_pos he, hv']; rfl
          simp only [hv'] at h'
          exact run_sub hF hc hlen hG len (k + 1) _ _ B B' (by omega) hsk (hr'.skip fun hh => by rw [hcn'] at hh; cases hh) hL hs h h'
    | false =>
      simp only [he, Bool.false_eq_true, if_false] at h h'
      cases hemp : (fr.epOf k).isEmpty with
      | true =>
        simp only [hemp, if_true] at h h'
        have hup : isUp fr k = true := by simp only [isUp, he, hemp]; rfl
        exact run_sub hF hc hlen hG len (k + 1) _ _ B B' (by omega) (hr.skip fun _ => hr.up k hklt hup) (hr'.skip fun _ => hr'.up k hklt hup) hL hs h h'
      | false =>
        simp only [hemp, Bool.false_eq_true, if_false] at h h'
        have hnup : isUp fr k = false := by simp only [isUp, he, hemp]; rfl
        have cnd : ∀ {G : List (Nat × SV)}, cond fr G k = (fr.epOf k).all fun e => (lk G e).isSome := fun {G} => by unfold cond; rw [if_neg (by rw [he]; simp)]
        by_cases hall : (fr.epOf k).all (fun e => (lk G e).isSome) = true
        · have hall' : (fr.epOf k).all (fun e => (lk G' e).isSome) = true := by
            rw [List.all_eq_true] at hall ⊢
            intro e hm
            obtain ⟨v, hv⟩ := Option.isSome_iff_exists.1 (hall e hm)
            rw [hG e v hv]; rfl
          have hcn : cond fr G k = true := cnd.trans hall
          have hcn' : cond fr G' k = true := cnd.trans hall'
          rw [if_pos hall] at h
          rw [if_pos hall'] at h'
          have henv : envS fr.R A k = envS fr.R A' k := env_eq (fun p hp => by
            have hpl : p < k := hc.pre (by rw [← hlen]; exact hklt) hp
            obtain ⟨u, hu⟩ := Option.isSome_iff_exists.1 (hr.pres p hpl (cond_pre hF hklt he hcn hp))
            rw [hu, hs p u hu]) hL
          split at h
          · rename_i d x ha
            rw [ha] at h'
            simp only at h'
            split at h
            · rename_i hl
              rw [if_pos hl] at h'
              split at h
              · rename_i v hv
                have hv' : pu ⟨envS fr.R A' k, [], A'.nx⟩ x = some v := by rw [← henv, ← hv]; exact pu_nx
                simp only [hv'] at h'
                exact run_sub hF hc hlen hG len (k + 1) _ _ B B' (by omega) (hr.add hcn v) (hr'.add hcn' v) hL both h h'
              · cases h
            · cases h
          · cases h
        · rw [if_neg hall] at h
          have hcn : cond fr G k = false := by rw [cnd]; simpa using hall
          have hsk : RI fr (k + 1) A G := hr.skip fun hh => by rw [hcn] at hh; cases hh
          by_cases hall' : (fr.epOf k).all (fun e => (lk G' e).isSome) = true
          · rw [if_pos hall'] at h'
            have hcn' : cond fr G' k = true := cnd.trans hall'
            split at h'
            · split at h'
              · split at h'
                · exact run_sub hF hc hlen hG len (k + 1) _ _ B B' (by omega) hsk (hr'.add hcn' _) hL (one hnup) h h'
                · cases h'
              · cases h'
            · cases h'
          · rw [if_neg hall'] at h'
            have hcn' : cond fr G' k = false := by rw [cnd]; simpa using hall'
            exact run_sub hF hc hlen hG len (k + 1) _ _ B B' (by omega) hsk (hr'.skip fun hh => by rw [hcn'] at hh; cases hh) hL hs h h'
omit [DS] in
theorem ncs_el : ∀ {l : List Nat} {s : St} {K : St → Prop}, ncs l s K → Inv f g s w → ∃ s', K s' ∧ Inv f g s' w ∧ dE s'.E = dE s.E
  | [], s, K, h, I => ⟨s, h, I, rfl⟩
  | t :: r, s, K, h, I => by
    simp only [ncs] at h
    split at h
    · rename_i id e hl
      obtain ⟨a, ha, h1⟩ := h
      have W := Went.sb I (I.E _ (lk_mem hl)) ha
      obtain ⟨s', h2, h3, h4⟩ := ncs_el h1 W.inv
      exact ⟨s', h2, h3, h4.trans (W.dE I)⟩
    · exact ncs_el h I
omit [DS] in
theorem lsF_el {Rel : RelT fr.os} {K : Prop} : ∀ {l : List (Nat × (World → Prop))}, lsF fr Rel l K → K ∧ ∀ z ∈ l, allO fr.os (fr.R.eff.map fun e => !isIn (fr.esOf z.1) e) (noA fr.os) fun y => ∀ w : World, appR fr.os Rel y w → z.2 w
  | [], h => ⟨h, by simp⟩
  | (i, c) :: r, h => by
    obtain ⟨h1, h2⟩ := h
    obtain ⟨h3, h4⟩ := lsF_el h2
    refine ⟨h3, fun z hz => ?_⟩
    rcases List.mem_cons.1 hz with rfl | hz
    · exact h1
    · exact h4 z hz
def TsJ (P : Program) (Q : Ending → World → Prop) (f : Fr) (A : Am) (Rel : RelT f.os) (e : Nat) : Prop :=
  allD f.os (f.R.eff.map fun x => isIn (f.epOf e) x) fun z0 => allO f.os (f.R.eff.map fun x => !isIn (f.epOf e) x && !isIn (f.esOf e) x && !Nat.beq x e) z0 fun z => ∀ w : World, appR f.os Rel z w →
      match ofV f A z0, f.ops[e]? with
      | some A', some ⟨_, none, .op x⟩ => ef P Q ⟨envS f.R A' e, [], A.nx + nmsL f.os⟩ w x fun v _ w => match setV f.os f.R.eff e v z with | some z' => appR f.os Rel z' w | none => False
      | _, _ => False
omit [DS] in
theorem tsF_el {Q : Ending → World → Prop} {Rel : RelT fr.os} {K : Prop} : ∀ {l : List Nat}, tsF P Q fr A Rel l K → K ∧ ∀ e ∈ l, TsJ P Q fr A Rel e
  | [], h => ⟨h, by simp⟩
  | e :: r, h => by
    obtain ⟨h1, h2⟩ := h
    obtain ⟨h3, h4⟩ := tsF_el h2
    refine ⟨h3, fun z hz => ?_⟩
    rcases List.mem_cons.1 hz with rfl | hz
    · exact h1
    · exact h4 z hz
omit [DS] in
theorem svs_no : ∀ {os : List OK} {es : List Nat} {n : Nat}, svsA os es n (noA os) = []
  | [], _, _ => rfl
  | _ :: _, [], _ => rfl
  | o :: r, _ :: es, n => by simp only [noA, svsA]; exact svs_no
omit [DS] in
theorem fin_kc (hc : Wk fr.R ops) (hL : dE A.L0 = dE s.E) : KC (dsts ops.toList) s ⟨finS fr.R A, [], n⟩ := fun t ht v hv => by
  have hnd : ∀ q, fr.R.dstOf q ≠ some t := fun q hq => by
    have hlt := dst_lt hc.len hq
    have ho : ops[q]? = some ops[q] := Array.getElem?_eq_getElem hlt
    have := hc.dst ho
    exact ht (dsts_mem.2 ⟨_, by simp, this.trans hq⟩)
  have h6 : Env.get (dE (finS fr.R A)) t = some v.d := by
    rw [finS_d, envFin_eq, get_app', get_fm' hc]
    have : List.find? (fun p => decide (fr.R.dstOf p = some t)) (List.range fr.R.dst.length) = none := by
      rw [List.find?_eq_none]; intro q _; simpa using hnd q
    rw [this]
    simp only [valO]
    rw [get_fil (p := fun t => (List.range fr.R.dst.length).all fun q => decide (fr.R.dstOf q ≠ some t)), if_pos, hL, lk_dE, hv]
    · rfl
    · rw [List.all_eq_true]; intro q _; simpa using hnd q
  rw [lk_dE] at h6
  obtain ⟨u, h7, h8⟩ := map_some' h6
  exact ⟨u, h7, h8⟩
omit [DS] in
theorem fin_inv (hA : AOk f g A) : Inv f g ⟨finS fr.R A, [], A.nx⟩ w := by
  refine ⟨fun z hz => ?_, fun z hz => by simp at hz⟩
  unfold finS at hz
  rcases List.mem_append.1 hz with hz | hz
  · unfold prS at hz
    obtain ⟨p, _, h3⟩ := List.mem_filterMap.1 hz
    split at h3
    · rename_i d u h4 h5
      cases some_inj h3
      exact hA.V (p, u) (lk_mem h5)
    · cases h3
  · exact hA.L z (List.mem_filter.1 hz).1
end
end Go.Vc.Ex

namespace Go.Vc.Ex
open Go Go.Vc
section
variable [DS] {P : Program} {ops : Array Oper} {n m : Nat} {its : List (Nat × TypeId)} {i j : Nat} {A A' : Am} {w : World} {f : Nat → Option Addr} {g : Nat → Nat} {L0 : List (Nat × Value)} {fr : Fr} {G G' : List (Nat × SV)} {s : St}
  {Q : Ending → World → Prop} {QX : Exit → Act → World → Prop} {K : St → World → Prop} {Rel : RelT fr.os} {ls : List (Nat × (World → Prop))}
structure Fx (P : Program) (ops : Array Oper) (fr : Fr) (its : List (Nat × TypeId)) (m : Nat) (L0 : List (Nat × Value)) (f : Nat → Option Addr) (g : Nat → Nat) (A : Am) (ls : List (Nat × (World → Prop))) : Prop where
  F : FrOk fr ops
  wk : Wk fr.R ops
  of : optMap (cA P its m ops) ops.toList = some fr.ops
  ok : AOk f g A
  L : dE A.L0 = L0
  up : ∀ p, (lk A.V p).isSome = true → isUp fr p = true
  upj : ∀ p, p < fr.ops.length → isUp fr p = true → (lk A.V p).isSome = true ∧ UpJ P ops fr.R m L0 A ls p
  df : ∃ B, ofV fr A (dfA fr.os) = some B
theorem Fx.len (X : Fx P ops fr its m L0 f g A ls) : fr.ops.length = ops.size := by have := (optMap_some X.of).1; simpa using this.symm
theorem Fx.ri (X : Fx P ops fr its m L0 f g A ls) : RI fr 0 A G := ⟨fun p hp => by omega, fun p hp => .inr (X.up p hp), fun p h1 h2 => (X.upj p h1 h2).1⟩
theorem Fx.hep (X : Fx P ops fr its m L0 f g A ls) : ∀ i, i < fr.ops.length → ∀ e ∈ fr.epOf i, e ∈ fr.R.eff := fun i hi e he => by
  have h := Rh.chk_one X.F.chk (Array.getElem?_eq_getElem (by rw [← X.len]; exact hi))
  unfold Rh.one at h
  simp only [Bool.and_eq_true] at h
  have h1 := List.all_eq_true.1 h.1.2 e he
  simp only [Bool.and_eq_true] at h1
  exact List.contains_iff_mem.1 h1.1
abbrev svz (fr : Fr) (A : Am) (z : Asg fr.os) : List (Nat × SV) := svsA fr.os fr.R.eff A.nx z
theorem Fx.run (X : Fx P ops fr its m L0 f g A ls) (z : Asg fr.os) : ∃ f' B, ofV fr A z = some B ∧ Ran P ops fr m L0 f' g (A.nx + nmsL fr.os) 0 A B (svz fr A z) := by
  obtain ⟨f', h1, h2⟩ := svs_ok (os := fr.os) (es := fr.R.eff) (n := A.nx) (z := z) f
  obtain ⟨B0, hB0⟩ := X.df
  unfold ofV at hB0
  rw [List.range_eq_range'] at hB0
  have hok : AOk f' g { A with nx := A.nx + nmsL fr.os } := ⟨fun z hz => (X.ok.V z hz).mono h1 (fun _ _ => rfl) (Nat.le_add_right _ _), fun z hz => (X.ok.L z hz).mono h1 (fun _ _ => rfl) (Nat.le_add_right _ _), X.ok.u⟩
  obtain ⟨B, hB, rn⟩ := run_main X.F X.wk X.of (h2 g) (fun e v hv => svs_shp X.F.len X.F.nod hv) (fun e he => svs_full X.F.len he) X.hep fr.ops.length 0 A A B0 (by omega) X.ri X.ri rfl (fun p v hp => ⟨v, hp, rfl⟩) hok X.L hB0
  exact ⟨f', B, by unfold ofV; rw [List.range_eq_range']; exact hB, rn⟩
theorem Fx.sub (X : Fx P ops fr its m L0 f g A ls) {z z' : Asg fr.os} {B B' : Am} (hG : ∀ p v, lk (svz fr A z) p = some v → lk (svz fr A z') p = some v) (h : ofV fr A z = some B) (h' : ofV fr A z' = some B') : ∀ p v, lk B.V p = some v → lk B'.V p = some v := by
  unfold ofV at h h'
  rw [List.range_eq_range'] at h h'
  exact run_sub X.F X.wk X.len hG fr.ops.length 0 A A B B' (by omega) X.ri X.ri rfl (fun _ _ h => h) h h'
def Clo (fr : Fr) (z : Asg fr.os) : Prop := ∀ e ∈ fr.R.eff, dz fr.os fr.R.eff z e = true → ∀ x ∈ fr.epOf e, dz fr.os fr.R.eff z x = true
abbrev done (fr : Fr) (z : Asg fr.os) : List Nat := fr.R.eff.filter (dz fr.os fr.R.eff z)
omit [DS] in
theorem done_mem {z : Asg fr.os} {e : Nat} : (done fr z).contains e = true ↔ e ∈ fr.R.eff ∧ dz fr.os fr.R.eff z e = true := by
  rw [List.contains_iff_mem]; exact List.mem_filter
omit [DS] in
theorem dz_lk {z : Asg fr.os} {e : Nat} : (lk (svz fr A z) e).isSome = dz fr.os fr.R.eff z e := svs_some
theorem Fx.facts (X : Fx P ops fr its m L0 f g A ls) {z : Asg fr.os} (hls : ∀ y ∈ ls, allO fr.os (fr.R.eff.map fun e => !isIn (fr.esOf y.1) e) (noA fr.os) fun z => ∀ w : World, appR fr.os Rel z w → y.2 w) (hw : appR fr.os Rel z w) {f' : Nat → Option Addr} {B : Am}
    (rn : Ran P ops fr m L0 f' g (A.nx + nmsL fr.os) 0 A B (svz fr A z)) : AllL (Ans P ops m L0 fr.R (dE B.V) w) (Rh.avail ⟨fr.R, fr.ep, fr.es⟩ (done fr z)) := by
  refine allL_of fun i hi => ?_
  unfold Rh.avail at hi
  rw [List.mem_filter, List.mem_range] at hi
  obtain ⟨h1, h2⟩ := hi
  simp only [Bool.and_eq_true, Bool.not_eq_true'] at h2
  obtain ⟨⟨h2, h3⟩, h4⟩ := h2
  have hil : i < fr.ops.length := by rw [X.len, ← X.wk.len]; exact h1
  cases hu : isUp fr i with
  | true =>
    rcases (X.upj i hil hu).2 with hj | ⟨c, hc1, hc2⟩
    · exact ((hj w).grow X.wk rn.grow).ans
    · have := allO_el (q := fun e => !isIn (fr.esOf i) e) (hls _ hc1) z (agr_no X.F.len X.F.nod fun x hx hq => ?_)
      · exact ((hc2 w (this w hw)).grow X.wk rn.grow).ans
      · have hin : x ∈ fr.esOf i := isIn_mem.1 (by simpa using hq)
        have h5 := List.all_eq_true.1 h4 x hin
        cases hd : dz fr.os fr.R.eff z x with
        | false => rfl
        | true =>
          rw [done_mem.2 ⟨hx, hd⟩] at h5
          cases h5
  | false =>
    refine (rn.now i (Nat.zero_le _) hil hu h2 ?_ w).ans
    unfold cond
    rw [if_neg (by rw [h2]; simp), List.all_eq_true]
    intro e he
    have := List.all_eq_true.1 h3 e he
    rw [dz_lk]
    exact (done_mem.1 this).2
theorem Fx.eff (X : Fx P ops fr its m L0 f g A ls) (hls : ∀ y ∈ ls, allO fr.os (fr.R.eff.map fun e => !isIn (fr.esOf y.1) e) (noA fr.os) fun z => ∀ w : World, appR fr.os Rel z w → y.2 w) (hts : ∀ e ∈ fr.R.eff, TsJ P Q fr A Rel e)
    (hfin : allD fr.os (fr.os.map fun _ => true) fun z => ∀ w : World, appR fr.os Rel z w → match ofV fr A z with | some A' => K ⟨finS fr.R A', [], A.nx + nmsL fr.os⟩ w | none => False) (hLs : L0 = dE s.E)
    (hn : ∀ s' w' f' g' a', K s' w' → Inv f' g' s' w' → KC (dsts ops.toList) s s' → Has m DS.ds a' (dE s'.E) → QX .normal a' w')
    (hp : ∀ c w' a' L', Q (.panicked c) w' → Has m DS.ds a' L' → QX (.panic c) a' w') : ∀ (k : Nat) (z : Asg fr.os) (w : World) (B : Am), (fr.R.eff.filter fun e => !dz fr.os fr.R.eff z e).length ≤ k → Clo fr z → appR fr.os Rel z w → ofV fr A z = some B → 
      StT P ops QX m L0 ⟨fr.R, fr.ep, fr.es⟩ k (done fr z) (dE B.V) w := by
  have hfin' : ∀ {z : Asg fr.os} {w : World} {B : Am} {f' : Nat → Option Addr}, appR fr.os Rel z w → ofV fr A z = some B → Ran P ops fr m L0 f' g (A.nx + nmsL fr.os) 0 A B (svz fr A z) → fr.R.eff.all (fun e => (done fr z).contains e) = true → ∀ a, Has m DS.ds a (fr.R.envFin (dE B.V) L0) → QX .normal a w := fun {z w B f'} hw hB rn hall a H => by
    have hz : ∀ x ∈ fr.R.eff, dz fr.os fr.R.eff z x = true := fun x hx => (done_mem.1 (List.all_eq_true.1 hall x hx)).2
    have hm : (fr.os.map fun _ => true) = fr.R.eff.map fun _ => true := by rw [List.map_const', List.map_const', X.F.len]
    rw [hm] at hfin
    have h1 := allD_el (q := fun _ => true) hfin z (mat_all X.F.len X.F.nod hz) w hw
    simp only [hB] at h1
    have hLB : dE B.L0 = L0 := by rw [rn.L, X.L]
    refine hn _ w f' g a h1 (fin_inv (A := { B with nx := A.nx + nmsL fr.os }) rn.ok) (fin_kc X.wk (by rw [hLB, hLs])) ?_
    rw [finS_d, hLB]; exact H
  intro k
  induction k with
  | zero =>
    intro z w B hk hclo hw hB
    obtain ⟨f', B', hB', rn⟩ := X.run z
    rw [hB] at hB'
    cases some_inj hB'
    refine ⟨X.facts hls hw rn, ?_, hfin' hw hB rn⟩
    unfold Rh.rdy
    rw [List.filter_eq_nil_iff]
    intro e he
    have h0 : (fr.R.eff.filter fun e => !dz fr.os fr.R.eff z e) = [] := List.length_eq_zero_iff.1 (Nat.le_zero.1 hk)
    have h1 := List.filter_eq_nil_iff.1 h0 e he
    have h2 : dz fr.os fr.R.eff z e = true := by simpa using h1
    rw [done_mem.2 ⟨he, h2⟩]
    simp
  | succ k ih =>
    intro z w B hk hclo hw hB
    obtain ⟨f', B', hB', rn⟩ := X.run z
    rw [hB] at hB'
    cases some_inj hB'
    refine ⟨X.facts hls hw rn, hfin' hw hB rn, allL_of fun e he => ?_⟩
    unfold Rh.rdy at he
    rw [List.mem_filter] at he
    obtain ⟨hee, he⟩ := he
    simp only [Bool.and_eq_true, Bool.not_eq_true'] at he
    obtain ⟨hnd, hepd⟩ := he
    have hne : dz fr.os fr.R.eff z e = false := by
      cases hd : dz fr.os fr.R.eff z e with
      | false => rfl
      | true => rw [done_mem.2 ⟨hee, hd⟩] at hnd; cases hnd
    have hep : ∀ x ∈ fr.epOf e, dz fr.os fr.R.eff z x = true := fun x hx => (done_mem.1 (List.all_eq_true.1 hepd x hx)).2
    -- what it may lean on
    have hj := hts e hee
    unfold TsJ at hj
    have h1 := allD_el (q := fun x => isIn (fr.epOf e) x) hj (resA fr.os fr.R.eff (fun x => isIn (fr.epOf e) x) z) (mat_res X.F.nod fun x _ hq => hep x (isIn_mem.1 hq))
    have h2 := allO_el (q := fun x => !isIn (fr.epOf e) x && !isIn (fr.esOf e) x && !Nat.beq x e) h1 z (agr_res X.F.len X.F.nod fun x hx hq => ?_) w hw
    rotate_left
    · cases h3 : isIn (fr.epOf e) x with
      | true => exact .inl rfl
      | false =>
        right
        rw [h3] at hq
        cases h4 : isIn (fr.esOf e) x with
        | true =>
          have h5 := X.F.es hee (isIn_mem.1 h4) hx
          cases hd : dz fr.os fr.R.eff z x with
          | false => rfl
          | true =>
            have := hclo x hx hd e h5
            rw [hne] at this; cases this
        | false =>
          rw [h4] at hq
          have h5 : Nat.beq x e = true := by simpa using hq
          rw [Nat.eq_of_beq_eq_true h5]; exact hne
    obtain ⟨f0, B0, hB0, rn0⟩ := X.run (resA fr.os fr.R.eff (fun x => isIn (fr.epOf e) x) z)
    split at h2
    · rename_i B1 d x hB1 ha
      rw [hB0] at hB1
      cases some_inj hB1
      obtain ⟨o, ho, hcA⟩ := at_ops X.of ha
      have hca := cA_ok hcA
      have hel : e < fr.ops.length := (List.getElem?_eq_some_iff.1 ha).1
      have hd0 := dst_chk X.wk ho
      have hLB : dE B.L0 = L0 := by rw [rn.L, X.L]
      have hsub := X.sub (fun p v hp => (res_lk hp).1) hB0 hB
      have henv : envS fr.R B0 e = envS fr.R B e := env_eq (fun p hp => by
        have hpl : p < fr.ops.length := by have := X.wk.pre (by rw [← X.len]; exact hel) hp; omega
        have hpres := rn0.ri.pres p hpl (by
          have key : ∀ x, x ∈ fr.epOf e → (lk (svz fr A (resA fr.os fr.R.eff (fun x => isIn (fr.epOf e) x) z)) x).isSome = true := fun x hx => by
            have h5 := hep x hx
            rw [← dz_lk (A := A)] at h5
            obtain ⟨v, hv⟩ := Option.isSome_iff_exists.1 h5
            rw [res_dz X.F.nod hv (isIn_mem.2 hx)]; rfl
          unfold cond
          split
          · rename_i hpe; exact key p (X.F.eff hel hp (List.contains_iff_mem.1 hpe))
          · rw [List.all_eq_true]
            exact fun y hy => key y (X.F.sub hel hp hy))
        obtain ⟨u, hu⟩ := Option.isSome_iff_exists.1 hpres
        rw [hu, hsub p u hu]) (by rw [rn.L, rn0.L])
      rw [henv] at h2
      have hdE : dE (envS fr.R B e) = fr.R.envOf (dE B.V) L0 e := by rw [envS_d, hLB]
      refine ⟨o, ho, fun a H => ?_⟩
      have hcO := hca.o
      obtain ⟨hcO, hd1, hd2⟩ := cD_ok hcO
      have hgd : o.guard = none := by
        rcases hca.g with ⟨h1, _⟩ | ⟨j, want, t, _, _, h3⟩
        · exact h1
        · cases h3
      obtain ⟨dst, op, ty, pos, af, gd⟩ := o
      simp only at hd0 hgd
      subst hgd
      refine ef_ok (s := ⟨envS fr.R B e, [], A.nx + nmsL fr.os⟩) hcO hd1 hd2 h2 (rn.ok.inv (w := w) e) (by rw [hdE]; exact H) rfl (fun v s' w' f'' g'' a' hk' T H' => ?_) fun c w' a' hq H' => hp c w' a' _ hq H'
      split at hk'
      · rename_i z' hz'
        obtain ⟨⟨u, hu, hud⟩, hrest⟩ := setV_el (n := A.nx) T.v X.F.nod hz'
        have hdz : ∀ x, dz fr.os fr.R.eff z' x = (decide (x = e) || dz fr.os fr.R.eff z x) := fun x => by
          rw [← dz_lk (A := A), ← dz_lk (A := A)]
          by_cases hx : x = e
          · subst hx
            show (lk (svsA fr.os fr.R.eff A.nx z') x).isSome = _
            rw [hu]; simp
          · show (lk (svsA fr.os fr.R.eff A.nx z') x).isSome = _
            rw [hrest x hx]; simp [hx]
        have hD : Rh.ins ⟨fr.R, fr.ep, fr.es⟩ e (done fr z) = done fr z' := by
          unfold Rh.ins done
          refine List.filter_congr fun x hx => ?_
          rw [hdz]
          by_cases hx2 : x = e
          · simp [hx2]
          · simp only [hx2, decide_false, Bool.false_or]
            cases hd : dz fr.os fr.R.eff z x with
            | true => exact done_mem.2 ⟨hx, hd⟩
            | false =>
              cases hc : (done fr z).contains x with
              | false => rfl
              | true => rw [(done_mem.1 hc).2] at hd; cases hd
        obtain ⟨f2, B2, hB2, rn2⟩ := X.run z'
        have hst := ih z' w' B2 ?_ (fun y hy hd x hx => ?_) hk' hB2
        · rw [hD]
          refine effQ.ok (v := v.d) (H'.of fun t y hy => ?_) ⟨dE B2.V, ?_, hst⟩
          · rw [← hd0] at hy
            cases dst with
            | none => cases hy
            | some d =>
              simp only [slotD, Env.get] at hy
              simp only [slotS, List.cons_append, Env.get]
              cases hb : Nat.beq d t with
              | true => rw [hb] at hy; exact hy
              | false => rw [hb] at hy; cases hy
          · have hsub2 := X.sub (z := z) (z' := z') (fun p v hp => by
              have hpe : p ≠ e := fun hpe => by
                subst hpe
                have h5 := hne
                rw [← dz_lk (A := A), hp] at h5
                cases h5
              show lk (svsA fr.os fr.R.eff A.nx z') p = some v
              rw [hrest p hpe]; exact hp) hB hB2
            refine ⟨?_, sub_mem fun y hy => ?_⟩
            · have h5 := rn2.eff e (Nat.zero_le _) hel (List.contains_iff_mem.2 hee) u hu
              rw [lk_dE, h5, Option.map_some, hud]
            · obtain ⟨y0, hy0, rfl⟩ := List.mem_map.1 hy
              rw [lk_dE, hsub2 _ _ (rn.ok.u y0 hy0)]; rfl
        · -- one less
          have h5 : (fr.R.eff.filter fun x => !dz fr.os fr.R.eff z' x).length < (fr.R.eff.filter fun x => !dz fr.os fr.R.eff z x).length := by
            have h6 : (fr.R.eff.filter fun x => !dz fr.os fr.R.eff z' x) = (fr.R.eff.filter fun x => !dz fr.os fr.R.eff z x).filter fun x => !decide (x = e) := by
              rw [List.filter_filter]
              refine List.filter_congr fun x _ => ?_
              rw [hdz]; cases decide (x = e) <;> simp
            rw [h6]
            refine List.length_filter_lt_length_iff_exists.2 ⟨e, List.mem_filter.2 ⟨hee, by rw [hne]; rfl⟩, by simp⟩
          omega
        · rw [hdz] at hd ⊢
          simp only [Bool.or_eq_true, decide_eq_true_eq] at hd ⊢
          rcases hd with rfl | hd
          · exact .inr (hep x hx)
          · exact .inr (hclo y hy hd x hx)
      · exact hk'.elim
    · exact h2.elim
end
section
variable [DS] {X : Cx} {ops : Array Oper} {s : St} {a : Act} {w : World} {f : Nat → Option Addr} {g : Nat → Nat} {QX : Exit → Act → World → Prop} {Q : Ending → World → Prop} {K : Cn}
theorem free_ok {fr : Fr} {id : Nat} (hb : frB fr ops = true) (hmix : X.P.follows .mixedOrders = true) (hof : optMap (cA X.P X.its X.n ops) ops.toList = some fr.ops) (h : frD X.P Q fr s w K.n) (I : Inv f g s w) (H : Has X.n DS.ds a (dE s.E))
    (hn : ∀ s' w' f' g' a', K.n s' w' → Inv f' g' s' w' → KC (dsts ops.toList) s s' → Has X.n DS.ds a' (dE s'.E) → QX .normal a' w')
    (hp : ∀ c w' a' L', Q (.panicked c) w' → Has X.n DS.ds a' L' → QX (.panic c) a' w') : (Code.region id ops true).wp X.P QX a w := by
  have hF := frB_ok hb
  have hwk : Wk fr.R ops := .ofh hF.chk
  have hlen : fr.ops.length = ops.size := by have := (optMap_some hof).1; simpa using this.symm
  unfold frD at h
  obtain ⟨s1, h1, I1, hE⟩ := ncs_el h I
  obtain ⟨f1, A, ls, h2, e1, hL, _, _, h5, h6⟩ := upF_el (L0 := dE s.E) hwk hof (A := ⟨[], s1.E, s1.nx⟩) (f := f) (g := g) ⟨by simp, I1.E, by simp⟩ hE (fun i _ => rfl) List.nodup_range h1
  split at h2
  · exact h2.elim
  · rename_i B0 hB0
    obtain ⟨Rel, hR, h7⟩ := h2
    obtain ⟨h8, h9⟩ := lsF_el h7
    obtain ⟨h10, h11⟩ := tsF_el h8
    have F : Fx X.P ops fr X.its X.n (dE s.E) f1 g A ls := ⟨hF, hwk, hof, e1.ok, by rw [hL]; exact hE, fun p hp => by
      rcases h5 p hp with h | h
      · cases h
      · exact h.2, fun p h12 h13 => h6 p (List.mem_range.2 h12) h13, ⟨B0, hB0⟩⟩
    obtain ⟨f2, B, hB, rn⟩ := F.run (noA fr.os)
    have hno : ∀ e, dz fr.os fr.R.eff (noA fr.os) e = false := fun e => by unfold dz; rw [svs_no]; rfl
    have hst := F.eff (s := s) (QX := QX) (Q := Q) (K := K.n) h9 h11 h10 rfl hn hp fr.R.eff.length (noA fr.os) (w.drewN 1) B (List.length_filter_le _ _) (fun e _ hd => by rw [hno] at hd; cases hd) hR hB
    have hD : done fr (noA fr.os) = [] := by
      unfold done
      rw [List.filter_eq_nil_iff]
      intro e _
      rw [hno]; simp
    rw [hD] at hst
    rw [arr_lit ops]
    exact c_anyT0 fr.R.eff.length ⟨fr.R, fr.ep, fr.es⟩ (dE s.E) hmix (by simpa using hF.chk) H (by simpa using hst)
theorem reg_ok {X : Cx} {Q : Ending → World → Prop} : RegOk X Q := fun {ops draw t id s a w f g QX K} hc h I H hn hp =>
  R_ok (fun fr ht hb hmix hof => by
    subst ht
    exact free_ok hb hmix hof h I H hn hp) hc h I H hn hp
end
end Go.Vc.Ex

namespace Go.Vc.Ex
open Go Go.Vc
theorem exo {P : Program} {f : FuncId} {vs : List SV} {nx : Nat} {w : World} {Q : Ending → World → Prop} {C : Prop} {args : Array Value} (he : C = fnD P f vs nx w Q) (ha : (vs.map SV.d).toArray = args) (h : C) : Calls P f args w Q := by
  subst ha
  exact fn_ok (fun X hX => reg_ok) (he ▸ h)
end Go.Vc.Ex

namespace Go.Proofs.YtabifopphhpciaaGreatDoor
open Go Go.Vc
open Go.Vc.Ex
set_option maxRecDepth 100000
set_option maxHeartbeats 4000000
theorem sim_sherdlaw18_ClientWrites (N1 K2 : Int) (V3 I4 P5 : Slc) (w : World) (Q : Ending → World → Prop) (h : vc_sherdlaw18_ClientWrites N1 K2 V3 I4 P5 w Q) : Calls PP F_sherdlaw18_ClientWrites #[(.agg #[(.int .i64 N1), (.int .i64 K2), (Slc.v V3), (Slc.v I4), (Slc.v P5)])] w Q := exo (vs := [.g [.i .i64 false N1, .i .i64 false K2, .c V3, .c I4, .c P5]]) (nx := 0) (by kernel_rfl) rfl h

theorem sim_sherdlaw18_town (n1 k2 : Int) (w : World) (Q : Ending → World → Prop) (h : vc_sherdlaw18_town n1 k2 w Q) : Calls PP F_sherdlaw18_town #[(.int .i64 n1), (.int .i64 k2)] w Q := exo (vs := [.l (.i .i64 false n1), .l (.i .i64 false k2)]) (nx := 0) (by kernel_rfl) rfl h

theorem sim_client_New (N1 K2 D3 i4 : Int) (w : World) (Q : Ending → World → Prop) (h : vc_client_New N1 K2 D3 i4 w Q) : Calls PP F_client_New #[(.agg #[(.int .i64 N1), (.int .i64 K2), (.int .i64 D3)]), (.int .i64 i4)] w Q := exo (vs := [.g [.i .i64 false N1, .i .i64 false K2, .i .i64 false D3], .l (.i .i64 false i4)]) (nx := 0) (by kernel_rfl) rfl h

theorem sim_sherdlaw18_Tale_id (N1 K2 : Int) (V3 I4 P5 : Slc) (i6 : Int) (w : World) (Q : Ending → World → Prop) (h : vc_sherdlaw18_Tale_id N1 K2 V3 I4 P5 i6 w Q) : Calls PP F_sherdlaw18_Tale_id #[(.agg #[(.int .i64 N1), (.int .i64 K2), (Slc.v V3), (Slc.v I4), (Slc.v P5)]), (.int .i64 i6)] w Q := exo (vs := [.g [.i .i64 false N1, .i .i64 false K2, .c V3, .c I4, .c P5], .l (.i .i64 false i6)]) (nx := 0) (by kernel_rfl) rfl h

theorem sim_quorum_Size (N1 K2 D3 : Int) (w : World) (Q : Ending → World → Prop) (h : vc_quorum_Size N1 K2 D3 w Q) : Calls PP F_quorum_Size #[(.agg #[(.int .i64 N1), (.int .i64 K2), (.int .i64 D3)])] w Q := exo (vs := [.g [.i .i64 false N1, .i .i64 false K2, .i .i64 false D3]]) (nx := 0) (by kernel_rfl) rfl h

theorem sim_code_New (n1 k2 : Int) (w : World) (Q : Ending → World → Prop) (h : vc_code_New n1 k2 w Q) : Calls PP F_code_New #[(.int .i64 n1), (.int .i64 k2)] w Q := exo (vs := [.l (.i .i64 false n1), .l (.i .i64 false k2)]) (nx := 0) (by kernel_rfl) rfl h

theorem sim_sherdlaw18_awake (w : World) (Q : Ending → World → Prop) (h : vc_sherdlaw18_awake w Q) : Calls PP F_sherdlaw18_awake #[] w Q := exo (vs := []) (nx := 0) (by kernel_rfl) rfl h

theorem sim_client_Client_Put (c1 : Option Addr) (k2 : ByteArray) (v3 : Slc) (w : World) (Q : Ending → World → Prop) (h : vc_client_Client_Put c1 k2 v3 w Q) : Calls PP F_client_Client_Put #[(.pointer c1), (.string k2), (Slc.v v3)] w Q := exo (vs := [.l (.p 0 c1), .l (.s k2), .l (.c v3)]) (nx := 1) (by kernel_rfl) rfl h

theorem sim_sherdlaw18_value (b1 : Slc) (w : World) (Q : Ending → World → Prop) (h : vc_sherdlaw18_value b1 w Q) : Calls PP F_sherdlaw18_value #[(Slc.v b1)] w Q := exo (vs := [.l (.c b1)]) (nx := 0) (by kernel_rfl) rfl h

theorem sim_tag_Valid (C1 C2 : Int) (w : World) (Q : Ending → World → Prop) (h : vc_tag_Valid C1 C2 w Q) : Calls PP F_tag_Valid #[(.agg #[(.int .i64 C1), (.int .i64 C2)])] w Q := exo (vs := [.g [.i .i64 false C1, .i .i64 false C2]]) (nx := 0) (by kernel_rfl) rfl h

theorem sim_client_Client_Tick (c1 : Option Addr) (w : World) (Q : Ending → World → Prop) (h : vc_client_Client_Tick c1 w Q) : Calls PP F_client_Client_Tick #[(.pointer c1)] w Q := exo (vs := [.l (.p 0 c1)]) (nx := 1) (by kernel_rfl) rfl h

theorem sim_client_Client_Handle (c1 : Option Addr) (K2 C3 S4 O5 : Int) (K6 : ByteArray) (C7 C8 C9 C10 : Int) (H11 : Bool) (D12 : Slc) (w : World) (Q : Ending → World → Prop) (h : vc_client_Client_Handle c1 K2 C3 S4 O5 K6 C7 C8 C9 C10 H11 D12 w Q) : Calls PP F_client_Client_Handle #[(.pointer c1), (.agg #[(.int .i64 K2), (.int .i64 C3), (.int .i64 S4), (.int .i64 O5), (.string K6), (.int .i64 C7), (.int .i64 C8), (.int .i64 C9), (.int .i64 C10), (.bool H11), (Slc.v D12)])] w Q := exo (vs := [.l (.p 0 c1), .g [.i .i64 false K2, .i .i64 false C3, .i .i64 false S4, .i .i64 false O5, .s K6, .i .i64 false C7, .i .i64 false C8, .i .i64 false C9, .i .i64 false C10, .b false H11, .c D12]]) (nx := 1) (by kernel_rfl) rfl h

theorem sim_tag_Compare (C1 C2 C3 C4 : Int) (w : World) (Q : Ending → World → Prop) (h : vc_tag_Compare C1 C2 C3 C4 w Q) : Calls PP F_tag_Compare #[(.agg #[(.int .i64 C1), (.int .i64 C2)]), (.agg #[(.int .i64 C3), (.int .i64 C4)])] w Q := exo (vs := [.g [.i .i64 false C1, .i .i64 false C2], .g [.i .i64 false C3, .i .i64 false C4]]) (nx := 0) (by kernel_rfl) rfl h

theorem sim_client_Client_Get (c1 : Option Addr) (k2 : ByteArray) (w : World) (Q : Ending → World → Prop) (h : vc_client_Client_Get c1 k2 w Q) : Calls PP F_client_Client_Get #[(.pointer c1), (.string k2)] w Q := exo (vs := [.l (.p 0 c1), .l (.s k2)]) (nx := 1) (by kernel_rfl) rfl h

theorem sim_sherdlaw18_Town_quiet (t1 c2 : Option Addr) (l3 p4 : Slc) (w : World) (Q : Ending → World → Prop) (h : vc_sherdlaw18_Town_quiet t1 c2 l3 p4 w Q) : Calls PP F_sherdlaw18_Town_quiet #[(.pointer t1), (.pointer c2), (Slc.v l3), (Slc.v p4)] w Q := exo (vs := [.l (.p 0 t1), .l (.p 1 c2), .l (.c l3), .l (.c p4)]) (nx := 2) (by kernel_rfl) rfl h

theorem sim_client_Client_Now (c1 : Option Addr) (w : World) (Q : Ending → World → Prop) (h : vc_client_Client_Now c1 w Q) : Calls PP F_client_Client_Now #[(.pointer c1)] w Q := exo (vs := [.l (.p 0 c1)]) (nx := 1) (by kernel_rfl) rfl h

theorem sim_sherdlaw18_Plain_answer (p1 : Option Addr) (K2 C3 S4 O5 : Int) (K6 : ByteArray) (C7 C8 C9 C10 : Int) (H11 : Bool) (D12 : Slc) (w : World) (Q : Ending → World → Prop) (h : vc_sherdlaw18_Plain_answer p1 K2 C3 S4 O5 K6 C7 C8 C9 C10 H11 D12 w Q) : Calls PP F_sherdlaw18_Plain_answer #[(.pointer p1), (.agg #[(.int .i64 K2), (.int .i64 C3), (.int .i64 S4), (.int .i64 O5), (.string K6), (.int .i64 C7), (.int .i64 C8), (.int .i64 C9), (.int .i64 C10), (.bool H11), (Slc.v D12)])] w Q := exo (vs := [.l (.p 0 p1), .g [.i .i64 false K2, .i .i64 false C3, .i .i64 false S4, .i .i64 false O5, .s K6, .i .i64 false C7, .i .i64 false C8, .i .i64 false C9, .i .i64 false C10, .b false H11, .c D12]]) (nx := 1) (by kernel_rfl) rfl h

theorem sim_sherdlaw18_mod (k1 n2 : Int) (w : World) (Q : Ending → World → Prop) (h : vc_sherdlaw18_mod k1 n2 w Q) : Calls PP F_sherdlaw18_mod #[(.int .i64 k1), (.int .i64 n2)] w Q := exo (vs := [.l (.i .i64 false k1), .l (.i .i64 false n2)]) (nx := 0) (by kernel_rfl) rfl h

theorem sim_quorum_Check (N1 K2 D3 : Int) (w : World) (Q : Ending → World → Prop) (h : vc_quorum_Check N1 K2 D3 w Q) : Calls PP F_quorum_Check #[(.agg #[(.int .i64 N1), (.int .i64 K2), (.int .i64 D3)])] w Q := exo (vs := [.g [.i .i64 false N1, .i .i64 false K2, .i .i64 false D3]]) (nx := 0) (by kernel_rfl) rfl h

theorem sim_gf_Std (w : World) (Q : Ending → World → Prop) (h : vc_gf_Std w Q) : Calls PP F_gf_Std #[] w Q := exo (vs := []) (nx := 0) (by kernel_rfl) rfl h

theorem sim_code_generator (f1 : Option Addr) (n2 k3 : Int) (w : World) (Q : Ending → World → Prop) (h : vc_code_generator f1 n2 k3 w Q) : Calls PP F_code_generator #[(.pointer f1), (.int .i64 n2), (.int .i64 k3)] w Q := exo (vs := [.l (.p 0 f1), .l (.i .i64 false n2), .l (.i .i64 false k3)]) (nx := 1) (by kernel_rfl) rfl h

theorem sim_client_Client_begin (c1 : Option Addr) (p2 : Bool) (k3 : ByteArray) (v4 : Slc) (w : World) (Q : Ending → World → Prop) (h : vc_client_Client_begin c1 p2 k3 v4 w Q) : Calls PP F_client_Client_begin #[(.pointer c1), (.bool p2), (.string k3), (Slc.v v4)] w Q := exo (vs := [.l (.p 0 c1), .l (.b false p2), .l (.s k3), .l (.c v4)]) (nx := 1) (by kernel_rfl) rfl h

theorem sim_tag_Zero (C1 C2 : Int) (w : World) (Q : Ending → World → Prop) (h : vc_tag_Zero C1 C2 w Q) : Calls PP F_tag_Zero #[(.agg #[(.int .i64 C1), (.int .i64 C2)])] w Q := exo (vs := [.g [.i .i64 false C1, .i .i64 false C2]]) (nx := 0) (by kernel_rfl) rfl h

theorem sim_tag_proper (C1 C2 : Int) (w : World) (Q : Ending → World → Prop) (h : vc_tag_proper C1 C2 w Q) : Calls PP F_tag_proper #[(.agg #[(.int .i64 C1), (.int .i64 C2)])] w Q := exo (vs := [.g [.i .i64 false C1, .i .i64 false C2]]) (nx := 0) (by kernel_rfl) rfl h

theorem sim_stripe_cut (v1 : Slc) (k2 : Int) (w : World) (Q : Ending → World → Prop) (h : vc_stripe_cut v1 k2 w Q) : Calls PP F_stripe_cut #[(Slc.v v1), (.int .i64 k2)] w Q := exo (vs := [.l (.c v1), .l (.i .i64 false k2)]) (nx := 0) (by kernel_rfl) rfl h

theorem sim_code_Code_K (c1 : Option Addr) (w : World) (Q : Ending → World → Prop) (h : vc_code_Code_K c1 w Q) : Calls PP F_code_Code_K #[(.pointer c1)] w Q := exo (vs := [.l (.p 0 c1)]) (nx := 1) (by kernel_rfl) rfl h

theorem sim_client_reply_Missing (p1 : Option Addr) (w : World) (Q : Ending → World → Prop) (h : vc_client_reply_Missing p1 w Q) : Calls PP F_client_reply_Missing #[(.pointer p1)] w Q := exo (vs := [.l (.p 0 p1)]) (nx := 1) (by kernel_rfl) rfl h

theorem sim_client_reply_Each (p1 : Option Addr) (y2 : Value) (w : World) (Q : Ending → World → Prop) (h : vc_client_reply_Each p1 y2 w Q) : Calls PP F_client_reply_Each #[(.pointer p1), y2] w Q := exo (vs := [.l (.p 0 p1), .l (.v y2)]) (nx := 1) (by kernel_rfl) rfl h
end Go.Proofs.YtabifopphhpciaaGreatDoor

namespace Go.Proofs.YtabifopphhpciaaGreatDoor
open Go Go.Vc
open Go.Vc.Ex
set_option maxRecDepth 100000
set_option maxHeartbeats 4000000
theorem sim_client_Client_requests (c1 : Option Addr) (s2 : Slc) (w : World) (Q : Ending → World → Prop) (h : vc_client_Client_requests c1 s2 w Q) : Calls PP F_client_Client_requests #[(.pointer c1), (Slc.v s2)] w Q := exo (vs := [.l (.p 0 c1), .l (.c s2)]) (nx := 1) (by kernel_rfl) rfl h

theorem sim_client_Client_counts (c1 : Option Addr) (K2 C3 S4 O5 : Int) (K6 : ByteArray) (C7 C8 C9 C10 : Int) (H11 : Bool) (D12 : Slc) (w : World) (Q : Ending → World → Prop) (h : vc_client_Client_counts c1 K2 C3 S4 O5 K6 C7 C8 C9 C10 H11 D12 w Q) : Calls PP F_client_Client_counts #[(.pointer c1), (.agg #[(.int .i64 K2), (.int .i64 C3), (.int .i64 S4), (.int .i64 O5), (.string K6), (.int .i64 C7), (.int .i64 C8), (.int .i64 C9), (.int .i64 C10), (.bool H11), (Slc.v D12)])] w Q := exo (vs := [.l (.p 0 c1), .g [.i .i64 false K2, .i .i64 false C3, .i .i64 false S4, .i .i64 false O5, .s K6, .i .i64 false C7, .i .i64 false C8, .i .i64 false C9, .i .i64 false C10, .b false H11, .c D12]]) (nx := 1) (by kernel_rfl) rfl h

theorem sim_client_reply_Get (p1 : Option Addr) (s2 : Int) (w : World) (Q : Ending → World → Prop) (h : vc_client_reply_Get p1 s2 w Q) : Calls PP F_client_reply_Get #[(.pointer p1), (.int .i64 s2)] w Q := exo (vs := [.l (.p 0 p1), .l (.i .i64 false s2)]) (nx := 1) (by kernel_rfl) rfl h

theorem sim_tag_Max (t1 : Slc) (w : World) (Q : Ending → World → Prop) (h : vc_tag_Max t1 w Q) : Calls PP F_tag_Max #[(Slc.v t1)] w Q := exo (vs := [.l (.c t1)]) (nx := 0) (by kernel_rfl) rfl h

theorem sim_bytes_Clone (b1 : Slc) (w : World) (Q : Ending → World → Prop) (h : vc_bytes_Clone b1 w Q) : Calls PP F_bytes_Clone #[(Slc.v b1)] w Q := exo (vs := [.l (.c b1)]) (nx := 0) (by kernel_rfl) rfl h

theorem sim_client_reply_Answer (p1 : Option Addr) (s2 C3 C4 : Int) (h5 : Bool) (d6 : Slc) (w : World) (Q : Ending → World → Prop) (h : vc_client_reply_Answer p1 s2 C3 C4 h5 d6 w Q) : Calls PP F_client_reply_Answer #[(.pointer p1), (.int .i64 s2), (.agg #[(.int .i64 C3), (.int .i64 C4), (.bool h5), (Slc.v d6)])] w Q := exo (vs := [.l (.p 0 p1), .l (.i .i64 false s2), .g [.i .i64 false C3, .i .i64 false C4, .b false h5, .c d6]]) (nx := 1) (by kernel_rfl) rfl h

theorem sim_client_reply_Met (p1 : Option Addr) (w : World) (Q : Ending → World → Prop) (h : vc_client_reply_Met p1 w Q) : Calls PP F_client_reply_Met #[(.pointer p1)] w Q := exo (vs := [.l (.p 0 p1)]) (nx := 1) (by kernel_rfl) rfl h

theorem sim_client_Client_met (c1 : Option Addr) (w : World) (Q : Ending → World → Prop) (h : vc_client_Client_met c1 w Q) : Calls PP F_client_Client_met #[(.pointer c1)] w Q := exo (vs := [.l (.p 0 c1)]) (nx := 1) (by kernel_rfl) rfl h

theorem sim_cmp_Compare_int64 (x1 y2 : Int) (w : World) (Q : Ending → World → Prop) (h : vc_cmp_Compare_int64 x1 y2 w Q) : Calls PP F_cmp_Compare_int64 #[(.int .i64 x1), (.int .i64 y2)] w Q := exo (vs := [.l (.i .i64 false x1), .l (.i .i64 false y2)]) (nx := 0) (by kernel_rfl) rfl h

theorem sim_cmp_Compare_int (x1 y2 : Int) (w : World) (Q : Ending → World → Prop) (h : vc_cmp_Compare_int x1 y2 w Q) : Calls PP F_cmp_Compare_int #[(.int .i64 x1), (.int .i64 y2)] w Q := exo (vs := [.l (.i .i64 false x1), .l (.i .i64 false y2)]) (nx := 0) (by kernel_rfl) rfl h

theorem sim_sherdlaw18_Plain_top (p1 : Option Addr) (w : World) (Q : Ending → World → Prop) (h : vc_sherdlaw18_Plain_top p1 w Q) : Calls PP F_sherdlaw18_Plain_top #[(.pointer p1)] w Q := exo (vs := [.l (.p 0 p1)]) (nx := 1) (by kernel_rfl) rfl h

theorem sim_sherdlaw18_Plain_find (p1 : Option Addr) (C2 C3 : Int) (w : World) (Q : Ending → World → Prop) (h : vc_sherdlaw18_Plain_find p1 C2 C3 w Q) : Calls PP F_sherdlaw18_Plain_find #[(.pointer p1), (.agg #[(.int .i64 C2), (.int .i64 C3)])] w Q := exo (vs := [.l (.p 0 p1), .g [.i .i64 false C2, .i .i64 false C3]]) (nx := 1) (by kernel_rfl) rfl h

theorem sim_phase_New (N1 K2 D3 : Int) (w : World) (Q : Ending → World → Prop) (h : vc_phase_New N1 K2 D3 w Q) : Calls PP F_phase_New #[(.agg #[(.int .i64 N1), (.int .i64 K2), (.int .i64 D3)])] w Q := exo (vs := [.g [.i .i64 false N1, .i .i64 false K2, .i .i64 false D3]]) (nx := 0) (by kernel_rfl) rfl h

theorem sim_gf_New (p1 : Int) (w : World) (Q : Ending → World → Prop) (h : vc_gf_New p1 w Q) : Calls PP F_gf_New #[(.int .i64 p1)] w Q := exo (vs := [.l (.i .i64 false p1)]) (nx := 0) (by kernel_rfl) rfl h

theorem sim_matrix_Vandermonde (f1 : Option Addr) (p2 : Slc) (c3 : Int) (w : World) (Q : Ending → World → Prop) (h : vc_matrix_Vandermonde f1 p2 c3 w Q) : Calls PP F_matrix_Vandermonde #[(.pointer f1), (Slc.v p2), (.int .i64 c3)] w Q := exo (vs := [.l (.p 0 f1), .l (.c p2), .l (.i .i64 false c3)]) (nx := 1) (by kernel_rfl) rfl h

theorem sim_matrix_Matrix_Invert (m1 : Option Addr) (w : World) (Q : Ending → World → Prop) (h : vc_matrix_Matrix_Invert m1 w Q) : Calls PP F_matrix_Matrix_Invert #[(.pointer m1)] w Q := exo (vs := [.l (.p 0 m1)]) (nx := 1) (by kernel_rfl) rfl h

theorem sim_matrix_Matrix_Mul (m1 o2 : Option Addr) (w : World) (Q : Ending → World → Prop) (h : vc_matrix_Matrix_Mul m1 o2 w Q) : Calls PP F_matrix_Matrix_Mul #[(.pointer m1), (.pointer o2)] w Q := exo (vs := [.l (.p 0 m1), .l (.p 1 o2)]) (nx := 2) (by kernel_rfl) rfl h

theorem sim_matrix_Matrix_Rows (m1 : Option Addr) (w : World) (Q : Ending → World → Prop) (h : vc_matrix_Matrix_Rows m1 w Q) : Calls PP F_matrix_Matrix_Rows #[(.pointer m1)] w Q := exo (vs := [.l (.p 0 m1)]) (nx := 1) (by kernel_rfl) rfl h

theorem sim_client_Client_enter (c1 : Option Addr) (s2 : Value) (C3 C4 : Int) (w : World) (Q : Ending → World → Prop) (h : vc_client_Client_enter c1 s2 C3 C4 w Q) : Calls PP F_client_Client_enter #[(.pointer c1), s2, (.agg #[(.int .i64 C3), (.int .i64 C4)])] w Q := exo (vs := [.l (.p 0 c1), .l (.v s2), .g [.i .i64 false C3, .i .i64 false C4]]) (nx := 1) (by kernel_rfl) rfl h

theorem sim_code_Code_shaped (c1 : Option Addr) (d2 : Slc) (w : World) (Q : Ending → World → Prop) (h : vc_code_Code_shaped c1 d2 w Q) : Calls PP F_code_Code_shaped #[(.pointer c1), (Slc.v d2)] w Q := exo (vs := [.l (.p 0 c1), .l (.c d2)]) (nx := 1) (by kernel_rfl) rfl h

theorem sim_code_Code_sum (c1 : Option Addr) (f2 r3 : Slc) (w : World) (Q : Ending → World → Prop) (h : vc_code_Code_sum c1 f2 r3 w Q) : Calls PP F_code_Code_sum #[(.pointer c1), (Slc.v f2), (Slc.v r3)] w Q := exo (vs := [.l (.p 0 c1), .l (.c f2), .l (.c r3)]) (nx := 1) (by kernel_rfl) rfl h

theorem sim_stripe_size (l1 k2 : Int) (w : World) (Q : Ending → World → Prop) (h : vc_stripe_size l1 k2 w Q) : Calls PP F_stripe_size #[(.int .i64 l1), (.int .i64 k2)] w Q := exo (vs := [.l (.i .i64 false l1), .l (.i .i64 false k2)]) (nx := 0) (by kernel_rfl) rfl h

theorem sim_stripe_Cut (c1 : Option Addr) (v2 : Slc) (i3 : Int) (w : World) (Q : Ending → World → Prop) (h : vc_stripe_Cut c1 v2 i3 w Q) : Calls PP F_stripe_Cut #[(.pointer c1), (Slc.v v2), (.int .i64 i3)] w Q := exo (vs := [.l (.p 0 c1), .l (.c v2), .l (.i .i64 false i3)]) (nx := 1) (by kernel_rfl) rfl h

theorem sim_slices_MaxFunc (x1 : Slc) (c2 : Value) (w : World) (Q : Ending → World → Prop) (h : vc_slices_MaxFunc x1 c2 w Q) : Calls PP F_slices_MaxFunc #[(Slc.v x1), c2] w Q := exo (vs := [.l (.c x1), .l (.v c2)]) (nx := 0) (by kernel_rfl) rfl h

theorem sim_client_Client_chosen (c1 : Option Addr) (C2 C3 : Int) (w : World) (Q : Ending → World → Prop) (h : vc_client_Client_chosen c1 C2 C3 w Q) : Calls PP F_client_Client_chosen #[(.pointer c1), (.agg #[(.int .i64 C2), (.int .i64 C3)])] w Q := exo (vs := [.l (.p 0 c1), .g [.i .i64 false C2, .i .i64 false C3]]) (nx := 1) (by kernel_rfl) rfl h

theorem sim_client_operation_top (o1 : Option Addr) (w : World) (Q : Ending → World → Prop) (h : vc_client_operation_top o1 w Q) : Calls PP F_client_operation_top #[(.pointer o1)] w Q := exo (vs := [.l (.p 0 o1)]) (nx := 1) (by kernel_rfl) rfl h

theorem sim_client_Client_end (c1 : Option Addr) (s2 C3 C4 : Int) (v5 : Slc) (w : World) (Q : Ending → World → Prop) (h : vc_client_Client_end c1 s2 C3 C4 v5 w Q) : Calls PP F_client_Client_end #[(.pointer c1), (.int .i64 s2), (.agg #[(.int .i64 C3), (.int .i64 C4)]), (Slc.v v5)] w Q := exo (vs := [.l (.p 0 c1), .l (.i .i64 false s2), .g [.i .i64 false C3, .i .i64 false C4], .l (.c v5)]) (nx := 1) (by kernel_rfl) rfl h

theorem sim_client_Client_read (c1 : Option Addr) (w : World) (Q : Ending → World → Prop) (h : vc_client_Client_read c1 w Q) : Calls PP F_client_Client_read #[(.pointer c1)] w Q := exo (vs := [.l (.p 0 c1)]) (nx := 1) (by kernel_rfl) rfl h

theorem sim_cmp_isNaN_int64 (x1 : Int) (w : World) (Q : Ending → World → Prop) (h : vc_cmp_isNaN_int64 x1 w Q) : Calls PP F_cmp_isNaN_int64 #[(.int .i64 x1)] w Q := exo (vs := [.l (.i .i64 false x1)]) (nx := 0) (by kernel_rfl) rfl h
end Go.Proofs.YtabifopphhpciaaGreatDoor

namespace Go.Proofs.YtabifopphhpciaaGreatDoor
open Go Go.Vc
open Go.Vc.Ex
set_option maxRecDepth 100000
set_option maxHeartbeats 4000000
theorem sim_cmp_isNaN_int (x1 : Int) (w : World) (Q : Ending → World → Prop) (h : vc_cmp_isNaN_int x1 w Q) : Calls PP F_cmp_isNaN_int #[(.int .i64 x1)] w Q := exo (vs := [.l (.i .i64 false x1)]) (nx := 0) (by kernel_rfl) rfl h

theorem sim_matrix_sized (f1 : Option Addr) (r2 c3 : Int) (w : World) (Q : Ending → World → Prop) (h : vc_matrix_sized f1 r2 c3 w Q) : Calls PP F_matrix_sized #[(.pointer f1), (.int .i64 r2), (.int .i64 c3)] w Q := exo (vs := [.l (.p 0 f1), .l (.i .i64 false r2), .l (.i .i64 false c3)]) (nx := 1) (by kernel_rfl) rfl h

theorem sim_matrix_blank (f1 : Option Addr) (r2 c3 : Int) (w : World) (Q : Ending → World → Prop) (h : vc_matrix_blank f1 r2 c3 w Q) : Calls PP F_matrix_blank #[(.pointer f1), (.int .i64 r2), (.int .i64 c3)] w Q := exo (vs := [.l (.p 0 f1), .l (.i .i64 false r2), .l (.i .i64 false c3)]) (nx := 1) (by kernel_rfl) rfl h

theorem sim_gf_Field_Mul (f1 : Option Addr) (a2 b3 : Int) (w : World) (Q : Ending → World → Prop) (h : vc_gf_Field_Mul f1 a2 b3 w Q) : Calls PP F_gf_Field_Mul #[(.pointer f1), (.int .u8 a2), (.int .u8 b3)] w Q := exo (vs := [.l (.p 0 f1), .l (.i .u8 false a2), .l (.i .u8 false b3)]) (nx := 1) (by kernel_rfl) rfl h

theorem sim_matrix_eliminate (f1 : Option Addr) (r2 : Slc) (c3 : Int) (w : World) (Q : Ending → World → Prop) (h : vc_matrix_eliminate f1 r2 c3 w Q) : Calls PP F_matrix_eliminate #[(.pointer f1), (Slc.v r2), (.int .i64 c3)] w Q := exo (vs := [.l (.p 0 f1), .l (.c r2), .l (.i .i64 false c3)]) (nx := 1) (by kernel_rfl) rfl h

theorem sim_gf_Field_Poly (f1 : Option Addr) (w : World) (Q : Ending → World → Prop) (h : vc_gf_Field_Poly f1 w Q) : Calls PP F_gf_Field_Poly #[(.pointer f1)] w Q := exo (vs := [.l (.p 0 f1)]) (nx := 1) (by kernel_rfl) rfl h

theorem sim_gf_Field_AddMul (f1 : Option Addr) (d2 : Slc) (c3 : Int) (s4 : Slc) (w : World) (Q : Ending → World → Prop) (h : vc_gf_Field_AddMul f1 d2 c3 s4 w Q) : Calls PP F_gf_Field_AddMul #[(.pointer f1), (Slc.v d2), (.int .u8 c3), (Slc.v s4)] w Q := exo (vs := [.l (.p 0 f1), .l (.c d2), .l (.i .u8 false c3), .l (.c s4)]) (nx := 1) (by kernel_rfl) rfl h

theorem sim_slices_ContainsFunc_byte_byte_111 (s1 : Slc) (f2 : Value) (w : World) (Q : Ending → World → Prop) (h : vc_slices_ContainsFunc_byte_byte_111 s1 f2 w Q) : Calls PP F_slices_ContainsFunc_byte_byte_111 #[(Slc.v s1), f2] w Q := exo (vs := [.l (.c s1), .l (.v f2)]) (nx := 0) (by kernel_rfl) rfl h

theorem sim_code_Code_shaped_c1 (r1 : Slc) (c2 : Addr) (w : World) (Q : Ending → World → Prop) (h : vc_code_Code_shaped_c1 r1 c2 w Q) : Calls PP F_code_Code_shaped_c1 #[(Slc.v r1), (.pointer (some c2))] w Q := exo (vs := [.l (.c r1), .l (.a none c2)]) (nx := 0) (by kernel_rfl) rfl h

theorem sim_code_Code_Row (c1 : Option Addr) (d2 : Slc) (i3 : Int) (w : World) (Q : Ending → World → Prop) (h : vc_code_Code_Row c1 d2 i3 w Q) : Calls PP F_code_Code_Row #[(.pointer c1), (Slc.v d2), (.int .i64 i3)] w Q := exo (vs := [.l (.p 0 c1), .l (.c d2), .l (.i .i64 false i3)]) (nx := 1) (by kernel_rfl) rfl h

theorem sim_tag_Next (C1 C2 u3 c4 : Int) (w : World) (Q : Ending → World → Prop) (h : vc_tag_Next C1 C2 u3 c4 w Q) : Calls PP F_tag_Next #[(.agg #[(.int .i64 C1), (.int .i64 C2)]), (.int .i64 u3), (.int .i64 c4)] w Q := exo (vs := [.g [.i .i64 false C1, .i .i64 false C2], .l (.i .i64 false u3), .l (.i .i64 false c4)]) (nx := 0) (by kernel_rfl) rfl h

theorem sim_client_operation_top_c1 (p1 C2 C3 : Int) (h4 : Bool) (d5 : Slc) (c6 : Addr) (w : World) (Q : Ending → World → Prop) (h : vc_client_operation_top_c1 p1 C2 C3 h4 d5 c6 w Q) : Calls PP F_client_operation_top_c1 #[(.int .i64 p1), (.agg #[(.int .i64 C2), (.int .i64 C3), (.bool h4), (Slc.v d5)]), (.pointer (some c6))] w Q := exo (vs := [.l (.i .i64 false p1), .g [.i .i64 false C2, .i .i64 false C3, .b false h4, .c d5], .l (.a none c6)]) (nx := 0) (by kernel_rfl) rfl h

theorem sim_client_Client_read_c1 (s1 C2 C3 : Int) (h4 : Bool) (d5 : Slc) (c6 c7 : Addr) (w : World) (Q : Ending → World → Prop) (h : vc_client_Client_read_c1 s1 C2 C3 h4 d5 c6 c7 w Q) : Calls PP F_client_Client_read_c1 #[(.int .i64 s1), (.agg #[(.int .i64 C2), (.int .i64 C3), (.bool h4), (Slc.v d5)]), (.pointer (some c6)), (.pointer (some c7))] w Q := exo (vs := [.l (.i .i64 false s1), .g [.i .i64 false C2, .i .i64 false C3, .b false h4, .c d5], .l (.a none c6), .l (.a none c7)]) (nx := 0) (by kernel_rfl) rfl h

theorem sim_stripe_Join (c1 : Option Addr) (p2 : Slc) (w : World) (Q : Ending → World → Prop) (h : vc_stripe_Join c1 p2 w Q) : Calls PP F_stripe_Join #[(.pointer c1), (Slc.v p2)] w Q := exo (vs := [.l (.p 0 c1), .l (.c p2)]) (nx := 1) (by kernel_rfl) rfl h

theorem sim_matrix_eliminate_c1 (i1 j2 : Int) (c3 : Addr) (w : World) (Q : Ending → World → Prop) (h : vc_matrix_eliminate_c1 i1 j2 c3 w Q) : Calls PP F_matrix_eliminate_c1 #[(.int .i64 i1), (.int .i64 j2), (.pointer (some c3))] w Q := exo (vs := [.l (.i .i64 false i1), .l (.i .i64 false j2), .l (.a none c3)]) (nx := 0) (by kernel_rfl) rfl h

theorem sim_matrix_eliminate_c2 (t1 c2 f3 : Int) (c4 c5 : Addr) (w : World) (Q : Ending → World → Prop) (h : vc_matrix_eliminate_c2 t1 c2 f3 c4 c5 w Q) : Calls PP F_matrix_eliminate_c2 #[(.int .i64 t1), (.int .u8 c2), (.int .i64 f3), (.pointer (some c4)), (.pointer (some c5))] w Q := exo (vs := [.l (.i .i64 false t1), .l (.i .u8 false c2), .l (.i .i64 false f3), .l (.a none c4), .l (.a none c5)]) (nx := 0) (by kernel_rfl) rfl h

theorem sim_matrix_eliminate_c3 (i1 c2 : Int) (c3 c4 : Addr) (w : World) (Q : Ending → World → Prop) (h : vc_matrix_eliminate_c3 i1 c2 c3 c4 w Q) : Calls PP F_matrix_eliminate_c3 #[(.int .i64 i1), (.int .u8 c2), (.pointer (some c3)), (.pointer (some c4))] w Q := exo (vs := [.l (.i .i64 false i1), .l (.i .u8 false c2), .l (.a none c3), .l (.a none c4)]) (nx := 0) (by kernel_rfl) rfl h

theorem sim_gf_Field_Inv (f1 : Option Addr) (a2 : Int) (w : World) (Q : Ending → World → Prop) (h : vc_gf_Field_Inv f1 a2 w Q) : Calls PP F_gf_Field_Inv #[(.pointer f1), (.int .u8 a2)] w Q := exo (vs := [.l (.p 0 f1), .l (.i .u8 false a2)]) (nx := 1) (by kernel_rfl) rfl h
end Go.Proofs.YtabifopphhpciaaGreatDoor
