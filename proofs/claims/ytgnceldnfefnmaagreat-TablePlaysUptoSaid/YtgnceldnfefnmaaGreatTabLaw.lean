/-
  What a shelf holds, as a function of what came: the tags that were ever finalized, the fragments that ever came. Nothing runs here.
-/
import Derived.Test.YtgnceldnfefnmaaGreatTableOut
namespace Go.Tab
open Go Go.Vc
theorem fl_filter {n : Nat} {G : List Tg} {a : Tg} (hn : G.Nodup) (h : ltT (fl n G) a = false) : fl n (G.filter fun t => !ltT t a) = fl n G := by
  have hn' : (G.filter fun t => !ltT t a).Nodup := hn.sublist List.filter_sublist
  rcases fl_spec (n := n) hn with ⟨h1, h0⟩ | ⟨hf, hc⟩
  · rw [fl_zero (Nat.le_trans (List.length_filter_le _ _) h1), h0]
  · refine fl_eq hn' (List.mem_filter.2 ⟨hf, by rw [h]; rfl⟩) ?_
    rw [List.countP_filter]
    refine Eq.trans (List.countP_congr fun x _ => ?_) hc
    cases hx : ltT (fl n G) x with
    | false => simp
    | true =>
      have : ltT x a = false := by
        cases hxa : ltT x a with
        | false => rfl
        | true => rw [ltT_trans hx hxa] at h; cases h
      simp [this]
def ins (t : Tg) (F : List Tg) : List Tg := if t ∈ F then F else t :: F
theorem mem_ins {t x : Tg} {F : List Tg} : x ∈ ins t F ↔ x = t ∨ x ∈ F := by
  unfold ins
  split
  · rename_i h
    exact ⟨.inr, fun hx => hx.elim (fun e => e ▸ h) id⟩
  · exact List.mem_cons
theorem ins_nodup {t : Tg} {F : List Tg} (h : F.Nodup) : (ins t F).Nodup := by
  unfold ins
  split
  · exact h
  · rename_i hx; exact List.nodup_cons.2 ⟨hx, h⟩
theorem ins_pos {t : Tg} {F : List Tg} (h : Pos F) (ht : ltT (0, 0) t = true) : Pos (ins t F) := fun x hx => (mem_ins.1 hx).elim (fun e => e ▸ ht) (h x)
theorem fl_ins {n : Nat} {F : List Tg} {t : Tg} (hn : F.Nodup) (hp : Pos F) (ht : ltT (0, 0) t = true) : ltT (fl n (ins t F)) (fl n F) = false := by
  unfold ins
  split
  · exact ltT_irrefl _
  · rename_i h
    exact fl_mono hn h fun x hx => (List.mem_cons.1 hx).elim (fun e => e ▸ ht) (hp x)
theorem lookE_of' {l : Sc} (hn : (l.map (·.1)).Nodup) {x : Tg × Ec} (hx : x ∈ l) : lookE l x.1 = x.2 := by
  unfold lookE
  rw [llook_of hn hx]
  rfl
theorem nodup_len {α : Type} [DecidableEq α] : ∀ {l1 l2 : List α}, l1.Nodup → (∀ x ∈ l1, x ∈ l2) → l1.length ≤ l2.length
  | [], _, _, _ => Nat.zero_le _
  | x :: r, l2, hn, h => by
    have hx := h x List.mem_cons_self
    have h1 := nodup_len (l2 := l2.erase x) (List.nodup_cons.1 hn).2 fun y hy => (List.mem_erase_of_ne (fun e => (List.nodup_cons.1 hn).1 (by rw [← e]; exact hy))).2 (h y (List.mem_cons_of_mem _ hy))
    have h2 := List.length_erase_of_mem hx
    have h3 := List.length_pos_of_mem hx
    simp only [List.length_cons]
    omega
structure ShOk (n : Nat) (D : Tg → List UInt8) (FE HE : List Tg) (l : Sc) : Prop where
  keys : (l.map (·.1)).Nodup
  mem : ∀ t, t ∈ l.map (·.1) ↔ ltT t (fl n FE) = false ∧ (t ∈ FE ∨ t ∈ HE)
  val : ∀ x ∈ l, x.2.abs = ⟨x.1, decide (x.1 ∈ FE), decide (x.1 ∈ HE), if x.1 ∈ HE then D x.1 else []⟩
namespace ShOk
variable {n : Nat} {D : Tg → List UInt8} {FE HE : List Tg} {l : Sc} {t : Tg}
theorem nil : ShOk n D [] [] [] := ⟨List.nodup_nil, fun t => by simp, fun x hx => nomatch hx⟩
theorem tagOk (h : ShOk n D FE HE l) : TagOk l := fun x hx => congrArg En.tag (h.val x hx)
theorem fin_iff (h : ShOk n D FE HE l) {x : Tg × Ec} (hx : x ∈ l) : x.2.fin = decide (x.1 ∈ FE) := congrArg En.fin (h.val x hx)
theorem has_iff (h : ShOk n D FE HE l) {x : Tg × Ec} (hx : x ∈ l) : x.2.has = decide (x.1 ∈ HE) := congrArg En.has (h.val x hx)
theorem look_abs (h : ShOk n D FE HE l) (ht : ltT t (fl n FE) = false) : (lookE l t).fin = decide (t ∈ FE) ∧ (lookE l t).has = decide (t ∈ HE) ∧ (lookE l t).data = if t ∈ HE then D t else [] := by
  by_cases hm : t ∈ l.map (·.1)
  · obtain ⟨x, hx, rfl⟩ := List.mem_map.1 hm
    rw [lookE_of' h.keys hx]
    exact ⟨h.fin_iff hx, h.has_iff hx, congrArg En.data (h.val x hx)⟩
  · have h1 : t ∉ FE ∧ t ∉ HE := by
      have := (not_congr (h.mem t)).1 hm
      simp only [ht, true_and, not_or] at this
      exact this
    have : lookE l t = zeroE := by
      unfold lookE
      cases hl : llook l t with
      | none => rfl
      | some e => exact absurd (List.mem_map_of_mem (f := (·.1)) (llook_mem hl)) hm
    rw [this]
    simp [zeroE, h1.1, h1.2]
theorem fins_perm (h : ShOk n D FE HE l) (hn : FE.Nodup) : (fins l).Perm (cut n FE) := by
  have h1 : (fins l).Nodup := h.keys.sublist (List.Sublist.map _ List.filter_sublist)
  have h2 : (cut n FE).Nodup := hn.sublist List.filter_sublist
  refine (List.perm_ext_iff_of_nodup h1 h2).2 fun t => ?_
  unfold fins cut
  simp only [List.mem_map, List.mem_filter, Bool.not_eq_true']
  constructor
  · rintro ⟨x, ⟨hx, hf⟩, rfl⟩
    rw [h.fin_iff hx] at hf
    exact ⟨by simpa using hf, ((h.mem x.1).1 (List.mem_map_of_mem hx)).1⟩
  · rintro ⟨hf, hl⟩
    obtain ⟨x, hx, rfl⟩ := List.mem_map.1 ((h.mem t).2 ⟨hl, .inl hf⟩)
    exact ⟨x, ⟨hx, by rw [h.fin_iff hx]; simpa using hf⟩, rfl⟩
theorem floor (h : ShOk n D FE HE l) (hn : FE.Nodup) : floorI n l = fl n FE := by rw [floorI_nat, fl_ext (h.fins_perm hn), fl_cut hn]
theorem top_eq (h : ShOk n D FE HE l) (hn : FE.Nodup) (hp : Pos FE) : top (fins l) = top FE := by
  rw [top_fl, fl_ext (h.fins_perm hn), ← top_fl, top_cut hn hp]
theorem fins_len (h : ShOk n D FE HE l) (hn : FE.Nodup) : (fins l).length ≤ n + 1 := by rw [(h.fins_perm hn).length_eq]; exact cut_len hn
theorem len (h : ShOk n D FE HE l) : l.length ≤ FE.length + HE.length := by
  have := nodup_len (l2 := FE ++ HE) h.keys fun t ht => List.mem_append.2 ((h.mem t).1 ht).2
  simpa using this
theorem pre (h : ShOk n D FE HE l) (ht : ltT t (fl n FE) = false) (s : Slc) : ShOk n D FE (ins t HE) (lput l t ⟨t, (lookE l t).fin, true, s, D t⟩) := by
  have hp := lput_perm h.keys t ⟨t, (lookE l t).fin, true, s, D t⟩
  refine ⟨lput_keys _ h.keys _ _, fun x => ?_, fun x hx => ?_⟩
  · rw [(hp.map (·.1)).mem_iff, List.map_cons, List.mem_cons, mem_ins]
    have hd : x ∈ (ldel l t).map (·.1) ↔ x ∈ l.map (·.1) ∧ x ≠ t := by
      unfold ldel
      simp only [List.mem_map, List.mem_filter, decide_eq_true_eq]
      constructor
      · rintro ⟨y, ⟨hy, hne⟩, rfl⟩; exact ⟨⟨y, hy, rfl⟩, hne⟩
      · rintro ⟨⟨y, hy, rfl⟩, hne⟩; exact ⟨y, ⟨hy, hne⟩, rfl⟩
    rw [hd, h.mem]
    by_cases hx : x = t
    · subst hx; simp [ht]
    · simp [hx]
  · rcases List.mem_cons.1 (hp.mem_iff.1 hx) with rfl | hx
    · simp only [Ec.abs, (h.look_abs ht).1, mem_ins, true_or, decide_true, if_true]
    · have hx2 := List.mem_filter.1 hx
      have hne : x.1 ≠ t := by simpa using hx2.2
      rw [h.val x hx2.1]
      simp [mem_ins, hne]
theorem pre_not (h : ShOk n D FE HE l) (hc : (lookE l t).has = true ∨ ltT t (fl n FE) = true) : ShOk n D FE (ins t HE) l := by
  cases ht : ltT t (fl n FE) with
  | false =>
    have : t ∈ HE := by
      rcases hc with hc | hc
      · rw [(h.look_abs ht).2.1] at hc; simpa using hc
      · rw [ht] at hc; cases hc
    unfold ins
    rw [if_pos this]
    exact h
  | true =>
    refine ⟨h.keys, fun x => ?_, fun x hx => ?_⟩
    · rw [h.mem, mem_ins]
      by_cases hx : x = t
      · subst hx; simp [ht]
      · simp [hx]
    · have hne : x.1 ≠ t := fun e => by
        have := ((h.mem x.1).1 (List.mem_map_of_mem hx)).1
        rw [e, ht] at this; cases this
      rw [h.val x hx]
      simp [mem_ins, hne]
theorem fin (h : ShOk n D FE HE l) (hn : FE.Nodup) (hp : Pos FE) (h0 : ltT (0, 0) t = true) (ht : ltT t (fl n FE) = false) (hf : t ∉ FE) : ShOk n D (ins t FE) HE (cutS n (finS l t)) := by
  have hq := lput_perm h.keys t { lookE l t with tag := t, fin := true }
  have hk : ((finS l t).map (·.1)).Nodup := lput_keys _ h.keys _ _
  have hi : ins t FE = t :: FE := by unfold ins; rw [if_neg hf]
  have hmem : ∀ x, x ∈ (finS l t).map (·.1) ↔ x = t ∨ (ltT x (fl n FE) = false ∧ (x ∈ FE ∨ x ∈ HE)) := fun x => by
    unfold finS
    rw [(hq.map (·.1)).mem_iff, List.map_cons, List.mem_cons]
    have hd : x ∈ (ldel l t).map (·.1) ↔ x ∈ l.map (·.1) ∧ x ≠ t := by
      unfold ldel
      simp only [List.mem_map, List.mem_filter, decide_eq_true_eq]
      constructor
      · rintro ⟨y, ⟨hy, hne⟩, rfl⟩; exact ⟨⟨y, hy, rfl⟩, hne⟩
      · rintro ⟨⟨y, hy, rfl⟩, hne⟩; exact ⟨y, ⟨hy, hne⟩, rfl⟩
    rw [hd, h.mem]
    by_cases hx : x = t <;> simp [hx]
  have hval : ∀ x ∈ finS l t, x.2.abs = ⟨x.1, decide (x.1 ∈ ins t FE), decide (x.1 ∈ HE), if x.1 ∈ HE then D x.1 else []⟩ := fun x hx => by
    unfold finS at hx
    rcases List.mem_cons.1 (hq.mem_iff.1 hx) with rfl | hx
    · simp only [Ec.abs, (h.look_abs ht).2.1, (h.look_abs ht).2.2, mem_ins, true_or, decide_true]
    · have hx2 := List.mem_filter.1 hx
      have hne : x.1 ≠ t := by simpa using hx2.2
      rw [h.val x hx2.1]
      simp [mem_ins, hne]
  have hfl : floorI n (finS l t) = fl n (ins t FE) := by
    rw [floorI_nat]
    have h1 : (fins (finS l t)).Perm (t :: cut n FE) := by
      refine (List.perm_ext_iff_of_nodup (hk.sublist (List.Sublist.map _ List.filter_sublist)) (List.nodup_cons.2 ⟨fun hx => hf (List.mem_filter.1 hx).1, hn.sublist List.filter_sublist⟩)).2 fun x => ?_
      simp only [List.mem_map, List.mem_filter, List.mem_cons, Bool.not_eq_true']
      constructor
      · rintro ⟨y, ⟨hy, hyf⟩, rfl⟩
        have e1 : y.2.fin = decide (y.1 ∈ ins t FE) := congrArg En.fin (hval y hy)
        rw [e1] at hyf
        simp only [decide_eq_true_eq, mem_ins] at hyf
        rcases (hmem y.1).1 (List.mem_map_of_mem hy) with e | ⟨e, _⟩
        · exact .inl e
        · exact hyf.elim .inl fun hF => .inr ⟨hF, e⟩
      · intro hx
        have hm : x ∈ (finS l t).map (·.1) := (hmem x).2 (hx.imp id fun hx => ⟨hx.2, .inl hx.1⟩)
        obtain ⟨y, hy, rfl⟩ := List.mem_map.1 hm
        have e1 : y.2.fin = decide (y.1 ∈ ins t FE) := congrArg En.fin (hval y hy)
        exact ⟨y, ⟨hy, by rw [e1]; simp only [decide_eq_true_eq, mem_ins]; exact hx.imp id (·.1)⟩, rfl⟩
    rw [fl_ext h1]
    have h2 : t :: cut n FE = (ins t FE).filter fun x => !ltT x (fl n FE) := by
      rw [hi, List.filter_cons, ht]
      rfl
    rw [h2]
    exact fl_filter (ins_nodup hn) (fl_ins hn hp h0)
  refine ⟨hk.sublist (List.Sublist.map _ List.filter_sublist), fun x => ?_, fun x hx => hval x (List.mem_filter.1 hx).1⟩
  have hc : x ∈ (cutS n (finS l t)).map (·.1) ↔ x ∈ (finS l t).map (·.1) ∧ ltT x (fl n (ins t FE)) = false := by
    unfold cutS
    rw [hfl]
    simp only [List.mem_map, List.mem_filter, Bool.not_eq_true']
    constructor
    · rintro ⟨y, ⟨hy, hyf⟩, rfl⟩; exact ⟨⟨y, hy, rfl⟩, hyf⟩
    · rintro ⟨⟨y, hy, rfl⟩, hyf⟩; exact ⟨y, ⟨hy, hyf⟩, rfl⟩
  rw [hc, hmem, mem_ins]
  constructor
  · rintro ⟨h1 | h1, h2⟩
    · exact ⟨h2, .inl (.inl h1)⟩
    · exact ⟨h2, h1.2.imp .inr id⟩
  · rintro ⟨h1, h2⟩
    refine ⟨?_, h1⟩
    have h3 : ltT x (fl n FE) = false := ltT_ntrans h1 (fl_ins hn hp h0)
    rcases h2 with (h2 | h2) | h2
    · exact .inl h2
    · exact .inr ⟨h3, .inl h2⟩
    · exact .inr ⟨h3, .inr h2⟩
theorem fin_not (h : ShOk n D FE HE l) (hn : FE.Nodup) (h0 : ltT (0, 0) t = true) (hc : (lookE l t).fin = true ∨ ltT t (fl n FE) = true) : ShOk n D (ins t FE) HE l := by
  by_cases hf : t ∈ FE
  · unfold ins; rw [if_pos hf]; exact h
  have ht : ltT t (fl n FE) = true := by
    cases ht : ltT t (fl n FE) with
    | true => rfl
    | false =>
      rcases hc with hc | hc
      · rw [(h.look_abs ht).1] at hc; exact absurd (by simpa using hc) hf
      · rw [ht] at hc; cases hc
  have hi : ins t FE = t :: FE := by unfold ins; rw [if_neg hf]
  have hfl : fl n (ins t FE) = fl n FE := by rw [hi]; exact fl_below hn h0 ht hf
  refine ⟨h.keys, fun x => ?_, fun x hx => ?_⟩
  · rw [h.mem, mem_ins, hfl]
    by_cases hx : x = t
    · subst hx; simp [ht]
    · simp [hx]
  · have hne : x.1 ≠ t := fun e => by
      have := ((h.mem x.1).1 (List.mem_map_of_mem hx)).1
      rw [e, ht] at this; cases this
    rw [h.val x hx]
    simp [mem_ins, hne]
end ShOk
def uni (FE HE : List Tg) : List Tg := HE.foldr ins FE
theorem mem_uni {FE : List Tg} {x : Tg} : ∀ {HE : List Tg}, x ∈ uni FE HE ↔ x ∈ FE ∨ x ∈ HE
  | [] => by simp [uni]
  | t :: r => by
    show x ∈ ins t (uni FE r) ↔ _
    rw [mem_ins, mem_uni (HE := r), List.mem_cons]
    constructor
    · rintro (h | h | h)
      · exact .inr (.inl h)
      · exact .inl h
      · exact .inr (.inr h)
    · rintro (h | h | h)
      · exact .inr (.inl h)
      · exact .inl h
      · exact .inr (.inr h)
theorem uni_nodup {FE : List Tg} (h : FE.Nodup) : ∀ HE : List Tg, (uni FE HE).Nodup
  | [] => h
  | t :: r => ins_nodup (uni_nodup h r)
def tagsC (n : Nat) (FE HE : List Tg) : List Tg := (uni FE HE).filter fun t => !ltT t (fl n FE)
def enC (D : Tg → List UInt8) (FE HE : List Tg) (t : Tg) : En := ⟨t, decide (t ∈ FE), decide (t ∈ HE), if t ∈ HE then D t else []⟩
def listC (n : Nat) (D : Tg → List UInt8) (FE HE : List Tg) : List En := (sortU (tagsC n FE HE)).map (enC D FE HE)
theorem ShOk.tags {n : Nat} {D : Tg → List UInt8} {FE HE : List Tg} {l : Sc} (h : ShOk n D FE HE l) (hn : FE.Nodup) : (l.map (·.1)).Perm (tagsC n FE HE) := by
  refine (List.perm_ext_iff_of_nodup h.keys ((uni_nodup hn HE).sublist List.filter_sublist)).2 fun t => ?_
  rw [h.mem]
  rw [List.mem_filter, mem_uni, Bool.not_eq_true']
  exact And.comm
theorem ShOk.list {n : Nat} {D : Tg → List UInt8} {FE HE : List Tg} {l : Sc} (h : ShOk n D FE HE l) (hn : FE.Nodup) : listS l = listC n D FE HE := by
  unfold listS listC
  rw [sortU_ext (h.tags hn)]
  refine List.map_congr_left fun t ht => ?_
  have hm : t ∈ l.map (·.1) := (h.tags hn).mem_iff.2 ((sortU_perm _).mem_iff.1 ht)
  obtain ⟨x, hx, rfl⟩ := List.mem_map.1 hm
  rw [lookE_of' h.keys hx, h.val x hx]
  rfl
end Go.Tab
