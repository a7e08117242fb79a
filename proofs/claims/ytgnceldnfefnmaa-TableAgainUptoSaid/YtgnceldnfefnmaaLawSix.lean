/-
  Plain laws for TableHolds: the sixty tags, counted from the highest down.
-/
import Derived.Test.YtgnceldnfefnmaaLawDone
namespace Go.Tab
open Go Go.Vc Go.Vc.Asn
/-- The sixty tags. -/
def tagN (i : Nat) : Tg := (((i / 5 : Nat) : Int) + 1, ((i % 5 : Nat) : Int) + 1)
theorem tagN_lt {i j : Nat} : ltT (tagN i) (tagN j) = true ↔ i < j := by
  unfold ltT tagN
  simp only [Bool.or_eq_true, decide_eq_true_eq, Bool.and_eq_true]
  omega
theorem tagN_inj {i j : Nat} (h : tagN i = tagN j) : i = j := by
  unfold tagN at h
  have h1 := congrArg Prod.fst h
  have h2 := congrArg Prod.snd h
  simp only at h1 h2
  omega
theorem tagN_pos (i : Nat) : ltT (0, 0) (tagN i) = true := by
  unfold ltT tagN
  simp only [Bool.or_eq_true, decide_eq_true_eq, Bool.and_eq_true]
  omega
theorem Mv.tagN (m : Mv) : ∃ i, i < 60 ∧ m.tag = Go.Tab.tagN i := by
  have h1 := modI_lo m.count (m := 12) (by decide)
  have h2 := modI_hi m.count (m := 12) (by decide)
  have h3 := modI_lo m.client (m := 5) (by decide)
  have h4 := modI_hi m.client (m := 5) (by decide)
  refine ⟨(modI m.count 12).toNat * 5 + (modI m.client 5).toNat, by omega, ?_⟩
  unfold Mv.tag Go.Tab.tagN
  refine Prod.ext ?_ ?_
  · simp only; omega
  · simp only; omega
/-- Those from the j-th on. -/
def ups (j : Nat) : List Tg := (List.range' j (60 - j)).map tagN
theorem mem_ups {j : Nat} {t : Tg} : t ∈ ups j ↔ ∃ i, j ≤ i ∧ i < 60 ∧ t = tagN i := by
  unfold ups
  rw [List.mem_map]
  constructor
  · rintro ⟨i, hi, rfl⟩
    rw [List.mem_range'_1] at hi
    exact ⟨i, hi.1, by omega, rfl⟩
  · rintro ⟨i, h1, h2, rfl⟩
    exact ⟨i, by rw [List.mem_range'_1]; omega, rfl⟩
theorem ups_cons {j : Nat} (h : j < 60) : ups j = tagN j :: ups (j + 1) := by
  unfold ups
  rw [show 60 - j = (60 - (j + 1)) + 1 by omega, List.range'_succ]
  rfl
theorem ups_end : ups 60 = [] := rfl
theorem ups_sorted (j : Nat) : (ups j).Pairwise fun x y => ltT x y = true := by
  unfold ups
  rw [List.pairwise_map]
  exact (List.pairwise_lt_range' (s := j) (n := 60 - j)).imp fun h => tagN_lt.2 h
theorem ups_nodup (j : Nat) : (ups j).Nodup := (ups_sorted j).imp fun h e => by rw [e, ltT_irrefl] at h; cases h
/-- All are of the sixty. -/
def Six (F : List Tg) : Prop := ∀ t ∈ F, ∃ i, i < 60 ∧ t = tagN i
def isU (FE HE : List Tg) (t : Tg) : Bool := decide (t ∈ FE) || decide (t ∈ HE)
theorem st_eq : ∀ {l l' : List Tg}, l.Pairwise (fun x y => ltT x y = true) → l'.Pairwise (fun x y => ltT x y = true) → (∀ t, t ∈ l ↔ t ∈ l') → l = l' := fun {l l'} h h' hm => by
  have n1 : l.Nodup := h.imp fun h e => by rw [e, ltT_irrefl] at h; cases h
  have n2 : l'.Nodup := h'.imp fun h e => by rw [e, ltT_irrefl] at h; cases h
  exact sorted_eq (R := fun x y => ltT x y = true) (fun x y a b => by have := ltT_trans a b; rw [ltT_irrefl] at this; cases this) ((List.perm_ext_iff_of_nodup n1 n2).2 hm) h h'
theorem ups_list {n j : Nat} {FE HE : List Tg} (hn : FE.Nodup) (h1 : Six FE) (h2 : Six HE) (hc : ∀ i, i < 60 → (tagN i ∈ FE ∨ tagN i ∈ HE) → (ltT (tagN i) (fl n FE) = false ↔ j ≤ i)) : (ups j).filter (isU FE HE) = sortU (tagsC n FE HE) := by
  have hnd : (tagsC n FE HE).Nodup := (uni_nodup hn HE).sublist List.filter_sublist
  refine st_eq ((ups_sorted j).filter _) (sortU_st hnd) fun t => ?_
  rw [List.mem_filter, mem_ups, (sortU_perm _).mem_iff]
  unfold tagsC isU
  rw [List.mem_filter, mem_uni, Bool.not_eq_true']
  simp only [Bool.or_eq_true, decide_eq_true_eq]
  constructor
  · rintro ⟨⟨i, h3, h4, rfl⟩, h5⟩
    exact ⟨h5, (hc i h4 h5).2 h3⟩
  · rintro ⟨h5, h6⟩
    obtain ⟨i, h4, rfl⟩ : ∃ i, i < 60 ∧ t = tagN i := h5.elim (h1 t) (h2 t)
    exact ⟨⟨i, (hc i h4 h5).1 h6, h4, rfl⟩, h5⟩
/-- Where the count of finalized tags passes n, there is the floor. -/
theorem ups_floor {n j : Nat} {FE : List Tg} (hn : FE.Nodup) (h1 : Six FE) (hj : j < 60) (hf : tagN j ∈ FE) (hc : (ups (j + 1)).countP (fun t => decide (t ∈ FE)) = n) : fl n FE = tagN j := by
  refine fl_eq hn hf ?_
  rw [← hc, List.countP_eq_length_filter, List.countP_eq_length_filter]
  refine List.Perm.length_eq ((List.perm_ext_iff_of_nodup (hn.sublist List.filter_sublist) ((ups_nodup _).sublist List.filter_sublist)).2 fun t => ?_)
  rw [List.mem_filter, List.mem_filter, mem_ups]
  simp only [decide_eq_true_eq]
  constructor
  · rintro ⟨h2, h3⟩
    obtain ⟨i, h4, rfl⟩ := h1 t h2
    exact ⟨⟨i, tagN_lt.1 h3, h4, rfl⟩, h2⟩
  · rintro ⟨⟨i, h3, h4, rfl⟩, h2⟩
    exact ⟨h2, tagN_lt.2 h3⟩
theorem ups_few {n : Nat} {FE : List Tg} (hn : FE.Nodup) (h1 : Six FE) (hc : (ups 0).countP (fun t => decide (t ∈ FE)) ≤ n) : fl n FE = (0, 0) := by
  refine fl_zero ?_
  rw [List.countP_eq_length_filter] at hc
  refine Nat.le_trans (nodup_len hn fun t ht => ?_) hc
  obtain ⟨i, h4, rfl⟩ := h1 t ht
  exact List.mem_filter.2 ⟨mem_ups.2 ⟨i, Nat.zero_le _, h4, rfl⟩, by simpa using ht⟩
theorem six_feS (ms : List Mv) (k : ByteArray) : Six (feS ms k) := fun t ht => by
  obtain ⟨m, _, _, _, rfl⟩ := mem_feS.1 ht
  exact m.tagN
theorem six_heS (ms : List Mv) (k : ByteArray) : Six (heS ms k) := fun t ht => by
  obtain ⟨m, _, _, _, rfl⟩ := mem_heS.1 ht
  exact m.tagN
theorem feS_ok (ms : List Mv) (k : ByteArray) : (feS ms k).Nodup ∧ Pos (feS ms k) := by
  refine ⟨?_, fun t ht => ?_⟩
  · refine snocRec (P := fun ms => (feS ms k).Nodup) (by simp [feS]) (fun l m ih => ?_) ms
    rw [feS_snoc]
    unfold stepF upd
    split
    · exact ins_nodup ih
    · exact ih
  · obtain ⟨i, _, rfl⟩ := six_feS ms k t ht
    exact tagN_pos i
/-- A move of this key and this tag. -/
def Mv.hit (k : ByteArray) (t : Tg) (m : Mv) : Bool := decide (keyB m.key = k) && decide (m.tag = t)
theorem any_fe (ms : List Mv) (k : ByteArray) (t : Tg) : (ms.any fun m => m.hit k t && m.fin) = decide (t ∈ feS ms k) := by
  rw [Bool.eq_iff_iff]
  simp only [List.any_eq_true, decide_eq_true_eq, mem_feS, Mv.hit, Bool.and_eq_true]
  constructor
  · rintro ⟨m, hm, ⟨h1, h2⟩, h3⟩; exact ⟨m, hm, h3, h1, h2⟩
  · rintro ⟨m, hm, h3, h1, h2⟩; exact ⟨m, hm, ⟨h1, h2⟩, h3⟩
theorem any_he (ms : List Mv) (k : ByteArray) (t : Tg) : (ms.any fun m => m.hit k t && (m.both || !m.fin)) = decide (t ∈ heS ms k) := by
  rw [Bool.eq_iff_iff]
  simp only [List.any_eq_true, decide_eq_true_eq, mem_heS, Mv.hit, Bool.and_eq_true]
  constructor
  · rintro ⟨m, hm, ⟨h1, h2⟩, h3⟩; exact ⟨m, hm, h3, h1, h2⟩
  · rintro ⟨m, hm, h3, h1, h2⟩; exact ⟨m, hm, ⟨h1, h2⟩, h3⟩
/-- The finalized tags of what is told, the highest first. -/
theorem fins_list {n : Nat} {D : Tg → List UInt8} {FE HE : List Tg} (hn : FE.Nodup) : (((listC n D FE HE).reverse.filter (·.fin)).map (·.tag)) = sortD (cut n FE) := by
  have hnd : (tagsC n FE HE).Nodup := (uni_nodup hn HE).sublist List.filter_sublist
  have hs := sortU_st hnd
  have e : (((listC n D FE HE).reverse.filter (·.fin)).map (·.tag)) = ((sortU (tagsC n FE HE)).reverse.filter fun t => decide (t ∈ FE)) := by
    unfold listC
    rw [← List.map_reverse, List.filter_map, List.map_map]
    have : ((fun x : En => x.tag) ∘ enC D FE HE) = id := rfl
    rw [this, List.map_id]
    rfl
  rw [e]
  have p1 : ((sortU (tagsC n FE HE)).reverse.filter fun t => decide (t ∈ FE)).Pairwise fun x y => ltT y x = true := (List.pairwise_reverse.2 hs).filter _
  have p2 := sortD_st (hn.sublist (List.filter_sublist (p := fun t => !ltT t (fl n FE))))
  have n1 : ((sortU (tagsC n FE HE)).reverse.filter fun t => decide (t ∈ FE)).Nodup := p1.imp fun h e => by rw [e, ltT_irrefl] at h; cases h
  have n2 : (sortD (cut n FE)).Nodup := p2.imp fun h e => by rw [e, ltT_irrefl] at h; cases h
  refine sorted_eq (R := fun x y => ltT y x = true) (fun x y a b => by have := ltT_trans a b; rw [ltT_irrefl] at this; cases this) ((List.perm_ext_iff_of_nodup n1 n2).2 fun t => ?_) p1 p2
  rw [List.mem_filter, List.mem_reverse, (sortU_perm _).mem_iff, (sortD_perm _).mem_iff]
  unfold tagsC cut
  rw [List.mem_filter, List.mem_filter, mem_uni]
  simp only [decide_eq_true_eq]
  constructor
  · rintro ⟨⟨_, h1⟩, h2⟩; exact ⟨h2, h1⟩
  · rintro ⟨h2, h1⟩; exact ⟨⟨.inl h2, h1⟩, h2⟩
end Go.Tab
