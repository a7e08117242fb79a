/-
  The table's arithmetic: tags in order, the floor of a set of finalized tags, a shelf as a function of what came. Nothing of any program stands here.
-/
namespace Go.Tab
abbrev Tg := Int × Int
def cmpI (x y : Int) : Int := if x < y then -1 else if y < x then 1 else 0
def cmpT (a b : Tg) : Int := if cmpI a.1 b.1 ≠ 0 then cmpI a.1 b.1 else cmpI a.2 b.2
def ltT (a b : Tg) : Bool := decide (a.1 < b.1) || (decide (a.1 = b.1) && decide (a.2 < b.2))
theorem cmpT_lt (a b : Tg) : decide (cmpT a b < 0) = ltT a b := by
  unfold cmpT cmpI ltT
  rcases Int.lt_trichotomy a.1 b.1 with h | h | h
  · simp [h]
  · rcases Int.lt_trichotomy a.2 b.2 with k | k | k
    · simp [h, k]
    · simp [h, k]
    · simp [h, k]; split <;> omega
  · have h1 : ¬ a.1 < b.1 := by omega
    have h2 : ¬ a.1 = b.1 := by omega
    simp [h, h1, h2]
theorem cmpT_sgn (a b : Tg) : cmpT a b = if ltT a b then -1 else if ltT b a then 1 else 0 := by
  unfold cmpT cmpI ltT
  rcases Int.lt_trichotomy a.1 b.1 with h | h | h <;> rcases Int.lt_trichotomy a.2 b.2 with k | k | k <;>
    · have h1 : ¬ (a.1 < b.1 ∧ b.1 < a.1) := by omega
      have h2 : ¬ (a.2 < b.2 ∧ b.2 < a.2) := by omega
      simp only [ne_eq, Bool.or_eq_true, decide_eq_true_eq, Bool.and_eq_true]
      split <;> split <;> (try split) <;> (try split) <;> (try split) <;> (try split) <;> (try split) <;> first | rfl | (exfalso; omega) | omega | (simp_all <;> omega)
theorem ltT_irrefl (a : Tg) : ltT a a = false := by unfold ltT; simp
theorem ltT_trans {a b c : Tg} (h : ltT a b = true) (k : ltT b c = true) : ltT a c = true := by
  unfold ltT at *; simp only [Bool.or_eq_true, decide_eq_true_eq, Bool.and_eq_true] at *; omega
theorem ltT_asymm {a b : Tg} (h : ltT a b = true) : ltT b a = false := by
  cases hb : ltT b a with
  | false => rfl
  | true => have := ltT_trans h hb; rw [ltT_irrefl] at this; cases this
theorem ltT_total {a b : Tg} (h : ltT a b = false) (k : ltT b a = false) : a = b := by
  unfold ltT at *
  simp only [Bool.or_eq_false_iff, decide_eq_false_iff_not, Bool.and_eq_false_iff] at h k
  refine Prod.ext ?_ ?_ <;> omega
theorem ltT_ntrans {a b c : Tg} (h : ltT a b = false) (k : ltT b c = false) : ltT a c = false := by
  unfold ltT at *; simp only [Bool.or_eq_false_iff, decide_eq_false_iff_not, Bool.and_eq_false_iff] at *; omega

/-! ## Sorted lists of tags -/
def sortD (l : List Tg) : List Tg := l.mergeSort fun x y => !ltT x y
def sortU (l : List Tg) : List Tg := l.mergeSort fun x y => !ltT y x
theorem sortD_perm (l : List Tg) : (sortD l).Perm l := List.mergeSort_perm _ _
theorem sortU_perm (l : List Tg) : (sortU l).Perm l := List.mergeSort_perm _ _
theorem sortD_pw (l : List Tg) : (sortD l).Pairwise fun x y => ltT x y = false := by
  have h := List.pairwise_mergeSort (le := fun x y => !ltT x y) (l := l) (fun a b c h k => by
    simp only [Bool.not_eq_true'] at *; exact ltT_ntrans h k) (fun a b => by
    cases h : ltT a b with
    | false => rfl
    | true => simp [ltT_asymm h])
  exact h.imp fun h => by simpa using h
theorem sortU_pw (l : List Tg) : (sortU l).Pairwise fun x y => ltT y x = false := by
  have h := List.pairwise_mergeSort (le := fun x y => !ltT y x) (l := l) (fun a b c h k => by
    simp only [Bool.not_eq_true'] at *; exact ltT_ntrans k h) (fun a b => by
    cases h : ltT a b with
    | false => simp
    | true => simp [ltT_asymm h])
  exact h.imp fun h => by simpa using h
theorem sortD_st {l : List Tg} (hn : l.Nodup) : (sortD l).Pairwise fun x y => ltT y x = true := by
  have h1 := sortD_pw l
  have h2 : (sortD l).Pairwise (· ≠ ·) := (sortD_perm l).nodup_iff.2 hn
  refine (h1.and h2).imp fun {x y} hab => ?_
  cases h : ltT y x with
  | true => rfl
  | false => exact absurd (ltT_total hab.1 h) hab.2
theorem sorted_eq {R : Tg → Tg → Prop} (ha : ∀ x y, R x y → R y x → x = y) : ∀ {l l' : List Tg}, l.Perm l' → l.Pairwise R → l'.Pairwise R → l = l' :=
  fun h k k' => h.eq_of_pairwise (fun a b _ _ h1 h2 => ha a b h1 h2) k k'
theorem sortU_ext {l l' : List Tg} (h : l.Perm l') : sortU l = sortU l' :=
  sorted_eq (R := fun x y => ltT y x = false) (fun _ _ h k => ltT_total k h) ((sortU_perm l).trans (h.trans (sortU_perm l').symm)) (sortU_pw l) (sortU_pw l')
theorem sortD_ext {l l' : List Tg} (h : l.Perm l') : sortD l = sortD l' :=
  sorted_eq (R := fun x y => ltT x y = false) (fun _ _ h k => ltT_total h k) ((sortD_perm l).trans (h.trans (sortD_perm l').symm)) (sortD_pw l) (sortD_pw l')

/-! ## The floor -/
def fl (n : Nat) (F : List Tg) : Tg := ((sortD F)[n]?).getD (0, 0)
theorem at_cnt : ∀ {S : List Tg} {i : Nat} {f : Tg}, S.Pairwise (fun x y => ltT y x = true) → S[i]? = some f → S.countP (ltT f) = i
  | [], i, f, _, h => by simp at h
  | a :: r, 0, f, hp, h => by
    simp at h
    subst h
    rw [List.countP_cons, ltT_irrefl]
    have : r.countP (ltT a) = 0 := List.countP_eq_zero.2 fun x hx => by
      have := ltT_asymm (List.rel_of_pairwise_cons hp hx)
      simp [this]
    simp [this]
  | a :: r, i + 1, f, hp, h => by
    simp at h
    have hf : f ∈ r := List.mem_of_getElem? h
    rw [List.countP_cons, at_cnt hp.of_cons h, List.rel_of_pairwise_cons hp hf]
    simp
theorem fl_spec {n : Nat} {F : List Tg} (hn : F.Nodup) : (F.length ≤ n ∧ fl n F = (0, 0)) ∨ (fl n F ∈ F ∧ F.countP (ltT (fl n F)) = n) := by
  have hl : (sortD F).length = F.length := (sortD_perm F).length_eq
  unfold fl
  rcases Nat.lt_or_ge n F.length with h | h
  · right
    have hs : (sortD F)[n]? = some ((sortD F)[n]'(by omega)) := List.getElem?_eq_getElem (by omega)
    have hc := at_cnt (sortD_st hn) hs
    rw [hs]
    refine ⟨(sortD_perm F).mem_iff.1 (List.getElem_mem _), ?_⟩
    rw [← (sortD_perm F).countP_eq]
    exact hc
  · left
    refine ⟨h, ?_⟩
    rw [List.getElem?_eq_none (by omega)]
    rfl
theorem fl_eq {n : Nat} {F : List Tg} {f : Tg} (hn : F.Nodup) (hf : f ∈ F) (hc : F.countP (ltT f) = n) : fl n F = f := by
  obtain ⟨i, hi, hi2⟩ := List.getElem_of_mem ((sortD_perm F).mem_iff.2 hf)
  have hs : (sortD F)[i]? = some f := by rw [List.getElem?_eq_getElem hi, hi2]
  have := at_cnt (sortD_st hn) hs
  rw [(sortD_perm F).countP_eq, hc] at this
  subst this
  unfold fl
  rw [hs]
  rfl
theorem fl_zero {n : Nat} {F : List Tg} (h : F.length ≤ n) : fl n F = (0, 0) := by
  unfold fl
  rw [List.getElem?_eq_none (by rw [(sortD_perm F).length_eq]; exact h)]
  rfl
theorem fl_ext {n : Nat} {F G : List Tg} (h : F.Perm G) : fl n F = fl n G := by unfold fl; rw [sortD_ext h]
def Pos (F : List Tg) : Prop := ∀ t ∈ F, ltT (0, 0) t = true
theorem erase_cnt {F : List Tg} {f : Tg} (hf : f ∈ F) (p : Tg → Bool) : F.countP p = (F.erase f).countP p + if p f then 1 else 0 := by
  rw [(List.perm_cons_erase hf).countP_eq, List.countP_cons]
theorem fl_mono {n : Nat} {F : List Tg} {g : Tg} (hn : F.Nodup) (hg : g ∉ F) (hp : Pos (g :: F)) : ltT (fl n (g :: F)) (fl n F) = false := by
  have hn' : (g :: F).Nodup := List.nodup_cons.2 ⟨hg, hn⟩
  rcases fl_spec (n := n) hn with ⟨_, h0⟩ | ⟨hf, hc⟩
  · rw [h0]
    rcases fl_spec (n := n) hn' with ⟨_, h1⟩ | ⟨h1, _⟩
    · rw [h1]; rfl
    · exact ltT_asymm (hp _ h1)
  · cases hlt : ltT (fl n (g :: F)) (fl n F) with
    | false => rfl
    | true =>
      exfalso
      rcases fl_spec (n := n) hn' with ⟨h1, _⟩ | ⟨_, h2⟩
      · have : F.countP (ltT (fl n F)) < F.length := by
          have h3 := erase_cnt hf (ltT (fl n F))
          rw [ltT_irrefl] at h3
          have h4 := List.countP_le_length (p := ltT (fl n F)) (l := F.erase (fl n F))
          have h5 := List.length_erase_of_mem hf
          have h6 : 0 < F.length := List.length_pos_of_mem hf
          simp at h3
          omega
        simp at h1
        omega
      · have h3 := erase_cnt hf (ltT (fl n F))
        have h4 := erase_cnt hf (ltT (fl n (g :: F)))
        rw [ltT_irrefl] at h3
        rw [hlt] at h4
        simp only [Bool.false_eq_true, if_false, if_true] at h3 h4
        have h5 : (F.erase (fl n F)).countP (ltT (fl n F)) ≤ (F.erase (fl n F)).countP (ltT (fl n (g :: F))) := List.countP_mono_left fun x _ hx => ltT_trans hlt hx
        rw [List.countP_cons] at h2
        split at h2 <;> omega
theorem fl_below {n : Nat} {F : List Tg} {g : Tg} (hn : F.Nodup) (hg0 : ltT (0, 0) g = true) (hg : ltT g (fl n F) = true) : g ∉ F → fl n (g :: F) = fl n F := fun hgF => by
  have hn' : (g :: F).Nodup := List.nodup_cons.2 ⟨hgF, hn⟩
  rcases fl_spec (n := n) hn with ⟨_, h0⟩ | ⟨hf, hc⟩
  · rw [h0, ltT_asymm hg0] at hg; cases hg
  · refine fl_eq hn' (List.mem_cons_of_mem _ hf) ?_
    rw [List.countP_cons, hc, ltT_asymm hg]
    simp
def cut (n : Nat) (F : List Tg) : List Tg := F.filter fun t => !ltT t (fl n F)
theorem fl_cut {n : Nat} {F : List Tg} (hn : F.Nodup) : fl n (cut n F) = fl n F := by
  have hn' : (cut n F).Nodup := hn.sublist List.filter_sublist
  rcases fl_spec (n := n) hn with ⟨h1, h0⟩ | ⟨hf, hc⟩
  · rw [fl_zero (F := cut n F) (Nat.le_trans (List.length_filter_le _ _) h1), h0]
  · refine fl_eq hn' (List.mem_filter.2 ⟨hf, by rw [ltT_irrefl]; rfl⟩) ?_
    unfold cut
    rw [List.countP_filter]
    refine Eq.trans (List.countP_congr fun x _ => ?_) hc
    cases h : ltT (fl n F) x with
    | false => simp
    | true => simp [ltT_asymm h]
theorem cut_len {n : Nat} {F : List Tg} (hn : F.Nodup) : (cut n F).length ≤ n + 1 := by
  unfold cut
  rw [← List.countP_eq_length_filter]
  rcases fl_spec (n := n) hn with ⟨h1, h0⟩ | ⟨hf, hc⟩
  · have := List.countP_le_length (p := fun t => !ltT t (fl n F)) (l := F)
    omega
  · have h3 := erase_cnt hf (ltT (fl n F))
    rw [erase_cnt hf, ltT_irrefl]
    rw [ltT_irrefl] at h3
    simp only [Bool.false_eq_true, if_false, Bool.not_false, if_true] at h3 ⊢
    have : (F.erase (fl n F)).countP (fun t => !ltT t (fl n F)) = (F.erase (fl n F)).countP (ltT (fl n F)) := by
      refine List.countP_congr fun x hx => ?_
      have hne : x ≠ fl n F := fun e => by subst e; exact (List.Nodup.not_mem_erase hn) hx
      cases h : ltT (fl n F) x with
      | true => simp [ltT_asymm h]
      | false =>
        cases h2 : ltT x (fl n F) with
        | true => simp
        | false => exact absurd (ltT_total h2 h) hne
    omega
def top (F : List Tg) : Tg := (sortD F).head?.getD (0, 0)
theorem top_fl (F : List Tg) : top F = fl 0 F := by unfold top fl; rw [List.head?_eq_getElem?]
theorem top_cut {n : Nat} {F : List Tg} (hn : F.Nodup) (hp : Pos F) : top (cut n F) = top F := by
  rw [top_fl, top_fl]
  have hn' : (cut n F).Nodup := hn.sublist List.filter_sublist
  rcases fl_spec (n := 0) hn with ⟨h1, h0⟩ | ⟨hf, hc⟩
  · rw [fl_zero (F := cut n F) (Nat.le_trans (List.length_filter_le _ _) h1), h0]
  · have hge : ltT (fl 0 F) (fl n F) = false := by
      rcases fl_spec (n := n) hn with ⟨_, h0⟩ | ⟨hf', _⟩
      · rw [h0]; exact ltT_asymm (hp _ hf)
      · have := List.countP_eq_zero.1 hc _ hf'
        simpa using this
    refine fl_eq hn' (List.mem_filter.2 ⟨hf, by rw [hge]; rfl⟩) ?_
    have h2 := List.Sublist.countP_le (p := ltT (fl 0 F)) (List.filter_sublist (p := fun t => !ltT t (fl n F)) (l := F))
    unfold cut
    omega
end Go.Tab
