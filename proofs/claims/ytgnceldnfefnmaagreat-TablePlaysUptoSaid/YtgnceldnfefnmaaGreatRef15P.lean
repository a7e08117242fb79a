/-
  The document's table: its rows as shelves. Nothing runs here.
-/
import Derived.Test.YtgnceldnfefnmaaGreatTableCopy
import Derived.Test.YtgnceldnfefnmaaGreatTableUpd
namespace Go.Tab
open Go Go.Vc
structure Rw where
  key : ByteArray
  e : Ec
def Rw.c (r : Rw) : List Value := [.string r.key, .int .i64 r.e.tag.1, .int .i64 r.e.tag.2, .bool r.e.fin, .bool r.e.has, r.e.s.v]
structure Rf where
  delta : Int
  s : Slc
  rows : List Rw
def rsh (rows : List Rw) (k : ByteArray) : Sc := (rows.filter fun r => decide (r.key = k)).map fun r => (r.e.tag, r.e)
theorem rsh_cons (r : Rw) (l : List Rw) (k : ByteArray) : rsh (r :: l) k = if r.key = k then (r.e.tag, r.e) :: rsh l k else rsh l k := by
  unfold rsh
  rw [List.filter_cons]
  by_cases h : r.key = k <;> simp [h]
theorem rsh_append (a b : List Rw) (k : ByteArray) : rsh (a ++ b) k = rsh a k ++ rsh b k := by unfold rsh; rw [List.filter_append, List.map_append]
theorem rsh_one (r : Rw) (k : ByteArray) : rsh [r] k = if r.key = k then [(r.e.tag, r.e)] else [] := by rw [rsh_cons]; rfl
theorem rsh_len (l : List Rw) (k : ByteArray) : (rsh l k).length ≤ l.length := by unfold rsh; rw [List.length_map]; exact List.length_filter_le _ _
theorem rsh_tag {l : List Rw} {k : ByteArray} {x : Tg × Ec} (h : x ∈ rsh l k) : x.2.tag = x.1 ∧ (⟨k, x.2⟩ : Rw) ∈ l := by
  unfold rsh at h
  obtain ⟨r, hr, rfl⟩ := List.mem_map.1 h
  have h2 := List.mem_filter.1 hr
  have h3 : r.key = k := by simpa using h2.2
  subst h3
  exact ⟨rfl, h2.1⟩
theorem rsh_mem {l : List Rw} {r : Rw} (h : r ∈ l) : (r.e.tag, r.e) ∈ rsh l r.key := by
  unfold rsh
  exact List.mem_map_of_mem (f := fun r : Rw => (r.e.tag, r.e)) (List.mem_filter.2 ⟨h, by simp⟩)
theorem rsh_new {l : List Rw} {k k' : ByteArray} {e : Ec} (hn : e.tag ∉ (rsh l k).map (·.1)) : rsh (l ++ [⟨k, e⟩]) k' = if k' = k then lput (rsh l k) e.tag e else rsh l k' := by
  rw [rsh_append, rsh_one]
  by_cases h : k' = k
  · subst h
    rw [if_pos rfl, if_pos rfl]
    unfold lput
    rw [if_neg hn]
  · rw [if_neg h, if_neg (fun e => h e.symm), List.append_nil]
theorem map_noop {l : Sc} {t : Tg} {e : Ec} (hn : t ∉ l.map (·.1)) : l.map (fun x => if x.1 = t then (x.1, e) else x) = l := by
  conv => rhs; rw [← List.map_id l]
  refine List.map_congr_left fun x hx => ?_
  have : x.1 ≠ t := fun e => hn (e ▸ List.mem_map_of_mem (f := (·.1)) hx)
  simp [this]
theorem rsh_set {k k' : ByteArray} {e : Ec} : ∀ {l : List Rw} {i : Nat} {r : Rw}, l[i]? = some r → r.key = k → r.e.tag = e.tag → ((rsh l k).map (·.1)).Nodup → rsh (l.set i ⟨k, e⟩) k' = if k' = k then lput (rsh l k) e.tag e else rsh l k'
  | [], i, r, h, _, _, _ => by simp at h
  | r0 :: l, 0, r, h, h1, h2, h3 => by
    simp at h
    subst h
    rw [List.set_cons_zero, rsh_cons]
    by_cases hk : k' = k
    · subst hk
      rw [if_pos rfl, if_pos rfl]
      rw [rsh_cons, if_pos h1] at h3 ⊢
      simp only [List.map_cons, List.nodup_cons] at h3
      unfold lput
      rw [if_pos (by simp [h2]), List.map_cons, if_pos h2, map_noop (h2 ▸ h3.1), h2]
    · rw [if_neg (fun e => hk e.symm), if_neg hk, rsh_cons, if_neg (fun e => hk (e.symm.trans h1))]
  | r0 :: l, i + 1, r, h, h1, h2, h3 => by
    simp at h
    have hr : r ∈ l := List.mem_of_getElem? h
    rw [List.set_cons_succ, rsh_cons]
    by_cases hk : k' = k
    · subst hk
      rw [if_pos rfl]
      rw [rsh_cons] at h3 ⊢
      by_cases h0 : r0.key = k'
      · rw [if_pos h0] at h3 ⊢
        rw [if_pos h0]
        simp only [List.map_cons, List.nodup_cons] at h3
        have hm : e.tag ∈ (rsh l k').map (·.1) := by
          have := List.mem_map_of_mem (f := (·.1)) (rsh_mem hr)
          rw [h1] at this
          rw [← h2]
          exact this
        have hne : r0.e.tag ≠ e.tag := fun e2 => h3.1 (e2 ▸ hm)
        have ih := rsh_set (k' := k') h h1 h2 h3.2
        rw [if_pos rfl] at ih
        rw [ih]
        unfold lput
        rw [if_pos hm, if_pos (by simp only [List.map_cons, List.mem_cons]; exact .inr hm), List.map_cons, if_neg hne]
      · rw [if_neg h0] at h3 ⊢
        rw [if_neg h0]
        have ih := rsh_set (k' := k') h h1 h2 h3
        rw [if_pos rfl] at ih
        exact ih
    · rw [if_neg hk, rsh_cons]
      have h4 : ((rsh l k).map (·.1)).Nodup := by
        rw [rsh_cons] at h3
        split at h3
        · simp only [List.map_cons, List.nodup_cons] at h3; exact h3.2
        · exact h3
      have ih := rsh_set (k' := k') h h1 h2 h4
      rw [if_neg hk] at ih
      rw [ih]
theorem rsh_filter {l : List Rw} {k k' : ByteArray} {p : Tg → Bool} : rsh (l.filter fun r => !decide (r.key = k) || p r.e.tag) k' = if k' = k then (rsh l k).filter fun x => p x.1 else rsh l k' := by
  induction l with
  | nil => simp [rsh]
  | cons r l ih =>
    rw [List.filter_cons]
    by_cases hr : r.key = k
    · subst hr
      by_cases hp : p r.e.tag = true
      · simp only [decide_true, Bool.not_true, Bool.false_or, hp, if_true, rsh_cons, ih]
        by_cases hk : k' = r.key
        · subst hk; simp [hp]
        · have hk2 : ¬ r.key = k' := fun e => hk e.symm
          simp [hk, hk2]
      · simp only [decide_true, Bool.not_true, Bool.false_or, hp, if_false, rsh_cons, ih, Bool.false_eq_true]
        by_cases hk : k' = r.key
        · subst hk; simp [hp]
        · have hk2 : ¬ r.key = k' := fun e => hk e.symm
          simp [hk, hk2]
    · have hr' : (!decide (r.key = k) || p r.e.tag) = true := by simp [hr]
      rw [if_pos hr', rsh_cons, ih]
      by_cases hk : k' = k
      · subst hk
        rw [if_neg hr, if_pos rfl, if_pos rfl, rsh_cons, if_neg hr]
      · rw [if_neg hk, if_neg hk, rsh_cons]
structure Sim (R : Rf) (T : Tc) : Prop where
  delta : T.delta = R.delta
  sh : ∀ k, T.sh k = rsh R.rows k
end Go.Tab
