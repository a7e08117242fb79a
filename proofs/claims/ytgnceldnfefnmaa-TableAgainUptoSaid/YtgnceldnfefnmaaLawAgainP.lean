/-
  Plain laws for TableAgain: a table made again of its own updates.
-/
import Derived.Test.YtgnceldnfefnmaaLawTurns
import Derived.Test.YtgnceldnfefnmaaLawSix
namespace Go.Tab
open Go Go.Vc Go.Vc.Asn
/-- Which tags these updates finalize, which fragments they bring. -/
def feU (us : List Upt) : ByteArray → List Tg := us.foldl (fun f u => upd f u.key u.tag (endsB u)) fun _ => []
def heU (us : List Upt) : ByteArray → List Tg := us.foldl (fun f u => upd f u.key u.tag (comesB u)) fun _ => []
theorem feU_snoc (us : List Upt) (u : Upt) : feU (us ++ [u]) = upd (feU us) u.key u.tag (endsB u) := by unfold feU; rw [List.foldl_append]; rfl
theorem heU_snoc (us : List Upt) (u : Upt) : heU (us ++ [u]) = upd (heU us) u.key u.tag (comesB u) := by unfold heU; rw [List.foldl_append]; rfl
theorem mem_upd {f : ByteArray → List Tg} {k k' : ByteArray} {t t' : Tg} {b : Bool} : t' ∈ upd f k t b k' ↔ (b = true ∧ k = k' ∧ t = t') ∨ t' ∈ f k' := by
  unfold upd
  split
  · rename_i h
    rw [mem_ins]
    constructor
    · rintro (rfl | h2)
      · exact .inl ⟨h.1, h.2.symm, rfl⟩
      · exact .inr h2
    · rintro (h2 | h2)
      · exact .inl h2.2.2.symm
      · exact .inr h2
  · rename_i h
    constructor
    · exact .inr
    · rintro (h2 | h2)
      · exact absurd ⟨h2.1, h2.2.1.symm⟩ h
      · exact h2
theorem mem_feU {us : List Upt} {k : ByteArray} {t : Tg} : t ∈ feU us k ↔ ∃ u ∈ us, endsB u = true ∧ u.key = k ∧ u.tag = t := by
  revert k t
  refine snocRec (P := fun us => ∀ {k : ByteArray} {t : Tg}, t ∈ feU us k ↔ ∃ u ∈ us, endsB u = true ∧ u.key = k ∧ u.tag = t) (fun {k t} => by simp [feU]) (fun l m ih {k t} => ?_) us
  rw [feU_snoc, mem_upd, ih]
  simp only [List.mem_append, List.mem_singleton]
  constructor
  · rintro (h | ⟨u, hu, r⟩)
    · exact ⟨m, .inr rfl, h⟩
    · exact ⟨u, .inl hu, r⟩
  · rintro ⟨u, hu | rfl, r⟩
    · exact .inr ⟨u, hu, r⟩
    · exact .inl r
theorem mem_heU {us : List Upt} {k : ByteArray} {t : Tg} : t ∈ heU us k ↔ ∃ u ∈ us, comesB u = true ∧ u.key = k ∧ u.tag = t := by
  revert k t
  refine snocRec (P := fun us => ∀ {k : ByteArray} {t : Tg}, t ∈ heU us k ↔ ∃ u ∈ us, comesB u = true ∧ u.key = k ∧ u.tag = t) (fun {k t} => by simp [heU]) (fun l m ih {k t} => ?_) us
  rw [heU_snoc, mem_upd, ih]
  simp only [List.mem_append, List.mem_singleton]
  constructor
  · rintro (h | ⟨u, hu, r⟩)
    · exact ⟨m, .inr rfl, h⟩
    · exact ⟨u, .inl hu, r⟩
  · rintro ⟨u, hu | rfl, r⟩
    · exact .inr ⟨u, hu, r⟩
    · exact .inl r
theorem feU_len (us : List Upt) (k : ByteArray) : (feU us k).length ≤ us.length := by
  refine snocRec (P := fun us => (feU us k).length ≤ us.length) (by simp [feU]) (fun l m ih => ?_) us
  rw [feU_snoc, List.length_append]
  have := upd_len (feU l) m.key m.tag (endsB m) k
  simp only [List.length_cons, List.length_nil]
  omega
theorem heU_len (us : List Upt) (k : ByteArray) : (heU us k).length ≤ us.length := by
  refine snocRec (P := fun us => (heU us k).length ≤ us.length) (by simp [heU]) (fun l m ih => ?_) us
  rw [heU_snoc, List.length_append]
  have := upd_len (heU l) m.key m.tag (comesB m) k
  simp only [List.length_cons, List.length_nil]
  omega
/-- A part's floor isn't above the whole's. -/
theorem fl_sub {n : Nat} {A F : List Tg} (ha : A.Nodup) (hf : F.Nodup) (hs : ∀ t ∈ A, t ∈ F) (hp : Pos F) : ltT (fl n F) (fl n A) = false := by
  rcases fl_spec (n := n) ha with ⟨_, h0⟩ | ⟨hm, hc⟩
  · rw [h0]
    rcases fl_spec (n := n) hf with ⟨_, h1⟩ | ⟨h1, _⟩
    · rw [h1]; rfl
    · exact ltT_asymm (hp _ h1)
  · cases hlt : ltT (fl n F) (fl n A) with
    | false => rfl
    | true =>
      exfalso
      have h3 := erase_cnt hm (ltT (fl n A))
      have h4 := erase_cnt hm (ltT (fl n F))
      rw [ltT_irrefl] at h3
      rw [hlt] at h4
      simp only [Bool.false_eq_true, if_false, if_true] at h3 h4
      have h5 : (A.erase (fl n A)).countP (ltT (fl n A)) ≤ (A.erase (fl n A)).countP (ltT (fl n F)) := List.countP_mono_left fun x _ hx => ltT_trans hlt hx
      have h6 : A.countP (ltT (fl n F)) ≤ F.countP (ltT (fl n F)) := by
        rw [List.countP_eq_length_filter, List.countP_eq_length_filter]
        exact nodup_len (ha.sublist List.filter_sublist) fun x hx => List.mem_filter.2 ⟨hs x (List.mem_filter.1 hx).1, (List.mem_filter.1 hx).2⟩
      rcases fl_spec (n := n) hf with ⟨h1, _⟩ | ⟨_, h2⟩
      · have := List.countP_le_length (p := ltT (fl n F)) (l := F)
        omega
      · omega
/-- What is told of a table whose sets are those cut. -/
theorem listC_cut {n : Nat} {D : Tg → List UInt8} {FE HE A B : List Tg} (hf : FE.Nodup) (ha : A.Nodup) (h1 : ∀ t, t ∈ A ↔ t ∈ FE ∧ ltT t (fl n FE) = false) (h2 : ∀ t, t ∈ B ↔ t ∈ HE ∧ ltT t (fl n FE) = false) : listC n D A B = listC n D FE HE := by
  have hp : A.Perm (cut n FE) := (List.perm_ext_iff_of_nodup ha (hf.sublist List.filter_sublist)).2 fun t => by
    rw [h1, List.mem_filter, Bool.not_eq_true']
  have hfl : fl n A = fl n FE := by rw [fl_ext hp, fl_cut hf]
  have ht : (tagsC n A B).Perm (tagsC n FE HE) := (List.perm_ext_iff_of_nodup ((uni_nodup ha B).sublist List.filter_sublist) ((uni_nodup hf HE).sublist List.filter_sublist)).2 fun t => by
    rw [List.mem_filter, List.mem_filter, mem_uni, mem_uni, h1, h2, hfl, Bool.not_eq_true']
    constructor
    · rintro ⟨h | h, h3⟩
      · exact ⟨.inl h.1, h3⟩
      · exact ⟨.inr h.1, h3⟩
    · rintro ⟨h | h, h3⟩
      · exact ⟨.inl ⟨h, h3⟩, h3⟩
      · exact ⟨.inr ⟨h, h3⟩, h3⟩
  unfold listC
  rw [sortU_ext ht]
  refine List.map_congr_left fun t hm => ?_
  have hlt : ltT t (fl n FE) = false := by
    have := (List.mem_filter.1 ((sortU_perm _).mem_iff.1 hm)).2
    simpa using this
  unfold enC
  simp only [h1, h2, hlt, and_true]
namespace TbOk
variable {n : Nat} {D : ByteArray → Tg → List UInt8} {FE HE A B : ByteArray → List Tg} {T T' : Tc}
theorem all_of (h : TbOk n D FE HE T) (h' : TbOk n D A B T') (e : ∀ k, listS (T.sh k) = listS (T'.sh k)) : allS T = allS T' := by
  have hp : (T.keys.map (·.1)).Perm (T'.keys.map (·.1)) := (List.perm_ext_iff_of_nodup h.keys h'.keys).2 fun k => by
    rw [h.key_iff, h'.key_iff, h.list_ne, h'.list_ne, e]
  unfold allS
  rw [sortK_ext hp]
  exact List.map_congr_left fun k _ => by rw [e]
theorem all_cut (h : TbOk n D FE HE T) (h' : TbOk n D A B T') (h1 : ∀ k t, t ∈ A k ↔ t ∈ FE k ∧ ltT t (fl n (FE k)) = false) (h2 : ∀ k t, t ∈ B k ↔ t ∈ HE k ∧ ltT t (fl n (FE k)) = false) : allS T' = allS T :=
  all_of h' h fun k => by rw [h'.list, h.list]; exact listC_cut (h.fe k).1 (h'.fe k).1 (h1 k) (h2 k)
/-- An update of those that make a table again. -/
structure Own (n : Nat) (D : ByteArray → Tg → List UInt8) (FE HE : ByteArray → List Tg) (u : Upt) : Prop where
  kind : u.kind = 3
  fin : u.fin = decide (u.tag ∈ FE u.key)
  has : u.has = decide (u.tag ∈ HE u.key)
  data : u.data = if u.tag ∈ HE u.key then D u.key u.tag else []
  some : u.tag ∈ FE u.key ∨ u.tag ∈ HE u.key
  above : ltT u.tag (fl n (FE u.key)) = false
theorem own_of (h : TbOk n D FE HE T) {us : List Upt} (he : us.map Upt.abs = updL (allS T)) {u : Upt} (hu : u ∈ us) : Own n D FE HE u := by
  have h1 : u.abs ∈ updL (allS T) := he ▸ List.mem_map_of_mem hu
  obtain ⟨x, hx, hy⟩ := List.mem_flatMap.1 h1
  have h2 := all_at hx
  rw [h2, h.list] at hy
  obtain ⟨e, he2, he3⟩ := List.mem_map.1 hy
  obtain ⟨t, ht, rfl⟩ := List.mem_map.1 he2
  have ht := List.mem_filter.1 ((sortU_perm _).mem_iff.1 ht)
  have e1 : (3 : Int) = u.kind := congrArg Ua.kind he3
  have e2 : x.1 = u.key := congrArg Ua.key he3
  have e3 : enC (D x.1) (FE x.1) (HE x.1) t = ⟨u.tag, u.fin, u.has, u.data⟩ := congrArg Ua.en he3
  rw [e2] at e3 ht
  have e4 : t = u.tag := congrArg En.tag e3
  subst e4
  refine ⟨e1.symm, (congrArg En.fin e3).symm, (congrArg En.has e3).symm, (congrArg En.data e3).symm, mem_uni.1 ht.1, ?_⟩
  simpa using ht.2
theorem own_ex (h : TbOk n D FE HE T) {us : List Upt} (he : us.map Upt.abs = updL (allS T)) {k : ByteArray} {t : Tg} (ht : t ∈ FE k ∨ t ∈ HE k) (hl : ltT t (fl n (FE k)) = false) : ∃ u ∈ us, u.key = k ∧ u.tag = t := by
  have hm : enC (D k) (FE k) (HE k) t ∈ listS (T.sh k) := by
    rw [h.list]
    exact List.mem_map_of_mem ((sortU_perm _).mem_iff.2 (List.mem_filter.2 ⟨mem_uni.2 ht, by rw [hl]; rfl⟩))
  have hne : T.sh k ≠ [] := (h.list_ne k).2 fun e => by rw [e] at hm; cases hm
  have h1 : (⟨3, k, enC (D k) (FE k) (HE k) t⟩ : Ua) ∈ updL (allS T) := List.mem_flatMap.2 ⟨_, h.all_get hne, List.mem_map_of_mem hm⟩
  rw [← he] at h1
  obtain ⟨u, hu, e⟩ := List.mem_map.1 h1
  exact ⟨u, hu, congrArg Ua.key e, congrArg (fun x : Ua => x.en.tag) e⟩
theorem own_nodup (h : TbOk n D FE HE T) {us : List Upt} (he : us.map Upt.abs = updL (allS T)) : (us.map fun u => (u.key, u.tag)).Nodup := by
  have e1 : (us.map fun u => (u.key, u.tag)) = (updL (allS T)).map fun a => (a.key, a.en.tag) := by rw [← he, List.map_map]; rfl
  have e2 : (updL (allS T)).map (fun a => (a.key, a.en.tag)) = (sortK (T.keys.map (·.1))).flatMap fun k => (listS (T.sh k)).map fun e => (k, e.tag) := by
    unfold updL allS
    rw [List.flatMap_map, List.map_flatMap]
    congr 1
    funext k
    rw [List.map_map]
    rfl
  rw [e1, e2]
  show List.Pairwise (· ≠ ·) _
  rw [List.pairwise_flatMap]
  constructor
  · intro k _
    rw [List.pairwise_map]
    have h1 : ((listS (T.sh k)).map (·.tag)).Pairwise (· ≠ ·) := by
      rw [h.list]
      unfold listC
      rw [List.map_map]
      show (List.map id _).Pairwise _
      rw [List.map_id]
      exact (sortU_perm _).nodup_iff.2 ((uni_nodup (h.fe k).1 _).sublist List.filter_sublist)
    rw [List.pairwise_map] at h1
    exact h1.imp fun hne e => hne (congrArg Prod.snd e)
  · have h1 : (sortK (T.keys.map (·.1))).Nodup := (sortK_perm _).nodup_iff.2 h.keys
    refine List.Pairwise.imp (fun {a b} hab => ?_) h1
    intro x hx y hy e
    obtain ⟨_, _, rfl⟩ := List.mem_map.1 hx
    obtain ⟨_, _, rfl⟩ := List.mem_map.1 hy
    exact hab (congrArg Prod.fst e)
end TbOk
namespace TbOk
variable {n : Nat} {D : ByteArray → Tg → List UInt8} {FE HE : ByteArray → List Tg} {T : Tc}
theorem Own.ends {u : Upt} (h : Own n D FE HE u) : endsB u = decide (u.tag ∈ FE u.key) := by unfold endsB; rw [h.kind, h.fin]; simp
theorem Own.comes {u : Upt} (h : Own n D FE HE u) : comesB u = decide (u.tag ∈ HE u.key) := by unfold comesB; rw [h.kind, h.has]; simp
/-- The sets of all of them, however often. -/
theorem own_fe (h : TbOk n D FE HE T) {us os : List Upt} (he : us.map Upt.abs = updL (allS T)) (hs : ∀ u, u ∈ os ↔ u ∈ us) (k : ByteArray) (t : Tg) : t ∈ feU os k ↔ t ∈ FE k ∧ ltT t (fl n (FE k)) = false := by
  rw [mem_feU]
  constructor
  · rintro ⟨u, hu, h1, rfl, rfl⟩
    have h2 := h.own_of he ((hs u).1 hu)
    rw [h2.ends] at h1
    exact ⟨by simpa using h1, h2.above⟩
  · rintro ⟨h1, h2⟩
    obtain ⟨u, hu, rfl, rfl⟩ := h.own_ex he (.inl h1) h2
    exact ⟨u, (hs u).2 hu, by rw [(h.own_of he hu).ends]; simpa using h1, rfl, rfl⟩
theorem own_he (h : TbOk n D FE HE T) {us os : List Upt} (he : us.map Upt.abs = updL (allS T)) (hs : ∀ u, u ∈ os ↔ u ∈ us) (k : ByteArray) (t : Tg) : t ∈ heU os k ↔ t ∈ HE k ∧ ltT t (fl n (FE k)) = false := by
  rw [mem_heU]
  constructor
  · rintro ⟨u, hu, h1, rfl, rfl⟩
    have h2 := h.own_of he ((hs u).1 hu)
    rw [h2.comes] at h1
    exact ⟨by simpa using h1, h2.above⟩
  · rintro ⟨h1, h2⟩
    obtain ⟨u, hu, rfl, rfl⟩ := h.own_ex he (.inr h1) h2
    exact ⟨u, (hs u).2 hu, by rw [(h.own_of he hu).comes]; simpa using h1, rfl, rfl⟩
/-- One that comes for the first time, is done. -/
theorem own_does (h : TbOk n D FE HE T) {us : List Upt} (he : us.map Upt.abs = updL (allS T)) {j : Nat} (hj : j < us.length) (hnd : (feU (us.take j) us[j].key).Nodup) :
    (!ltT us[j].tag (fl n (feU (us.take j) us[j].key)) && ((comesB us[j] && !decide (us[j].tag ∈ heU (us.take j) us[j].key)) || (endsB us[j] && !decide (us[j].tag ∈ feU (us.take j) us[j].key)))) = true := by
  have ho := h.own_of he (List.getElem_mem hj)
  have hno : ∀ u ∈ us.take j, ¬ (u.key = us[j].key ∧ u.tag = us[j].tag) := fun u hu ⟨h1, h2⟩ => by
    obtain ⟨i, hi, rfl⟩ := List.getElem_of_mem hu
    rw [List.length_take] at hi
    rw [List.getElem_take] at h1 h2
    have := List.pairwise_iff_getElem.1 (h.own_nodup he) i j (by simp; omega) (by simpa using hj) (by omega)
    simp only [List.getElem_map] at this
    exact this (Prod.ext h1 h2)
  have h1 : us[j].tag ∉ feU (us.take j) us[j].key := fun hm => by obtain ⟨u, hu, _, r⟩ := mem_feU.1 hm; exact hno u hu r
  have h2 : us[j].tag ∉ heU (us.take j) us[j].key := fun hm => by obtain ⟨u, hu, _, r⟩ := mem_heU.1 hm; exact hno u hu r
  have h3 : ltT us[j].tag (fl n (feU (us.take j) us[j].key)) = false := ltT_ntrans ho.above (fl_sub hnd (h.fe _).1 (fun t ht => by
    obtain ⟨u, hu, h3, h4, h5⟩ := mem_feU.1 ht
    have h6 := h.own_of he (List.mem_of_mem_take hu)
    rw [h6.ends, h4, h5] at h3
    simpa using h3) (h.fe _).2)
  rw [h3, ho.comes, ho.ends]
  rcases ho.some with h4 | h4
  · simp [h1, h4]
  · simp [h2, h4]
end TbOk
/-- An update of a table after moves. -/
structure Mine (u : Upt) : Prop where
  may : mayB u = true
  pos : ltT (0, 0) u.tag = true
  data : comesB u = true → u.data = DB u.key u.tag
  len : u.data.length ≤ 70
theorem mine_of {n : Nat} {ms : List Mv} {u : Upt} (h : TbOk.Own n DB (feS ms) (heS ms) u) : Mine u := by
  have hm : ∃ m : Mv, keyB m.key = u.key ∧ m.tag = u.tag := by
    rcases h.some with h1 | h1
    · obtain ⟨m, _, _, e⟩ := mem_feS.1 h1; exact ⟨m, e⟩
    · obtain ⟨m, _, _, e⟩ := mem_heS.1 h1; exact ⟨m, e⟩
  obtain ⟨m, e1, e2⟩ := hm
  have hk := key_ne m.key
  rw [e1] at hk
  have hp := m.proper
  rw [e2] at hp
  have hd : u.data.length ≤ 70 := by
    rw [h.data]
    split
    · exact DB_len _ _
    · exact Nat.zero_le _
  refine ⟨?_, by rw [← e2]; exact m.pos, fun hc => ?_, hd⟩
  · unfold mayB
    rw [key_ok hk.1, hp, h.kind, h.fin, h.has]
    have h64 : ¬ 64 < u.key.size := by omega
    have h65 : ¬ 65540 < u.data.length := by omega
    by_cases hh : u.tag ∈ heS ms u.key
    · simp [h64, h65, hh]
    · have hf : u.tag ∈ feS ms u.key := h.some.resolve_right hh
      have hd0 : u.data = [] := by rw [h.data, if_neg hh]
      simp [h64, hd0, hf]
  · rw [h.comes] at hc
    rw [h.data, if_pos (by simpa using hc)]
end Go.Tab
