/-
  Fragments of a value, joined. A plain text over what Join answers.
-/
import Derived.Test.YteoeboeaanjehaaDoorStrJ
namespace Go.Gf
theorem nodup_len : ∀ (n : Nat) (l : List Nat), (∀ i, i < n → i ∈ l) → n ≤ l.length
  | 0, _, _ => Nat.zero_le _
  | n + 1, l, h => by
    have h1 := nodup_len n (l.erase n) fun i hi => (List.mem_erase_of_ne (by omega)).2 (h i (by omega))
    have h2 := List.length_erase_of_mem (h n (by omega))
    have h3 := List.length_pos_of_mem (h n (by omega))
    omega
end Go.Gf
namespace Go.Proofs.YteoeboeaanjehaaDoor
open Go Go.Vc Go.Vc.Asn Go.Gf
section
variable {n k l l' : Nat} {R D D' : List (List UInt8)} {ps : List Pt} {v : List UInt8}
/-- Parts whose indexes are unlike and below n. -/
structure Fine (n : Nat) (ps : List Pt) : Prop where
  ix : ∀ p ∈ ps, 0 ≤ p.ix ∧ p.ix < (n : Int)
  nd : (ps.map (·.ix)).Nodup
theorem agrees_uniq (hG : Gen n k R) (hn : n ≤ 255) (hk : 1 ≤ k) (hkn : k ≤ n) (hF : Fine n ps) (hl : k ≤ ps.length) (hD : Shp D k l) (hD' : Shp D' k l') (hA : Agrees R D l (prs ps)) (hA' : Agrees R D' l' (prs ps)) : l' = l ∧ D' = D := by
  have hA1 : ∀ i (hi : i < ps.length), lin (R.getD ps[i].ix.toNat []) D l = ps[i].bs := fun i hi => hA (ps[i].ix.toNat, ps[i].bs) (List.mem_map_of_mem (List.getElem_mem hi))
  have hA2 : ∀ i (hi : i < ps.length), lin (R.getD ps[i].ix.toNat []) D' l' = ps[i].bs := fun i hi => hA' (ps[i].ix.toNat, ps[i].bs) (List.mem_map_of_mem (List.getElem_mem hi))
  have e : l' = l := by
    have h1 := congrArg List.length (hA1 0 (by omega))
    have h2 := congrArg List.length (hA2 0 (by omega))
    rw [lin_len] at h1 h2
    omega
  subst e
  refine ⟨rfl, ent_ext hD' hD fun i j hi hj => ?_⟩
  have hT := hG.any hn hkn (fun i => (ps.getD i ⟨0, Slc.nil, []⟩).ix.toNat) (fun i hi => by
      rw [List.getD_eq_getElem?_getD (l := ps), List.getElem?_eq_getElem (by omega)]
      have := hF.ix _ (List.getElem_mem (show i < ps.length by omega))
      show (ps[i]'(by omega)).ix.toNat < n
      omega) (fun i i' hi hi' e => by
      simp only [List.getD_eq_getElem?_getD] at e
      rw [List.getElem?_eq_getElem (show i < ps.length by omega), List.getElem?_eq_getElem (show i' < ps.length by omega)] at e
      simp only [Option.getD_some] at e
      have h1 := hF.ix _ (List.getElem_mem (show i < ps.length by omega))
      have h2 := hF.ix _ (List.getElem_mem (show i' < ps.length by omega))
      refine (List.getElem_inj (xs := ps.map (·.ix)) (h₀ := by rw [List.length_map]; omega) (h₁ := by rw [List.length_map]; omega) hF.nd).1 ?_
      rw [List.getElem_map, List.getElem_map]
      omega)
  have h0 := hT (fun c => ent D' c j ^^^ ent D c j) (fun i hi => by
    have hi' : i < ps.length := by omega
    have e1 := congrArg (fun x : List UInt8 => x.getD j 0) (hA1 i hi')
    have e2 := congrArg (fun x : List UInt8 => x.getD j 0) (hA2 i hi')
    simp only [lin_at _ _ hj, hD.len, hD'.len] at e1 e2
    have hx : ∀ c, (R.getD ((ps.getD i ⟨0, Slc.nil, []⟩).ix.toNat) []).getD c 0 = ent R ((ps.getD i ⟨0, Slc.nil, []⟩).ix.toNat) c := fun c => rfl
    have hp : ps.getD i ⟨0, Slc.nil, []⟩ = ps[i] := by rw [List.getD_eq_getElem?_getD, List.getElem?_eq_getElem hi']; rfl
    rw [← hp] at e1 e2
    have hsum : dot k (ent R ((ps.getD i ⟨0, Slc.nil, []⟩).ix.toNat)) (fun c => ent D' c j ^^^ ent D c j) = dot k (fun x => (R.getD ((ps.getD i ⟨0, Slc.nil, []⟩).ix.toNat) []).getD x 0) (fun x => ent D' x j) ^^^ dot k (fun x => (R.getD ((ps.getD i ⟨0, Slc.nil, []⟩).ix.toNat) []).getD x 0) (fun x => ent D x j) := by
      unfold dot
      rw [← sumX_add]
      exact sumX_congr fun c _ => mul_add _ _ _
    rw [hsum, e1, e2, add_self]) i hi
  exact eq_of_add h0
theorem fine_refused (hF : Fine n ps) (hb : ∀ p ∈ ps, p.bs.length = l) : refusedV n k ps = if ps.length < k then 20 else 0 := by
  unfold refusedV
  rw [if_neg fun ⟨p, hp, h⟩ => by have := hF.ix p hp; omega, if_neg fun h => h hF.nd, if_neg]
  rintro ⟨p, hp, h⟩
  apply h
  rw [hb p hp]
  cases ps with
  | nil => cases hp
  | cons a r => exact (hb a List.mem_cons_self).symm
/-- Parts that are fragments of a value. -/
def Frags (n k : Nat) (R : List (List UInt8)) (v : List UInt8) (ps : List Pt) : Prop := Fine n ps ∧ ∀ p ∈ ps, p.bs = lin (R.getD p.ix.toNat []) (cutV v k) (sizeN v.length k)
theorem Frags.len (h : Frags n k R v ps) : ∀ p ∈ ps, p.bs.length = sizeN v.length k := fun p hp => by rw [h.2 p hp, lin_len]
theorem Frags.agrees (h : Frags n k R v ps) : Agrees R (cutV v k) (sizeN v.length k) (prs ps) := fun pr hpr => by
  obtain ⟨p, hp, rfl⟩ := List.mem_map.1 hpr
  exact (h.2 p hp).symm
theorem join_few {w w' : World} {x : Value} (h : Frags n k R v ps) (hl : ps.length < k) (hJ : JoinPost n k R ps w x w') : x = .tuple #[Slc.nil.v, .int .i64 20] ∧ Fr [] w w' := by
  have hr := fine_refused (k := k) h.1 h.len
  rw [if_pos hl] at hr
  rcases hJ with ⟨e, h0, rfl, hE, f⟩ | ⟨o, D, l, y, rfl, h0, _⟩
  · rcases hE with ⟨_, h2⟩ | ⟨h2, _⟩ | ⟨h2, _⟩
    · rw [h2, hr]; exact ⟨rfl, f⟩
    · rw [hr] at h2; simp at h2
    · rw [hr] at h2; simp at h2
  · rw [hr] at h0; simp at h0
theorem join_all {w w' : World} {x : Value} (hG : Gen n k R) (hn : n ≤ 255) (hk : 1 ≤ k) (hkn : k ≤ n) (hv : v.length ≤ 65536) (h : Frags n k R v ps) (hl : k ≤ ps.length) (hJ : JoinPost n k R ps w x w') :
    ∃ o, x = .tuple #[Slc.v o, .int .i64 0] ∧ Hp w w' (star (own Ty_uint8 1 o (v.map u8v)) emp) := by
  have hr := fine_refused (k := k) h.1 h.len
  rw [if_neg (by omega)] at hr
  have hS := cutV_shp v hk
  rcases hJ with ⟨e, h0, rfl, hE, f⟩ | ⟨o, D, l, y, rfl, h0, hD, hpl, hA, hW, H⟩
  · exfalso
    rcases hE with ⟨h1, _⟩ | ⟨_, _, h2⟩ | ⟨_, D, l, hD, _, hA, hW⟩
    · exact h1 hr
    · exact h2 _ _ hS h.agrees
    · obtain ⟨rfl, rfl⟩ := agrees_uniq hG hn hk hkn h.1 hl hS hD h.agrees hA
      rw [wholeV_cut hk hv] at hW
      cases hW
  · obtain ⟨rfl, rfl⟩ := agrees_uniq hG hn hk hkn h.1 hl hS hD h.agrees hA
    rw [wholeV_cut hk hv] at hW
    injection hW with hW
    subst hW
    exact ⟨o, rfl, H⟩
end
end Go.Proofs.YteoeboeaanjehaaDoor
