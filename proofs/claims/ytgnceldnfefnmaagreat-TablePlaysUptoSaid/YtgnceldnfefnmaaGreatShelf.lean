/-
  Contracts of a shelf's finalized tags and of its floor.
-/
import Derived.Test.YtgnceldnfefnmaaGreatTag
import Derived.Test.YtgnceldnfefnmaaGreatSortLay
namespace Go.Tab
open Go Go.Vc Go.Vc.Asn
structure Ec where
  tag : Tg
  fin : Bool
  has : Bool
  s : Slc
  data : List UInt8
def Ec.c (e : Ec) : List Value := [.int .i64 e.tag.1, .int .i64 e.tag.2, .bool e.fin, .bool e.has, e.s.v]
def Ec.v (e : Ec) : Value := .agg #[.int .i64 e.tag.1, .int .i64 e.tag.2, .bool e.fin, .bool e.has, e.s.v]
abbrev Sc := List (Tg × Ec)
def fins (l : Sc) : List Tg := (l.filter fun x => x.2.fin).map (·.1)
def floorI (d : Int) (l : Sc) : Tg := if d < ((fins l).length : Int) then ((sortD (fins l))[d.toNat]?).getD (0, 0) else (0, 0)
theorem floorI_nat (n : Nat) (l : Sc) : floorI n l = fl n (fins l) := by
  unfold floorI
  split
  · rw [Int.toNat_natCast]; rfl
  · rw [fl_zero (by omega)]
theorem fins_len (l : Sc) : (fins l).length ≤ l.length := by unfold fins; rw [List.length_map]; exact List.length_filter_le _ _
end Go.Tab
namespace Go.Proofs.YtgnceldnfefnmaaGreat
open Go Go.Vc Go.Vc.Asn Go.Tab Go.Sort
abbrev mpS (g : Nat) (l : Sc) : Asn := mp Tg.v Ec.v g l
abbrev tagsA (s : Slc) (l : List Tg) : Asn := own Ty_api_Tag 2 s (l.flatMap Tg.c)
theorem one_tag (l : List Tg) : ∀ u ∈ l.flatMap Tg.c, u.oneCell' = true := by
  intro u hu
  obtain ⟨t, _, h⟩ := List.mem_flatMap.1 hu
  simp [Tg.c] at h
  rcases h with rfl | rfl <;> rfl
theorem tag_len (t : Tg) : t.c.length = 2 := rfl
theorem fc1_g (a b : Tg) (w : World) : Calls PP F_table_shelf_finalized_c1 #[a.v, b.v] w (Rt fun v w' => v = .int .i64 (cmpT b a) ∧ Gr w w') := by
  refine sim_table_shelf_finalized_c1 _ _ _ _ _ _ ?_
  unfold vc_table_shelf_finalized_c1
  refine New.gr fun _ w1 _ g1 => New.gr fun _ w2 _ g2 => call (compare_g b a w2) ?_
  rintro _ w3 ⟨rfl, g3⟩
  exact ⟨_, rfl, Rt.ok ⟨rfl, (g1.trans g2).trans g3⟩⟩
theorem ltOf_down (x y : Tg) : Go.Proofs.ltOf (fun a b : Tg => cmpT b a) x y = ltT y x := by unfold Go.Proofs.ltOf; exact cmpT_lt y x
theorem ltOf_up (x y : Tg) : Go.Proofs.ltOf cmpT x y = ltT x y := by unfold Go.Proofs.ltOf; exact cmpT_lt x y
theorem swo_down : SWO (Go.Proofs.ltOf fun a b : Tg => cmpT b a) where
  irrefl x := by rw [ltOf_down]; exact ltT_irrefl x
  trans x y z h1 h2 := by rw [ltOf_down] at *; exact ltT_trans h2 h1
  ntrans x y z h1 h2 := by rw [ltOf_down] at *; exact ltT_ntrans h2 h1
theorem swo_up : SWO (Go.Proofs.ltOf cmpT) where
  irrefl x := by rw [ltOf_up]; exact ltT_irrefl x
  trans x y z h1 h2 := by rw [ltOf_up] at *; exact ltT_trans h1 h2
  ntrans x y z h1 h2 := by rw [ltOf_up] at *; exact ltT_ntrans h1 h2
theorem sortTags {s : Slc} {l : List Tg} {w0 w : World} {F : Asn} (H : Hp w0 w (star (tagsA s l) F)) (hl : l.length ≤ 1099511627776) :
    Calls PP F_slices_SortFunc_api_Tag_api_Tag #[s.v, .func (.func F_table_shelf_finalized_c1) #[] #[]] w (Rt fun v w' => v = .tuple #[] ∧ Hp w0 w' (star (tagsA s (sortD l)) F)) := by
  have h := Hp.sortFunc Tryz.sortTag Tryz.isAgg33 Tryz.sizeOf33 (k := 2) (enc := Tg.c) (cf := fun a b => cmpT b a) (e := Ty_api_Tag) (l := l) (s := s) (fun _ => rfl) (fun x v hv => one_tag [x] v (by simpa using hv)) swo_down (by decide) (enters_of Tryz.func60 (by kernel_rfl) rfl) (fun x y w => fc1_g x y w) (fun x y h k => by rw [ltOf_down] at h k; exact ltT_total k h) (by omega) H
  have e : (fun x y : Tg => !(Go.Proofs.ltOf fun a b : Tg => cmpT b a) y x) = fun x y => !ltT x y := by funext x y; rw [ltOf_down]
  rw [e] at h
  exact h
theorem und_shelf : PP.underlying Ty_table_shelf = some (.map Ty_api_Tag Ty_api_Entry) := by kernel_rfl
theorem fins_cons (x : Tg × Ec) (r : Sc) : fins (x :: r) = if x.2.fin then x.1 :: fins r else fins r := by
  unfold fins
  rw [List.filter_cons]
  split <;> rfl
theorem fins_perm {l l' : Sc} (h : l.Perm l') : (fins l).Perm (fins l') := (h.filter _).map _
def mpO (mo : Option Nat) (l : Sc) : Asn := match mo with | some g => mpS g l | none => lift (l = []) emp
theorem finalized_c {mo : Option Nat} {l : Sc} {w0 w : World} {F : Asn} (H : Hp w0 w (star (mpO mo l) F)) (hl : l.length ≤ 1099511627776) :
    Calls PP F_table_shelf_finalized #[.map mo] w (Rt fun v w' => ∃ s : Slc, v = s.v ∧ s.l = (fins l).length ∧ Hp w0 w' (star (tagsA s (sortD (fins l))) (star (mpO mo l) F))) := by
  refine sim_table_shelf_finalized _ _ _ ?_
  unfold vc_table_shelf_finalized
  cases mo with
  | none =>
    obtain rfl := H.lift.1
    refine H.rng0 und_shelf fun it w1 H => ?_
    refine ⟨fun s w' => s = Slc.nil ∧ Hp w0 w' (star (mn it) (star (mpO none []) F)), fun _ _ => 0, ⟨rfl, H⟩, ?_⟩
    rintro _ w2 ⟨rfl, H⟩
    refine H.nxt0 ⟨(fun h => nomatch h), fun _ => ?_⟩
    have H2 : Hp w0 w2 (star (tagsA Slc.nil []) (star (mpO none []) F)) := H.drop.nilRow _ _
    refine call (sortTags H2 (by simp)) ?_
    rintro _ w3 ⟨rfl, H⟩
    exact ⟨rfl, Rt.ok ⟨_, rfl, rfl, H⟩⟩
  | some g =>
    refine Hp.rng und_shelf H fun it w1 H => ?_
    refine ⟨fun s w' => ∃ rest ts cur, (ts ++ fins rest).Perm (fins l) ∧ Hp w0 w' (star (mr Tg.v Ec.v it g l rest cur) (star (tagsA s ts) F)), fun _ w => mleft it g w, ⟨l, [], none, by simp, H.ent ?_⟩, ?_⟩
    · exact Ent.star (Ent.refl _) (fun w S h => ⟨fun _ => False, S, fun k => by simp, fun k h => h.elim, ⟨fun k => by simp [Slc.blks], Own.nil _ _ _⟩, h⟩)
    rintro s w2 ⟨rest, ts, cur, hp, H⟩
    have hm := H.left
    have hk := H.mrKeys.2
    have hlen : ts.length + (fins rest).length = (fins l).length := by have := hp.length_eq; simpa using this
    have hfl := fins_len l
    have hsl : s.l = ts.length := by
      have := ((H.own s).cel (s := s)).len
      rw [flat_len tag_len] at this
      omega
    refine H.nxt (fun hr => ⟨(fun h => nomatch h), fun _ => ?_⟩) fun x hx w3 H => ⟨fun _ => ?_, fun h => nomatch h⟩
    · subst hr
      have hts : ts.Perm (fins l) := by simpa [fins] using hp
      have H := H.mrEnd.own s
      refine call (sortTags H (by have := hts.length_eq; omega)) ?_
      rintro _ w3 ⟨rfl, H⟩
      refine ⟨rfl, Rt.ok ⟨_, rfl, by rw [hsl]; exact hts.length_eq, ?_⟩⟩
      rw [sortD_ext hts] at H
      exact H
    · have hm2 := H.left
      have hlt := ldel_lt hx
      have hp2 : (fins rest).Perm (if x.2.fin then x.1 :: fins (ldel rest x.1) else fins (ldel rest x.1)) := by
        rw [← fins_cons]; exact fins_perm (ldel_perm hk hx)
      refine H.etr ⟨_, _, _, _, _, _, _, rfl, H.new fun b30 w4 H => H.new fun b33 w5 H => H.stoAll (by rfl) fun w6 H => H.stoAll (by rfl) fun w7 H => ⟨_, H.cell (b := b33) (i := 2) rfl, fun hf => ?_, fun hf => ?_⟩⟩
      · rw [if_pos hf] at hp2
        refine ⟨_, H.cell (b := b30) (i := 0) rfl, _, H.cell (b := b30) (i := 1) rfl, H.newRow (e := Ty_api_Tag) (n := 1) (size := 2) x.1.c rfl rfl (by decide) fun b46 w8 H => ?_⟩
        have hp3 : (ts ++ [x.1] ++ fins (ldel rest x.1)).Perm (fins l) := by
          refine List.Perm.trans ?_ hp
          rw [List.append_assoc]
          exact List.Perm.append_left _ hp2.symm
        have hl3 := hp3.length_eq
        simp at hl3
        refine H.app (s := s) slT_sl_api_Tag (H.cel (s := ⟨some (blk b46), 1, 1⟩)) (fun u hu => one_tag [x.1] u (by simpa using hu)) (by unfold maxLen; simp only; omega) (by simp only; omega) fun s' w9 H _ => ?_
        have H := ((H.own ⟨some (blk b46), 1, 1⟩).drop.blk b33).drop
        have H := ((H.blk b30).drop.own s').take (mr Tg.v Ec.v it g l (ldel rest x.1) (some x))
        have hm3 := H.left
        refine ⟨⟨ldel rest x.1, ts ++ [x.1], some x, hp3, ?_⟩, by dsimp only; omega⟩
        unfold tagsA
        rw [show (ts ++ [x.1]).flatMap Tg.c = ts.flatMap Tg.c ++ x.1.c by simp]
        exact H
      · rw [if_neg (by rw [hf]; simp)] at hp2
        have H := ((H.blk b33).drop.blk b30).drop
        have hm3 := H.left
        exact ⟨⟨ldel rest x.1, ts, some x, (List.Perm.append_left _ hp2.symm).trans hp, H⟩, by dsimp only; omega⟩
theorem sortD_get {l : List Tg} {i : Nat} (hi : i < l.length) {j : Nat} {v : Value} {t : Tg} (ht : (sortD l)[i]? = some t) (hv : t.c[j]? = some v) : ((sortD l).flatMap Tg.c)[i * 2 + j]? = some v := by
  have hj : j < 2 := (List.getElem?_eq_some_iff.1 hv).1
  have hl : (sortD l).length = l.length := (sortD_perm l).length_eq
  rw [flat_get tag_len _ _ (by rw [hl]; omega), show (i * 2 + j) / 2 = i by omega, show (i * 2 + j) % 2 = j by omega, ht]
  exact hv
theorem floor_c {mo : Option Nat} {l : Sc} {w0 w : World} {F : Asn} (d : Int) (hd : 0 ≤ d) (H : Hp w0 w (star (mpO mo l) F)) (hl : l.length ≤ 1099511627776) :
    Calls PP F_table_shelf_floor #[.map mo, .int .i64 d] w (Rt fun v w' => v = (floorI d l).v ∧ Hp w0 w' (star (mpO mo l) F)) := by
  refine sim_table_shelf_floor _ _ _ _ ?_
  unfold vc_table_shelf_floor
  refine H.new fun b4 w1 H => call (finalized_c (H.take (mpO mo l)) hl) ?_
  rintro _ w2 ⟨s, rfl, hsl, H⟩
  refine ⟨s, rfl, fun h => ?_, fun h => ?_⟩
  · have h2 : d < ((fins l).length : Int) := by rw [← hsl]; simpa using h
    have hi : d.toNat < (fins l).length := by omega
    have hne : 0 < ((sortD (fins l)).flatMap Tg.c).length := by rw [flat_len tag_len, (sortD_perm _).length_eq]; omega
    obtain ⟨a, ha, _⟩ := (H.cel (s := s)).get hne
    obtain ⟨t, ht⟩ : ∃ t, (sortD (fins l))[d.toNat]? = some t := ⟨_, List.getElem?_eq_getElem (by rw [(sortD_perm _).length_eq]; exact hi)⟩
    have hc : ∀ j v, t.c[j]? = some v → w2.cell? ((a.add (d.toNat * 2)).add j) = some v := fun j v hv => by
      obtain ⟨p, hp, hc⟩ := (H.cel (s := s)).at_ (d.toNat * 2 + j) v (sortD_get hi ht hv)
      rw [ha] at hp
      injection hp with hp
      rw [add_add, hp]
      exact hc
    have hf : floorI d l = t := by unfold floorI; rw [if_pos h2, ht]; rfl
    refine ⟨a, ha, hd, by rw [hsl]; exact h2, _, hc 0 _ rfl, _, hc 1 _ rfl, H.stoAll (by rfl) fun w3 H => ⟨_, H.cell (b := b4) (i := 0) rfl, _, H.cell (b := b4) (i := 1) rfl, Rt.ok ⟨?_, ?_⟩⟩⟩
    · rw [hf]; rfl
    · exact ((H.blk b4).drop.own s).drop
  · have h2 : ¬ d < ((fins l).length : Int) := by rw [← hsl]; simpa using h
    refine H.stoAll (by rfl) fun w3 H => ⟨_, H.cell (b := b4) (i := 0) rfl, _, H.cell (b := b4) (i := 1) rfl, Rt.ok ⟨?_, ?_⟩⟩
    · unfold floorI; rw [if_neg h2]; rfl
    · exact ((H.blk b4).drop.own s).drop
end Go.Proofs.YtgnceldnfefnmaaGreat
