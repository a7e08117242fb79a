/-
  Contracts of the package table: what is told of a key.
-/
import Derived.Test.YtgnceldnfefnmaaGreatTableDo
namespace Go.Tab
open Go Go.Vc Go.Vc.Asn
theorem cmpT_gt (a b : Tg) : decide (0 < cmpT a b) = ltT b a := by
  rw [cmpT_sgn]
  cases h : ltT a b with
  | true => simp [ltT_asymm h]
  | false => cases h2 : ltT b a <;> simp
structure En where
  tag : Tg
  fin : Bool
  has : Bool
  data : List UInt8
deriving DecidableEq
def Ec.abs (e : Ec) : En := ⟨e.tag, e.fin, e.has, e.data⟩
def listS (l : Sc) : List En := (sortU (l.map (·.1))).map fun t => (lookE l t).abs
def TagOk (l : Sc) : Prop := ∀ x ∈ l, x.2.tag = x.1
end Go.Tab
namespace Go.Proofs.YtgnceldnfefnmaaGreat
open Go Go.Vc Go.Vc.Asn Go.Tab Go.Sort
section
variable {p : Nat} {T : Tc} {w0 w : World} {F : Asn}
theorem maxFunc_c {s : Slc} {t : Tg} {r : List Tg} (hr : ∀ x ∈ r, ltT t x = false) (hl : (t :: r).length ≤ 1099511627776) (H : Hp w0 w (star (tagsA s (t :: r)) F)) :
    Calls PP F_slices_MaxFunc #[s.v, .func (.func F_tag_Compare) #[] #[]] w (Rt fun v w' => v = t.v ∧ Hp w0 w' (star (tagsA s (t :: r)) F)) := by
  have hsl : s.l = (t :: r).length := by
    have := (H.cel (s := s)).len
    rw [flat_len tag_len] at this
    omega
  refine sim_slices_MaxFunc _ _ _ _ ?_
  unfold vc_slices_MaxFunc
  have hget : ∀ {w' : World} {A' F' : Asn}, Hp w0 w' A' → [TakeS s A' Ty_api_Tag 2 ((t :: r).flatMap Tg.c) F'] → ∀ (i : Nat) (x : Tg), (t :: r)[i]? = some x → ∃ a, s.a = some a ∧ ∀ j v, x.c[j]? = some v → w'.cell? ((a.add (i * 2)).add j) = some v := by
    intro w' A' F' H' _ i x hx
    have hi := (List.getElem?_eq_some_iff.1 hx).1
    obtain ⟨a, ha, _⟩ := (H'.cel (s := s)).get (i := 0) (by rw [flat_len tag_len]; simp)
    refine ⟨a, ha, fun j v hv => ?_⟩
    have hj : j < 2 := (List.getElem?_eq_some_iff.1 hv).1
    obtain ⟨q, hq, hc⟩ := (H'.cel (s := s)).at_ (i * 2 + j) v (by rw [flat_get tag_len _ _ (by omega), show (i * 2 + j) / 2 = i by omega, show (i * 2 + j) % 2 = j by omega, hx]; exact hv)
    rw [ha] at hq
    injection hq with hq
    rw [add_add, hq]
    exact hc
  refine H.new fun b4 w1 H => ⟨fun w' => Hp w0 w' (star (bk b4 Ty_api_Tag #[.int .i64 0, .int .i64 0]) (star (tagsA s (t :: r)) F)), ⟨fun h => ?_, fun _ => H⟩, ?_⟩
  · rw [hsl] at h
    simp only [List.length_cons, decide_eq_true_eq] at h
    omega
  intro w2 H
  obtain ⟨a, ha, hc⟩ := hget H 0 t rfl
  refine ⟨a, ha, by omega, by rw [hsl]; simp only [List.length_cons]; omega, _, hc 0 _ rfl, _, hc 1 _ rfl, H.new fun b19 w3 H => H.stoAll (b := b19) (by rfl) fun w4 H => ?_⟩
  refine ⟨fun i w' => (∃ n : Nat, i = (n : Int) ∧ 1 ≤ n ∧ n ≤ (t :: r).length) ∧ Hp w0 w' (star (bk b19 Ty_api_Tag #[.int .i64 t.1, .int .i64 t.2]) (star (bk b4 Ty_api_Tag #[.int .i64 0, .int .i64 0]) (star (tagsA s (t :: r)) F))), fun i _ => (t :: r).length - i.toNat, ⟨⟨1, rfl, Nat.le_refl _, by simp⟩, H⟩, ?_⟩
  rintro _ w5 ⟨⟨n, rfl, h1, h2⟩, H⟩
  refine ⟨fun h => ?_, fun h => ?_⟩
  · have hn : n < (t :: r).length := by rw [hsl] at h; simp only [decide_eq_true_eq] at h; omega
    have e1 : wr .i64 ((n : Int) + 1) = ((n + 1 : Nat) : Int) := by rw [wr64 (by omega) (by omega)]; omega
    refine ⟨fun w' => Hp w0 w' (star (bk b19 Ty_api_Tag #[.int .i64 t.1, .int .i64 t.2]) (star (bk b4 Ty_api_Tag #[.int .i64 0, .int .i64 0]) (star (tagsA s (t :: r)) F))), ?_, fun w6 H => ⟨⟨⟨n + 1, by rw [e1], by omega, by omega⟩, H⟩, by dsimp only; rw [e1]; omega⟩⟩
    have H := H.drew 1
    have hx : (t :: r)[n]? = some ((t :: r)[n]) := List.getElem?_eq_getElem hn
    obtain ⟨a, ha, hc⟩ := hget H n _ hx
    have hle : ltT t ((t :: r)[n]) = false := by
      obtain ⟨m, rfl⟩ : ∃ m, n = m + 1 := ⟨n - 1, by omega⟩
      simp only [List.getElem_cons_succ]
      exact hr _ (List.getElem_mem _)
    refine ⟨a, ha, by omega, by rw [hsl]; omega, _, hc 0 _ rfl, _, hc 1 _ rfl, _, H.cell (b := b19) (i := 0) rfl, _, H.cell (b := b19) (i := 1) rfl, F_tag_Compare, #[], rfl, body_49, call (compare_c ((t :: r)[n]) t _) ?_⟩
    rintro _ w6 ⟨rfl, f⟩
    refine ⟨_, rfl, fun h => ?_, fun _ => H.fr0 f⟩
    rw [cmpT_gt, hle] at h
    cases h
  · refine ⟨_, H.cell (b := b19) (i := 0) rfl, _, H.cell (b := b19) (i := 1) rfl, H.stoAll (b := b4) (by rfl) fun w6 H => ⟨_, H.cell (b := b4) (i := 0) rfl, _, H.cell (b := b4) (i := 1) rfl, Rt.ok ⟨rfl, ?_⟩⟩⟩
    exact (H.blk b4).drop.drop
theorem max_c {s : Slc} {l : List Tg} (hl : l.length ≤ 1099511627776) (H : Hp w0 w (star (tagsA s (sortD l)) F)) :
    Calls PP F_tag_Max #[s.v] w (Rt fun v w' => v = (top l).v ∧ Hp w0 w' (star (tagsA s (sortD l)) F)) := by
  have hsl : s.l = (sortD l).length := by
    have := (H.cel (s := s)).len
    rw [flat_len tag_len] at this
    omega
  have hll : (sortD l).length = l.length := (sortD_perm l).length_eq
  refine sim_tag_Max _ _ _ ?_
  unfold vc_tag_Max
  refine H.new fun b3 w1 H => ⟨fun h => ?_, fun h => ?_⟩
  · have h0 : sortD l = [] := List.eq_nil_of_length_eq_zero (by rw [← hsl]; simpa using h)
    refine H.stoAll (b := b3) (by rfl) fun w2 H => ⟨_, H.cell (b := b3) (i := 0) rfl, _, H.cell (b := b3) (i := 1) rfl, Rt.ok ⟨?_, H.drop⟩⟩
    unfold top; rw [h0]; rfl
  · have hp := sortD_pw l
    have H := H.own s
    generalize hS : sortD l = S at *
    cases S with
    | nil => rw [hsl] at h; simp at h
    | cons t r =>
      refine call (maxFunc_c (fun x hx => List.rel_of_pairwise_cons hp hx) (by omega) H) ?_
      rintro _ w2 ⟨rfl, H⟩
      refine ⟨_, _, rfl, H.stoAll (b := b3) (by rfl) fun w3 H => ⟨_, H.cell (b := b3) (i := 0) rfl, _, H.cell (b := b3) (i := 1) rfl, Rt.ok ⟨?_, (H.blk b3).drop⟩⟩⟩
      unfold top; rw [hS]; rfl
theorem ttop0_c {k : ByteArray} : Calls PP F_table_Table_Top #[.pointer none, .string k] w (Rt fun v w' => v = Tg.v (0, 0) ∧ Fr [] w w') := by
  refine sim_table_Table_Top _ _ _ _ ?_
  unfold vc_table_Table_Top
  refine (Hp.start w).new fun b4 w1 H => ⟨fun _ => H.stoAll (b := b4) (by rfl) fun w3 H => ⟨_, H.cell (b := b4) (i := 0) rfl, _, H.cell (b := b4) (i := 1) rfl, Rt.ok ⟨rfl, H.fr⟩⟩, fun h => by simp at h⟩
theorem ttop_c {k : ByteArray} (hl : (T.sh k).length ≤ 1099511627776) (H : Hp w0 w (star (tabA p T) F)) :
    Calls PP F_table_Table_Top #[.pointer (some (blk p)), .string k] w (Rt fun v w' => v = (top (fins (T.sh k))).v ∧ Hp w0 w' (star (tabA p T) F)) := by
  have hn := tab_keys H
  refine sim_table_Table_Top _ _ _ _ ?_
  unfold vc_table_Table_Top
  have H := openT k H
  refine H.new fun b4 w1 H => ⟨fun h => by simp at h, fun _ => ⟨_, rfl, _, H.cell (b := p) (i := 1) rfl, lkpK H ⟨_, rfl, call (finalized_c (H.take (mpO (T.mo k) (T.sh k))) hl) ?_⟩⟩⟩
  rintro _ w2 ⟨s, rfl, _, H⟩
  refine ⟨_, rfl, call (max_c (Nat.le_trans (fins_len _) hl) H) ?_⟩
  rintro _ w3 ⟨rfl, H⟩
  refine ⟨_, _, rfl, H.stoAll (b := b4) (by rfl) fun w3 H => ⟨_, H.cell (b := b4) (i := 0) rfl, _, H.cell (b := b4) (i := 1) rfl, Rt.ok ⟨rfl, ?_⟩⟩⟩
  exact closeT k hn ((((H.take (mpO (T.mo k) (T.sh k))).blk b4).drop.own s).drop)

/-! ## Entries -/
def entA (e : Ec) : Asn := own Ty_uint8 1 e.s (e.data.map u8v)
def entsA (s : Slc) (es : List Ec) : Asn := star (own Ty_api_Entry 5 s (es.flatMap Ec.c)) (all entA es)
theorem ent_len (e : Ec) : e.c.length = 5 := rfl
theorem one_ent (es : List Ec) : ∀ u ∈ es.flatMap Ec.c, u.oneCell' = true := by
  intro u hu
  obtain ⟨t, _, h⟩ := List.mem_flatMap.1 hu
  simp [Ec.c] at h
  rcases h with rfl | rfl | rfl | rfl | rfl <;> rfl
theorem ec1_g (a b : Ec) (w : World) : Calls PP F_table_Table_Entries_c1 #[a.v, b.v] w (Rt fun v w' => v = .int .i64 (cmpT a.tag b.tag) ∧ Gr w w') := by
  refine sim_table_Table_Entries_c1 _ _ _ _ _ _ _ _ _ _ _ _ ?_
  unfold vc_table_Table_Entries_c1
  refine New.gr fun _ w1 _ g1 => New.gr fun _ w2 _ g2 => call (compare_g a.tag b.tag w2) ?_
  rintro _ w3 ⟨rfl, g3⟩
  exact ⟨_, rfl, Rt.ok ⟨rfl, (g1.trans g2).trans g3⟩⟩
def pickE (es : List Ec) (t : Tg) : Ec := { (es.find? fun e => decide (e.tag = t)).getD zeroE with tag := t }
theorem pickE_cons {e : Ec} {r : List Ec} {t : Tg} : pickE (e :: r) t = if e.tag = t then e else pickE r t := by
  unfold pickE
  rw [List.find?_cons]
  by_cases h : e.tag = t
  · subst h; simp
  · simp [h]
theorem pick_map : ∀ {es : List Ec}, (es.map (·.tag)).Nodup → (es.map (·.tag)).map (pickE es) = es
  | [], _ => rfl
  | e :: r, h => by
    simp only [List.map_cons, List.nodup_cons] at h
    rw [List.map_cons, List.map_cons, pickE_cons, if_pos rfl]
    congr 1
    refine Eq.trans (List.map_congr_left fun t ht => ?_) (pick_map h.2)
    rw [pickE_cons, if_neg (fun e' => h.1 (by rw [e']; exact ht))]
theorem sortEnts {s : Slc} {es : List Ec} (hn : (es.map (·.tag)).Nodup) (hl : es.length ≤ 1099511627776) (H : Hp w0 w (star (entsA s es) F)) :
    Calls PP F_slices_SortFunc_api_Entry_api_Entry #[s.v, .func (.func F_table_Table_Entries_c1) #[] #[]] w (Rt fun v w' => v = .tuple #[] ∧ Hp w0 w' (star (entsA s ((sortU (es.map (·.tag))).map (pickE es))) F)) := by
  have e0 : es.flatMap Ec.c = (es.map (·.tag)).flatMap (fun t => (pickE es t).c) := by
    conv => lhs; rw [← pick_map hn]
    rw [List.flatMap_map]
  have H := H.assoc
  rw [e0] at H
  have h := Hp.sortFunc Tryz.sortEntry Tryz.isAgg36 Tryz.sizeOf36 (k := 5) (enc := fun t : Tg => (pickE es t).c) (cf := cmpT) (e := Ty_api_Entry) (s := s) (fun _ => rfl) (fun x v hv => one_ent [pickE es x] v (by simpa using hv)) swo_up (by decide) (enters_of Tryz.func48 (by kernel_rfl) rfl) (fun x y w => ec1_g (pickE es x) (pickE es y) w) (fun x y h k => by rw [ltOf_up] at h k; exact ltT_total h k) (by simp; omega) H
  refine Rt.mono h ?_
  rintro _ w' ⟨rfl, H⟩
  refine ⟨rfl, ?_⟩
  have e1 : (fun x y : Tg => !(Go.Proofs.ltOf cmpT) y x) = fun x y => !ltT y x := by funext x y; rw [ltOf_up]
  rw [e1] at H
  have e2 : ((es.map (·.tag)).mergeSort fun x y => !ltT y x).flatMap (fun t => (pickE es t).c) = ((sortU (es.map (·.tag))).map (pickE es)).flatMap Ec.c := by rw [List.flatMap_map]; rfl
  rw [e2] at H
  have hp : es.Perm ((sortU (es.map (·.tag))).map (pickE es)) := by
    conv => lhs; rw [← pick_map hn]
    exact ((sortU_perm _).symm.map _)
  unfold entsA
  exact (H.ent (Ent.star (Ent.refl _) (Ent.star (all_perm hp) (Ent.refl _)))).assoc'
theorem pickE_mem {t : Tg} : ∀ {es : List Ec}, t ∈ es.map (·.tag) → pickE es t ∈ es
  | e :: r, h => by
    rw [pickE_cons]
    split
    · exact List.mem_cons_self
    · rename_i hne
      rcases List.mem_cons.1 (show t ∈ e.tag :: r.map (·.tag) from by simpa using h) with e' | e'
      · exact absurd e'.symm hne
      · exact List.mem_cons_of_mem _ (pickE_mem e')
theorem data_at {l : Sc} {x : Tg × Ec} (hn : (l.map (·.1)).Nodup) (hx : x ∈ l) (H : Hp w0 w (star (all dataA l) F)) : Byt w x.2.s x.2.data := by
  have H : Hp w0 w (star (own Ty_uint8 1 x.2.s (x.2.data.map u8v)) (star (all dataA (ldel l x.1)) F)) := (H.ent (Ent.star (all_perm (ldel_perm hn hx)) (Ent.refl _))).assoc
  exact H.cel (s := x.2.s) (size := 1)
theorem closeX {X : Asn} (k : ByteArray) (hn : (T.keys.map (·.1)).Nodup) (H : Hp w0 w (star X (star (mpO (T.mo k) (T.sh k)) (openR p T k F)))) : Hp w0 w (star X (star (tabA p T) F)) := by
  refine Hp.swap (closeT (F := star X F) k hn (H.ent ?_))
  refine left.trans (Ent.star (Ent.refl _) ?_)
  exact left.trans (Ent.star (Ent.refl _) (left.trans (Ent.star (Ent.refl _) (left.trans (Ent.star (Ent.refl _) left)))))
theorem all_snoc {α : Type} (f : α → Asn) (x : α) (l : List α) : Ent (star (f x) (all f l)) (all f (l ++ [x])) := all_perm (List.perm_append_singleton x l).symm
theorem entries0_c {k : ByteArray} : Calls PP F_table_Table_Entries #[.pointer none, .string k] w (Rt fun v w' => v = Slc.nil.v ∧ w' = w) := by
  refine sim_table_Table_Entries _ _ _ _ ?_
  unfold vc_table_Table_Entries
  exact ⟨fun _ => Rt.ok ⟨rfl, rfl⟩, fun h => by simp at h⟩
theorem entsA_nil : Ent F (star (entsA Slc.nil []) F) := by
  intro w S h
  refine ⟨fun _ => False, S, fun k => by simp, fun k h => h.elim, ⟨fun _ => False, fun _ => False, fun k => by simp, fun k h => h.elim, ⟨fun k => by simp [Slc.blks], Own.nil _ _ _⟩, fun k h => h⟩, h⟩
theorem listS_nil : listS [] = [] := by simp [listS, sortU]
theorem lookE_of {l : Sc} (hn : (l.map (·.1)).Nodup) {x : Tg × Ec} (hx : x ∈ l) : lookE l x.1 = x.2 := by
  unfold lookE
  rw [llook_of hn hx]
  rfl
theorem entries_c {k : ByteArray} (hl : (T.sh k).length ≤ 1099511627776) (ht : TagOk (T.sh k)) (hdl : ∀ x ∈ T.sh k, x.2.data.length ≤ 1099511627776) (H : Hp w0 w (star (tabA p T) F)) :
    Calls PP F_table_Table_Entries #[.pointer (some (blk p)), .string k] w (Rt fun v w' => ∃ s es, v = Slc.v s ∧ es.map Ec.abs = listS (T.sh k) ∧ Hp w0 w' (star (entsA s es) (star (tabA p T) F))) := by
  have hn := tab_keys H
  refine sim_table_Table_Entries _ _ _ _ ?_
  unfold vc_table_Table_Entries
  have H := openT k H
  refine ⟨fun h => by simp at h, fun _ => ⟨_, rfl, _, H.cell (b := p) (i := 1) rfl, lkpK H ⟨_, rfl, ?_⟩⟩⟩
  cases hm : T.mo k with
  | none =>
    rw [hm] at H
    have hs : T.sh k = [] := H.lift.1
    rw [hs]
    refine H.rng0 und_shelf fun it w1 H => ?_
    refine ⟨fun s w' => s = Slc.nil ∧ Hp w0 w' (star (mn it) (star (mpO none (T.sh k)) (openR p T k F))), fun _ _ => 0, ⟨rfl, H⟩, ?_⟩
    rintro _ w2 ⟨rfl, H⟩
    refine H.nxt0 ⟨(fun h => nomatch h), fun _ => ?_⟩
    refine call (sortEnts (by simp) (by simp) (H.drop.ent entsA_nil)) ?_
    rintro _ w3 ⟨rfl, H⟩
    refine ⟨rfl, Rt.ok ⟨_, (sortU (([] : List Ec).map (·.tag))).map (pickE []), rfl, by rw [listS_nil]; simp [sortU], ?_⟩⟩
    have H : Hp w0 w3 (star _ (star (mpO none (T.sh k)) (openR p T k F))) := H
    rw [← hm] at H
    exact closeX k hn H
  | some g =>
    rw [hm] at H
    have hns : ((T.sh k).map (·.1)).Nodup := Hp.mpKeys (g := g) H
    refine Hp.rng (g := g) und_shelf H fun it w1 H => ?_
    refine ⟨fun s w' => ∃ rest es cur, (es.map (·.tag) ++ rest.map (·.1)).Perm ((T.sh k).map (·.1)) ∧ (∀ e ∈ es, ∃ x ∈ T.sh k, e.abs = x.2.abs) ∧ (∀ x ∈ rest, x ∈ T.sh k) ∧ Hp w0 w' (star (mr Tg.v Ec.v it g (T.sh k) rest cur) (star (entsA s es) (openR p T k F))), fun _ w => mleft it g w, ⟨T.sh k, [], none, by simp, (fun e he => nomatch he), fun x h => h, H.ent (Ent.star (Ent.refl _) entsA_nil)⟩, ?_⟩
    rintro s w2 ⟨rest, es, cur, hp, hab, hsub, H⟩
    have hm0 := H.left
    have hk := H.mrKeys.2
    have hlen : es.length + rest.length = (T.sh k).length := by have := hp.length_eq; simpa using this
    have hne : (es.map (·.tag)).Nodup := ((hp.nodup_iff.2 hns).sublist (List.sublist_append_left _ _))
    have hsl : s.l = es.length := by
      have H := H.swap.assoc
      have := (H.cel (s := s)).len
      rw [flat_len ent_len] at this
      omega
    refine H.nxt (fun hr => ⟨(fun h => nomatch h), fun _ => ?_⟩) fun x hx w3 H => ⟨fun _ => ?_, fun h => nomatch h⟩
    · subst hr
      have hts : (es.map (·.tag)).Perm ((T.sh k).map (·.1)) := by simpa using hp
      have H := H.mrEnd.swap
      refine call (sortEnts hne (by omega) H) ?_
      rintro _ w3 ⟨rfl, H⟩
      refine ⟨rfl, Rt.ok ⟨_, (sortU (es.map (·.tag))).map (pickE es), rfl, ?_, ?_⟩⟩
      · unfold listS
        rw [sortU_ext hts, List.map_map]
        refine List.map_congr_left fun t ht' => ?_
        have hmem : t ∈ es.map (·.tag) := hts.mem_iff.2 ((sortU_perm _).mem_iff.1 ht')
        obtain ⟨x, hx, he⟩ := hab _ (pickE_mem hmem)
        have h1 : (pickE es t).tag = t := rfl
        have h2 : x.1 = t := by rw [← ht x hx, ← h1]; exact (congrArg En.tag he).symm
        show (pickE es t).abs = _
        rw [he, ← h2, lookE_of hns hx]
      · have H : Hp w0 w3 (star _ (star (mpO (some g) (T.sh k)) (openR p T k F))) := H
        rw [← hm] at H
        exact closeX k hn H
    · have hm2 := H.left
      have hlt := ldel_lt hx
      have hp2 := (ldel_perm hk hx).map (·.1)
      have hxl := hsub x hx
      refine H.etr ⟨_, _, _, _, _, _, _, rfl, H.new fun b41 w4 H => H.stoAll (b := b41) (by rfl) fun w5 H => ⟨_, H.cell (b := b41) (i := 0) rfl, _, H.cell (b := b41) (i := 1) rfl, _, H.cell (b := b41) (i := 2) rfl, _, H.cell (b := b41) (i := 3) rfl, _, H.cell (b := b41) (i := 4) rfl, call (copied_c (e := x.2) (data_at hns hxl (H.take (all dataA (T.sh k)))) (hdl x hxl)) ?_⟩⟩
      rintro _ w6 ⟨s', rfl, K⟩
      have H := (H.join K)
      refine ⟨_, _, _, _, _, rfl, H.newRow (e := Ty_api_Entry) (n := 1) (size := 5) (Ec.c { x.2 with s := s' }) rfl rfl (by decide) fun b61 w7 H => ?_⟩
      have H := (H.take (entsA s es)).assoc
      refine H.app (s := s) slT_sl_api_Entry (H.cel (s := ⟨some (blk b61), 1, 1⟩)) (fun u hu => one_ent [{ x.2 with s := s' }] u (by simpa using hu)) (by unfold maxLen; simp only; omega) (by simp only; omega) fun s'' w8 H _ => ?_
      have H := ((H.own ⟨some (blk b61), 1, 1⟩).drop.blk b41).drop
      have H : Hp w0 w8 (star (own Ty_uint8 1 s' (x.2.data.map u8v)) _) := H.own s'
      have H := (H.take (all entA es)).swap.assoc'
      have H := H.ent (Ent.star (all_snoc entA { x.2 with s := s' } es) (Ent.refl _))
      have H := (H.own s'').assoc'.take (mr Tg.v Ec.v it g (T.sh k) (ldel rest x.1) (some x))
      have hmx := H.left
      refine ⟨⟨ldel rest x.1, es ++ [{ x.2 with s := s' }], some x, ?_, ?_, fun y hy => hsub y (List.mem_filter.1 hy).1, ?_⟩, by dsimp only; omega⟩
      · refine List.Perm.trans ?_ hp
        rw [List.map_append, List.append_assoc]
        refine List.Perm.append_left _ ?_
        simp only [List.map_cons, List.map_nil, List.cons_append, List.nil_append]
        rw [ht x hxl]
        exact hp2.symm
      · intro e he
        rcases List.mem_append.1 he with he | he
        · exact hab e he
        · simp at he; subst he; exact ⟨x, hxl, rfl⟩
      · unfold entsA
        have eF : ∀ e' : Ec, (es ++ [e']).flatMap Ec.c = es.flatMap Ec.c ++ e'.c := fun e' => by simp
        rw [eF]
        exact H.ent (Ent.star (Ent.refl _) Asn.assoc')
def fragS (l : Sc) : Nat := (listS l).countP (·.has)
theorem ent_get {s : Slc} {es : List Ec} {w' : World} {A' F' : Asn} (H : Hp w0 w' A') [TakeS s A' Ty_api_Entry 5 (es.flatMap Ec.c) F'] {i : Nat} {e : Ec} (he : es[i]? = some e) : ∃ a, s.a = some a ∧ ∀ j v, e.c[j]? = some v → w'.cell? ((a.add (i * 5)).add j) = some v := by
  have hi := (List.getElem?_eq_some_iff.1 he).1
  obtain ⟨a, ha, _⟩ := (H.cel (s := s)).get (i := 0) (by rw [flat_len ent_len]; omega)
  refine ⟨a, ha, fun j v hv => ?_⟩
  have hj : j < 5 := (List.getElem?_eq_some_iff.1 hv).1
  obtain ⟨q, hq, hc⟩ := (H.cel (s := s)).at_ (i * 5 + j) v (by rw [flat_get ent_len _ _ (by omega), show (i * 5 + j) / 5 = i by omega, show (i * 5 + j) % 5 = j by omega, he]; exact hv)
  rw [ha] at hq
  injection hq with hq
  rw [add_add, hq]
  exact hc
theorem ents_l {s : Slc} {es : List Ec} {w' : World} {A' F' : Asn} (H : Hp w0 w' A') [TakeS s A' Ty_api_Entry 5 (es.flatMap Ec.c) F'] : s.l = es.length := by
  have := (H.cel (s := s)).len
  rw [flat_len ent_len] at this
  omega
theorem frag0_c {k : ByteArray} : Calls PP F_table_Table_Fragments #[.pointer none, .string k] w (Rt fun v w' => v = .int .i64 0 ∧ Fr [] w w') := by
  refine sim_table_Table_Fragments _ _ _ _ ?_
  unfold vc_table_Table_Fragments
  refine call entries0_c ?_
  rintro _ w1 ⟨rfl, h⟩
  subst h
  refine ⟨_, rfl, fun n i w' => n = 0 ∧ i = 0 ∧ w' = w1, fun _ _ _ => 0, ⟨rfl, rfl, rfl⟩, ?_⟩
  rintro _ _ _ ⟨rfl, rfl, rfl⟩
  exact ⟨fun h => by simp at h, fun _ => Rt.ok ⟨rfl, Fr.refl _ _⟩⟩
theorem frag_c {k : ByteArray} (hl : (T.sh k).length ≤ 1099511627776) (ht : TagOk (T.sh k)) (hdl : ∀ x ∈ T.sh k, x.2.data.length ≤ 1099511627776) (H : Hp w0 w (star (tabA p T) F)) :
    Calls PP F_table_Table_Fragments #[.pointer (some (blk p)), .string k] w (Rt fun v w' => v = .int .i64 (fragS (T.sh k) : Int) ∧ Hp w0 w' (star (tabA p T) F)) := by
  refine sim_table_Table_Fragments _ _ _ _ ?_
  unfold vc_table_Table_Fragments
  refine call (entries_c hl ht hdl H) ?_
  rintro _ w1 ⟨s, es, rfl, hes, H⟩
  have H := H.assoc
  have hsl := ents_l (s := s) (es := es) H
  have hlen : es.length = (T.sh k).length := by
    have := congrArg List.length hes
    simpa [listS, (sortU_perm _).length_eq] using this
  have hcount : fragS (T.sh k) = es.countP (·.has) := by
    unfold fragS
    rw [← hes, List.countP_map]
    rfl
  refine ⟨_, rfl, fun n i w' => (∃ m : Nat, i = (m : Int) ∧ m ≤ es.length ∧ n = (((es.take m).countP (·.has) : Nat) : Int)) ∧ Hp w0 w' (star (own Ty_api_Entry 5 s (es.flatMap Ec.c)) (star (all entA es) (star (tabA p T) F))), fun _ i _ => es.length - i.toNat, ⟨⟨0, rfl, Nat.zero_le _, rfl⟩, H⟩, ?_⟩
  rintro _ _ w2 ⟨⟨m, rfl, hm, rfl⟩, H⟩
  refine ⟨fun h => ?_, fun h => ?_⟩
  · have hlt : m < es.length := by rw [hsl] at h; simp only [decide_eq_true_eq] at h; omega
    have hx : es[m]? = some es[m] := List.getElem?_eq_getElem hlt
    obtain ⟨a, ha, hc⟩ := ent_get (s := s) (es := es) H hx
    have hcl : (es.take m).countP (·.has) ≤ m := Nat.le_trans List.countP_le_length (by simp; omega)
    have e1 : wr .i64 ((m : Int) + 1) = ((m + 1 : Nat) : Int) := by rw [wr64 (by omega) (by omega)]; omega
    have e2 : wr .i64 ((((es.take m).countP (·.has) : Nat) : Int) + 1) = (((es.take m).countP (·.has) + 1 : Nat) : Int) := by rw [wr64 (by omega) (by omega)]; omega
    have e3 : es.take (m + 1) = es.take m ++ [es[m]] := by rw [List.take_succ_eq_append_getElem hlt]
    refine ⟨fun n w' => n = (((es.take (m + 1)).countP (·.has) : Nat) : Int) ∧ Hp w0 w' (star (own Ty_api_Entry 5 s (es.flatMap Ec.c)) (star (all entA es) (star (tabA p T) F))), ?_, ?_⟩
    · refine ⟨a, ha, by omega, by omega, _, hc 0 _ rfl, _, hc 1 _ rfl, _, hc 2 _ rfl, _, hc 3 _ rfl, _, hc 4 _ rfl, H.new fun b37 w3 H => H.stoAll (b := b37) (by rfl) fun w4 H => ⟨_, H.cell (b := b37) (i := 3) rfl, fun h => ⟨?_, H.drop⟩, fun h => ⟨?_, H.drop⟩⟩⟩
      · rw [e2, e3, List.countP_append]; simp [h]
      · rw [e3, List.countP_append]; simp [h]
    · rintro n w3 ⟨rfl, H⟩
      exact ⟨⟨⟨m + 1, by rw [e1], by omega, rfl⟩, H⟩, by dsimp only; rw [e1]; omega⟩
  · have hmm : m = es.length := by rw [hsl] at h; simp only [decide_eq_false_iff_not] at h; omega
    subst hmm
    refine Rt.ok ⟨?_, H.drop.drop⟩
    rw [List.take_length, hcount]
end
end Go.Proofs.YtgnceldnfefnmaaGreat
