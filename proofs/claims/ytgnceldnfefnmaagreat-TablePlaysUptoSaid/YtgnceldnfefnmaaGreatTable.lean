/-
  Contracts of the package table: what it reads; a fragment that comes.
-/
import Derived.Test.YtgnceldnfefnmaaGreatShelf
namespace Go.Vc
open Go Go.Vc.Asn
namespace Asn
theorem Ent.pick {P A F B : Asn} [h : Take P A F] (k : Ent F B) : Ent A (Asn.star P B) := h.e.trans (Ent.star (Ent.refl P) k)
theorem mp_map {κ ν ν' : Type} {ec : κ → Value} {ev : ν → Value} {ev' : ν' → Value} {g : Nat} {l : List (κ × ν)} {l' : List (κ × ν')} (f : κ × ν → ν') (hl : l' = l.map fun x => (x.1, f x)) (h : ∀ x ∈ l, ev' (f x) = ev x.2) : Ent (mp ec ev g l) (mp ec ev' g l') := by
  rintro w S ⟨h1, L, c, rfl, h3, h4⟩
  refine ⟨h1, L.map fun x => (x.1, f (ml x), x.2.2), c, ?_, ?_, ?_⟩
  · rw [hl, List.map_map, List.map_map]; rfl
  · rw [h3]
    congr 2
    unfold ments
    congr 1
    rw [List.map_map]
    refine List.map_congr_left fun x hx => ?_
    simp only [ment, Function.comp]
    rw [h (ml x) (List.mem_map_of_mem hx)]
    rfl
  · refine ⟨?_, ?_, fun x hx => ?_⟩
    · rw [List.map_map]; exact h4.keys
    · rw [List.map_map]; exact h4.borns
    · obtain ⟨y, hy, rfl⟩ := List.mem_map.1 hx
      exact h4.lt y hy
end Asn
theorem lput_same {κ ν : Type} [DecidableEq κ] {l : List (κ × ν)} (hn : (l.map (·.1)).Nodup) {k : κ} {v : ν} (h : llook l k = some v) : lput l k v = l := by
  have hm := llook_mem h
  unfold lput
  rw [if_pos (List.mem_map_of_mem (f := (·.1)) hm)]
  conv => rhs; rw [← List.map_id l]
  refine List.map_congr_left fun x hx => ?_
  split
  · rename_i hk
    have h2 : llook l x.1 = some x.2 := llook_of hn hx
    rw [hk, h] at h2
    injection h2 with h2
    exact Prod.ext rfl h2
  · rfl
theorem lput_turn {κ ν : Type} [DecidableEq κ] {l : List (κ × ν)} {k : κ} {v v' : ν} : lput l k v' = (lput l k v).map fun x => (x.1, if x.1 = k then v' else x.2) := by
  unfold lput
  split
  · rw [List.map_map]
    refine List.map_congr_left fun x _ => ?_
    simp only [Function.comp]
    by_cases h : x.1 = k <;> simp [h]
  · rename_i hk
    rw [List.map_append]
    congr 1
    · conv => lhs; rw [← List.map_id l]
      refine List.map_congr_left fun x hx => ?_
      have : x.1 ≠ k := fun e => hk (e ▸ List.mem_map_of_mem hx)
      simp [this]
    · simp
theorem lput_at {κ ν : Type} [DecidableEq κ] {l : List (κ × ν)} (hn : (l.map (·.1)).Nodup) {k : κ} {v : ν} {x : κ × ν} (hx : x ∈ lput l k v) (hk : x.1 = k) : x.2 = v := by
  have h := (lput_perm hn k v).mem_iff.1 hx
  rcases List.mem_cons.1 h with h | h
  · rw [h]
  · have := List.mem_map_of_mem (f := (·.1)) h
    rw [hk] at this
    exact absurd this (ldel_keys hn k).2
end Go.Vc
namespace Go.Tab
open Go Go.Vc Go.Vc.Asn
structure Tc where
  delta : Int
  gk : Nat
  keys : List (ByteArray × Nat × Sc)
def Tc.sh (T : Tc) (k : ByteArray) : Sc := match llook T.keys k with | some y => y.2 | none => []
def Tc.mo (T : Tc) (k : ByteArray) : Option Nat := (llook T.keys k).map (·.1)
def zeroE : Ec := ⟨(0, 0), false, false, Slc.nil, []⟩
def lookE (l : Sc) (t : Tg) : Ec := (llook l t).getD zeroE
end Go.Tab
namespace Go.Proofs.YtgnceldnfefnmaaGreat
open Go Go.Vc Go.Vc.Asn Go.Tab Go.Sort
def dataA (x : Tg × Ec) : Asn := own Ty_uint8 1 x.2.s (x.2.data.map u8v)
def shelfA (y : ByteArray × Nat × Sc) : Asn := star (mpS y.2.1 y.2.2) (all dataA y.2.2)
abbrev mpK (g : Nat) (l : List (ByteArray × Nat × Sc)) : Asn := mp (fun s : ByteArray => Value.string s) (fun y : Nat × Sc => Value.map (some y.1)) g l
abbrev tabB (p : Nat) (T : Tc) : Asn := bk p Ty_table_Table #[.int .i64 T.delta, .map (some T.gk)]
def tabA (p : Nat) (T : Tc) : Asn := star (tabB p T) (star (mpK T.gk T.keys) (all shelfA T.keys))
theorem und_keys : PP.underlying Ty_map_string_table_shelf = some (.map Ty_string Ty_table_shelf) := by kernel_rfl
theorem und_tag : ∃ fs, PP.underlying Ty_api_Tag = some (.struct fs) := ⟨_, Tryz.underlying33⟩
theorem keyT_string : KeyT PP Ty_string (fun s : ByteArray => Value.string s) := keyT_str und_string
theorem keyT_tag : KeyT PP Ty_api_Tag Tg.v := by
  obtain ⟨fs, h⟩ := und_tag
  exact keyT_two (n := 2) h (by intros; kernel_rfl) (eqst_33 0) (by decide)
theorem zero_shelf (w : World) : (zeroValue Ty_table_shelf).run PP w = .ok (.map none) w := by kernel_rfl
theorem zero_entry (w : World) : (zeroValue Ty_api_Entry).run PP w = .ok zeroE.v w := run_zero zero_36
theorem tab_keys {p : Nat} {T : Tc} {w0 w : World} {F : Asn} (H : Hp w0 w (star (tabA p T) F)) : (T.keys.map (·.1)).Nodup := by
  have H := H.assoc.swap.assoc
  exact Hp.mpKeys H
theorem tab_open {p : Nat} {T : Tc} (hn : (T.keys.map (·.1)).Nodup) (k : ByteArray) : Ent (tabA p T) (star (mpO (T.mo k) (T.sh k)) (star (tabB p T) (star (mpK T.gk T.keys) (star (all dataA (T.sh k)) (all shelfA (ldel T.keys k)))))) := by
  unfold tabA Tc.mo Tc.sh
  cases h : llook T.keys k with
  | none =>
    rw [ldel_notin (llook_none h)]
    have e1 : ∀ A : Asn, Ent A (star (mpO none []) A) := fun A => emp_l.trans (Ent.star (fun w S h => ⟨rfl, h⟩) (Ent.refl _))
    exact (Ent.star (Ent.refl _) (Ent.star (Ent.refl _) emp_l)).trans (e1 _)
  | some y =>
    have hp : T.keys.Perm ((k, y) :: ldel T.keys k) := ldel_perm hn (llook_mem h)
    refine (Ent.star (Ent.refl _) (Ent.star (Ent.refl _) (all_perm hp))).trans ?_
    show Ent (star (tabB p T) (star (mpK T.gk T.keys) (star (star (mpS y.1 y.2) (all dataA y.2)) (all shelfA (ldel T.keys k))))) _
    exact Ent.pick (P := mpS y.1 y.2) (Ent.pick (P := tabB p T) (Ent.pick (P := mpK T.gk T.keys) (Ent.refl _)))
theorem tab_close {p : Nat} {T : Tc} (hn : (T.keys.map (·.1)).Nodup) (k : ByteArray) : Ent (star (mpO (T.mo k) (T.sh k)) (star (tabB p T) (star (mpK T.gk T.keys) (star (all dataA (T.sh k)) (all shelfA (ldel T.keys k)))))) (tabA p T) := by
  unfold tabA Tc.mo Tc.sh
  cases h : llook T.keys k with
  | none =>
    rw [ldel_notin (llook_none h)]
    have e1 : ∀ A : Asn, Ent (star (mpO none []) A) A := fun A => (Ent.star (A' := emp) (fun w S (h : (mpO none []).p w S) => h.2) (Ent.refl A)).trans emp_l'
    exact (e1 _).trans (Ent.star (Ent.refl _) (Ent.star (Ent.refl _) emp_l'))
  | some y =>
    have hp : T.keys.Perm ((k, y) :: ldel T.keys k) := ldel_perm hn (llook_mem h)
    refine Ent.trans ?_ (Ent.star (Ent.refl _) (Ent.star (Ent.refl _) (all_perm hp.symm)))
    show Ent _ (star (tabB p T) (star (mpK T.gk T.keys) (star (star (mpS y.1 y.2) (all dataA y.2)) (all shelfA (ldel T.keys k)))))
    exact Ent.pick (P := tabB p T) (Ent.pick (P := mpK T.gk T.keys) assoc')
section
variable {p : Nat} {T : Tc} {w0 w : World} {A F : Asn}
abbrev openR (p : Nat) (T : Tc) (k : ByteArray) (F : Asn) : Asn := star (tabB p T) (star (mpK T.gk T.keys) (star (all dataA (T.sh k)) (star (all shelfA (ldel T.keys k)) F)))
theorem openT (k : ByteArray) (H : Hp w0 w (star (tabA p T) F)) : Hp w0 w (star (mpO (T.mo k) (T.sh k)) (openR p T k F)) := by
  have hn := tab_keys H
  have H := H.ent (Ent.star (tab_open hn k) (Ent.refl F))
  exact H.ent (Asn.assoc.trans (Ent.star (Ent.refl _) (Asn.assoc.trans (Ent.star (Ent.refl _) (Asn.assoc.trans (Ent.star (Ent.refl _) Asn.assoc))))))
theorem closeT (k : ByteArray) (hn : (T.keys.map (·.1)).Nodup) (H : Hp w0 w (star (mpO (T.mo k) (T.sh k)) (openR p T k F))) : Hp w0 w (star (tabA p T) F) := by
  have H := H.ent (Ent.star (Ent.refl _) (Ent.star (Ent.refl _) (Ent.star (Ent.refl _) Asn.assoc')))
  have H := H.ent (Ent.star (Ent.refl _) (Ent.star (Ent.refl _) Asn.assoc'))
  have H := H.ent (Ent.star (Ent.refl _) Asn.assoc')
  have H := H.ent Asn.assoc'
  exact H.ent (Ent.star (tab_close hn k) (Ent.refl F))
theorem moV (k : ByteArray) : ((llook T.keys k).map fun y : Nat × Sc => Value.map (some y.1)).getD (.map none) = .map (T.mo k) := by
  unfold Tc.mo
  cases llook T.keys k <;> rfl
theorem lkpK [TakeM (fun s : ByteArray => Value.string s) (fun y : Nat × Sc => Value.map (some y.1)) T.gk A T.keys F] (H : Hp w0 w A) {k : ByteArray} {K : Value → Prop} (h : K (.map (T.mo k))) : Lkp PP Ty_map_string_table_shelf false w (.map (some T.gk)) (.string k) K :=
  Hp.lkp (ev := fun y : Nat × Sc => Value.map (some y.1)) (F := F) H keyT_string und_keys (zero_shelf w) (by simp only [Bool.false_eq_true, if_false]; rw [moV]; exact h)
theorem lkpS {mo : Option Nat} {l : Sc} (H : Hp w0 w (star (mpO mo l) F)) {t : Tg} {K : Value → Prop} (h : K (lookE l t).v) : Lkp PP Ty_table_shelf false w (.map mo) t.v K := by
  cases mo with
  | none =>
    obtain ⟨rfl, _⟩ := H.lift
    exact lkp0 keyT_tag und_shelf (zero_entry w) h
  | some g =>
    have H : Hp w0 w (star (mpS g l) F) := H
    refine Hp.lkp (ev := Ec.v) (l := l) (F := F) H keyT_tag und_shelf (zero_entry w) ?_
    simp only [Bool.false_eq_true, if_false]
    have e : ((llook l t).map Ec.v).getD zeroE.v = (lookE l t).v := by
      unfold lookE
      cases llook l t <;> rfl
    rw [e]
    exact h
theorem tfloor_c {k : ByteArray} (hd : 0 ≤ T.delta) (hl : (T.sh k).length ≤ 1099511627776) (H : Hp w0 w (star (tabA p T) F)) :
    Calls PP F_table_Table_Floor #[.pointer (some (blk p)), .string k] w (Rt fun v w' => v = (floorI T.delta (T.sh k)).v ∧ Hp w0 w' (star (tabA p T) F)) := by
  have hn := tab_keys H
  refine sim_table_Table_Floor _ _ _ _ ?_
  unfold vc_table_Table_Floor
  have H := openT k H
  refine H.new fun b4 w1 H => ⟨fun h => by simp at h, fun _ => ⟨_, rfl, ?_⟩⟩
  have H := H.drew 1
  refine ⟨_, H.cell (b := p) (i := 1) rfl, _, H.cell (b := p) (i := 0) rfl, lkpK H ⟨_, rfl, H.cell (b := p) (i := 0) rfl, call (floor_c _ hd (H.take (mpO (T.mo k) (T.sh k))) hl) ?_⟩⟩
  rintro _ w2 ⟨rfl, H⟩
  refine ⟨_, _, rfl, H.stoAll (b := b4) (by rfl) fun w3 H => ⟨_, H.cell (b := b4) (i := 0) rfl, _, H.cell (b := b4) (i := 1) rfl, Rt.ok ⟨rfl, ?_⟩⟩⟩
  exact closeT k hn ((H.blk b4).drop)
theorem tfloor0_c {k : ByteArray} : Calls PP F_table_Table_Floor #[.pointer none, .string k] w (Rt fun v w' => v = Tg.v (0, 0) ∧ Fr [] w w') := by
  refine sim_table_Table_Floor _ _ _ _ ?_
  unfold vc_table_Table_Floor
  refine (Hp.start w).new fun b4 w1 H => ⟨fun _ => H.stoAll (b := b4) (by rfl) fun w3 H => ⟨_, H.cell (b := b4) (i := 0) rfl, _, H.cell (b := b4) (i := 1) rfl, Rt.ok ⟨rfl, H.fr⟩⟩, fun h => by simp at h⟩
end
end Go.Proofs.YtgnceldnfefnmaaGreat
