/-
  Contracts of what the table's statements share: entries compared.
-/
import Derived.Test.YtgnceldnfefnmaaGreatTabLaw
import Derived.Test.YtgnceldnfefnmaaGreatRdp
import Derived.Laws.Strings
namespace Go.Tab
open Go Go.Vc Go.Vc.Asn
def modI (x m : Int) : Int := (x.tmod m + m).tmod m
theorem tmod_lo (x : Int) {m : Int} (hm : 0 < m) : -m < x.tmod m := Int.lt_tmod_of_pos x hm
theorem modI_lo (x : Int) {m : Int} (hm : 0 < m) : 0 ≤ modI x m := by
  have := tmod_lo x hm
  exact Int.tmod_nonneg _ (by omega)
theorem modI_hi (x : Int) {m : Int} (hm : 0 < m) : modI x m < m := Int.tmod_lt_of_pos _ hm
theorem modI_wr (x : Int) {m : Int} (hm : 0 < m) (h : m ≤ 1000000) : (wr .i64 (x.tmod m + m)).tmod m = modI x m := by
  have h1 := tmod_lo x hm
  have h2 := Int.tmod_lt_of_pos x hm
  rw [wr64 (by omega) (by omega)]
  rfl
end Go.Tab
namespace Go.Proofs.YtgnceldnfefnmaaGreat
open Go Go.Vc Go.Vc.Asn Go.Tab Go.Sort
section
variable {w0 w : World} {F : Asn}
theorem Rdy.rdp {F' : Asn} {d : Slc} {bs : List UInt8} [Take (rdp d bs) F F'] : Rdy w0 F d bs := fun _ _ H => (H.take (Asn.rdp d bs)).rdp
def RdE (w0 : World) (F : Asn) (s : Slc) (es : List Ec) : Prop := ∀ w' A, Hp w0 w' (star A F) → Cel w' s 5 (es.flatMap Ec.c) ∧ ∀ e ∈ es, Byt w' e.s e.data
theorem ent_at {es : List Ec} {e : Ec} (he : e ∈ es) (H : Hp w0 w (star (all entA es) F)) : Byt w e.s e.data := by
  induction es generalizing F with
  | nil => cases he
  | cons x r ih =>
    have H : Hp w0 w (star (star (entA x) (all entA r)) F) := H
    rcases List.mem_cons.1 he with rfl | h
    · have H : Hp w0 w (star (own Ty_uint8 1 e.s (e.data.map u8v)) (star (all entA r) F)) := H.assoc
      exact H.cel (s := e.s) (size := 1)
    · exact ih h H.assoc.swap
theorem RdE.ents {F' : Asn} {s : Slc} {es : List Ec} [Take (entsA s es) F F'] : RdE w0 F s es := fun _ _ H => by
  have H := (H.take (entsA s es)).assoc
  exact ⟨H.cel (s := s), fun e he => ent_at he H.swap⟩
theorem sameEntry_c {a b : Ec} (ha : Byt w a.s a.data) (hb : Byt w b.s b.data) : Calls PP F_sherdlaw15_sameEntry #[a.v, b.v] w (Rt fun v w' => v = .bool (decide (a.abs = b.abs)) ∧ Fr [] w w') := by
  refine sim_sherdlaw15_sameEntry _ _ _ _ _ _ _ _ _ _ _ _ ?_
  unfold vc_sherdlaw15_sameEntry
  refine (Hp.start w).new fun _ w1 H => H.new fun _ w2 H => ?_
  have e1 : decide (a.abs = b.abs) = ((((decide (a.tag.1 = b.tag.1) && (decide (a.tag.2 = b.tag.2))) && (decide (a.fin = b.fin))) && (decide (a.has = b.has))) && decide (a.data = b.data)) := by
    rw [Bool.eq_iff_iff]
    unfold Ec.abs
    simp only [En.mk.injEq, decide_eq_true_eq, Bool.and_eq_true, Prod.ext_iff, and_assoc]
  refine ⟨decide (a.abs = b.abs), fun h => ToStr.rule slT_sl_uint8.ut und_string und_uint8 (ha.fr0 H.fr) (ToStr.rule slT_sl_uint8.ut und_string und_uint8 (hb.fr0 H.fr) ?_), fun h => ?_, Rt.ok ⟨rfl, H.fr⟩⟩
  · rw [e1, h, Bool.true_and, Bool.eq_iff_iff]
    simp only [decide_eq_true_eq]
    rw [ByteArray.toList_mk, ByteArray.toList_mk]
  · rw [e1, h]; rfl
theorem cel_get {s : Slc} {es : List Ec} (h : Cel w s 5 (es.flatMap Ec.c)) {i : Nat} {e : Ec} (he : es[i]? = some e) : ∃ a, s.a = some a ∧ ∀ j v, e.c[j]? = some v → w.cell? ((a.add (i * 5)).add j) = some v := by
  have hi := (List.getElem?_eq_some_iff.1 he).1
  obtain ⟨a, ha, _⟩ := h.get (i := 0) (by rw [flat_len ent_len]; omega)
  refine ⟨a, ha, fun j v hv => ?_⟩
  have hj : j < 5 := (List.getElem?_eq_some_iff.1 hv).1
  obtain ⟨q, hq, hc⟩ := h.at_ (i * 5 + j) v (by rw [flat_get ent_len _ _ (by omega), show (i * 5 + j) / 5 = i by omega, show (i * 5 + j) % 5 = j by omega, he]; exact hv)
  rw [ha] at hq
  injection hq with hq
  rw [add_add, hq]
  exact hc
theorem cel_l {s : Slc} {es : List Ec} (h : Cel w s 5 (es.flatMap Ec.c)) : s.l = es.length := by
  have := h.len
  rw [flat_len ent_len] at this
  omega
theorem sameEntries_c {a b : Slc} {ea eb : List Ec} (ha : RdE w0 F a ea) (hb : RdE w0 F b eb) (hl : ea.length ≤ 1099511627776) (H : Hp w0 w F) : Calls PP F_sherdlaw15_sameEntries #[a.v, b.v] w (Rt fun v w' => v = .bool (decide (ea.map Ec.abs = eb.map Ec.abs)) ∧ Hp w0 w' F) := by
  have hE : ∀ {w'}, Hp w0 w' F → Hp w0 w' (star emp F) := fun H => H.ent emp_l
  have h1 := cel_l (ha _ _ (hE H)).1
  have h2 := cel_l (hb _ _ (hE H)).1
  refine sim_sherdlaw15_sameEntries _ _ _ _ ?_
  unfold vc_sherdlaw15_sameEntries
  rw [h1, h2]
  refine ⟨fun h => Rt.ok ⟨?_, H⟩, fun h => ?_⟩
  · have h : ea.length ≠ eb.length := by simp at h; omega
    congr 1
    symm
    simp only [decide_eq_false_iff_not]
    intro e
    exact h (by simpa using congrArg List.length e)
  have hlen : ea.length = eb.length := by simp at h; omega
  refine ⟨fun i w' => (∃ m : Nat, i = (m : Int) ∧ m ≤ ea.length ∧ (ea.map Ec.abs).take m = (eb.map Ec.abs).take m) ∧ Hp w0 w' F, fun i _ => ea.length - i.toNat, ⟨⟨0, rfl, Nat.zero_le _, rfl⟩, H⟩, ?_⟩
  rintro _ w1 ⟨⟨m, rfl, hm, ht⟩, H⟩
  refine ⟨fun h => ?_, fun h => ?_⟩
  · have hlt : m < ea.length := by simp only [decide_eq_true_eq] at h; omega
    have H := H.drew 1
    obtain ⟨ra, rda⟩ := ha _ _ (hE H)
    obtain ⟨rb, rdb⟩ := hb _ _ (hE H)
    have hx : ea[m]? = some ea[m] := List.getElem?_eq_getElem hlt
    have hy : eb[m]? = some (eb[m]'(by omega)) := List.getElem?_eq_getElem (by omega)
    obtain ⟨p, hp, hc⟩ := cel_get ra hx
    obtain ⟨q, hq, hd⟩ := cel_get rb hy
    refine ⟨p, hp, by omega, by omega, _, hc 0 _ rfl, _, hc 1 _ rfl, _, hc 2 _ rfl, _, hc 3 _ rfl, _, hc 4 _ rfl, q, hq, by omega, by omega, _, hd 0 _ rfl, _, hd 1 _ rfl, _, hd 2 _ rfl, _, hd 3 _ rfl, _, hd 4 _ rfl, call (sameEntry_c (a := ea[m]) (b := eb[m]'(by omega)) (rda _ (List.getElem_mem _)) (rdb _ (List.getElem_mem _))) ?_⟩
    rintro _ w2 ⟨rfl, f⟩
    have H := H.fr0 f
    have e1 : wr .i64 ((m : Int) + 1) = ((m + 1 : Nat) : Int) := by rw [wr64 (by omega) (by omega)]; omega
    refine ⟨_, rfl, fun h => Rt.ok ⟨?_, H⟩, fun h => ⟨⟨⟨m + 1, by rw [e1], by omega, ?_⟩, H⟩, by dsimp only; rw [e1]; omega⟩⟩
    · have h : ea[m].abs ≠ (eb[m]'(by omega)).abs := by simpa using h
      congr 1
      symm
      simp only [decide_eq_false_iff_not]
      intro e
      have := congrArg (fun l => l[m]?) e
      simp only [List.getElem?_map, hx, hy, Option.map_some, Option.some.injEq] at this
      exact h this
    · have h : ea[m].abs = (eb[m]'(by omega)).abs := by simpa using h
      rw [List.take_succ_eq_append_getElem (by simpa using hlt), List.take_succ_eq_append_getElem (by simp; omega), ht]
      simp [h]
  · have hmm : m = ea.length := by simp only [decide_eq_false_iff_not] at h; omega
    refine Rt.ok ⟨?_, H⟩
    congr 1
    symm
    simp only [decide_eq_true_eq]
    rw [List.take_of_length_le (by simp; omega), List.take_of_length_le (by simp; omega)] at ht
    exact ht
end
end Go.Proofs.YtgnceldnfefnmaaGreat
