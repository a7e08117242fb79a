/-
  Plain laws for TablePlays: a table and the document's, of which the same came.
-/
import Derived.Test.YtgnceldnfefnmaaGreatRef15Out
import Derived.Test.YtgnceldnfefnmaaGreatLawAll
namespace Go.Tab
open Go Go.Vc
namespace TbOk
variable {n : Nat} {D : ByteArray → Tg → List UInt8} {FE HE : ByteArray → List Tg} {T T' : Tc}
def updD (D : ByteArray → Tg → List UInt8) (HE : ByteArray → List Tg) (k : ByteArray) (t : Tg) (c : Bool) (bs : List UInt8) : ByteArray → Tg → List UInt8 := fun k' t' => if c = true ∧ k' = k ∧ t' = t ∧ t' ∉ HE k' then bs else D k' t'
theorem turn (h : TbOk n D FE HE T) (k : ByteArray) (t : Tg) (c : Bool) (bs : List UInt8) : TbOk n (updD D HE k t c bs) FE HE T := by
  refine ⟨h.delta, fun k' => ⟨(h.sh k').keys, (h.sh k').mem, fun x hx => ?_⟩, h.fe, h.ne, h.keys⟩
  rw [(h.sh k').val x hx]
  by_cases hm : x.1 ∈ HE k'
  · rw [if_pos hm, if_pos hm]
    unfold updD
    rw [if_neg (fun h => h.2.2.2 hm)]
  · rw [if_neg hm, if_neg hm]
theorem pre_any {k : ByteArray} {t : Tg} {bs : List UInt8} {b : Bool} (h : TbOk n D FE HE T) (hr : preR T k t bs T' b) : TbOk n (updD D HE k t true bs) FE (upd HE k t true) T' ∧ b = (!(lookE (T.sh k) t).has && !ltT t (fl n (FE k))) := by
  by_cases hm : t ∈ HE k
  · have e : updD D HE k t true bs = D := by
      funext k' t'
      unfold updD
      rw [if_neg]
      rintro ⟨_, rfl, rfl, h2⟩
      exact h2 hm
    rw [e]
    obtain ⟨hb, h1, h2⟩ := hr
    have hbf : b = false := by
      rw [hb]
      unfold preOk
      rw [h.floor k]
      cases hl : ltT t (fl n (FE k)) with
      | true => simp
      | false => rw [((h.sh k).look_abs hl).2.1]; simp [hm]
    exact h.pre ⟨hb, h1, fun h => by rw [hbf] at h; cases h⟩
  · have e : updD D HE k t true bs k t = bs := by unfold updD; rw [if_pos ⟨rfl, rfl, rfl, hm⟩]
    have h1 := h.turn k t true bs
    exact h1.pre (by rw [e]; exact hr)
theorem ap_any {u : Upt} {b : Bool} {e : Int} (h : TbOk n D FE HE T) (hm : mayB u = true) (h0 : ltT (0, 0) u.tag = true) (hr : apR T u T' b e) :
    e = 0 ∧ TbOk n (updD D HE u.key u.tag (comesB u) u.data) (upd FE u.key u.tag (endsB u)) (upd HE u.key u.tag (comesB u)) T' ∧ b = (!ltT u.tag (fl n (FE u.key)) && ((comesB u && !decide (u.tag ∈ HE u.key)) || (endsB u && !decide (u.tag ∈ FE u.key)))) := by
  have hupd : ∀ (f : ByteArray → List Tg), upd f u.key u.tag false = f := fun f => by funext k'; unfold upd; simp
  have hupD : updD D HE u.key u.tag false u.data = D := by funext k' t'; unfold updD; simp
  rcases hr with ⟨h1, _⟩ | ⟨_, he, T1, b1, b2, h1, h2, hb⟩
  · rw [hm] at h1; cases h1
  have H1 : TbOk n (updD D HE u.key u.tag (comesB u) u.data) FE (upd HE u.key u.tag (comesB u)) T1 ∧ b1 = (comesB u && (!ltT u.tag (fl n (FE u.key)) && !decide (u.tag ∈ HE u.key))) := by
    cases hc : comesB u with
    | true =>
      rw [hc] at h1
      obtain ⟨h3, h4⟩ := h.pre_any h1
      refine ⟨h3, ?_⟩
      rw [h4]
      cases hl : ltT u.tag (fl n (FE u.key)) with
      | true => simp
      | false => rw [((h.sh u.key).look_abs hl).2.1]; simp
    | false =>
      rw [hc] at h1
      simp only [Bool.false_eq_true, if_false] at h1
      rw [h1.1, hupd, hupD]
      exact ⟨h, by rw [h1.2]; rfl⟩
  have H2 : TbOk n (updD D HE u.key u.tag (comesB u) u.data) (upd FE u.key u.tag (endsB u)) (upd HE u.key u.tag (comesB u)) T' ∧ b2 = (endsB u && (!ltT u.tag (fl n (FE u.key)) && !decide (u.tag ∈ FE u.key))) := by
    cases hc : endsB u with
    | true =>
      rw [hc] at h2
      obtain ⟨h3, h4⟩ := H1.1.fin h0 h2
      refine ⟨h3, ?_⟩
      rw [h4]
      cases hl : ltT u.tag (fl n (FE u.key)) with
      | true => simp
      | false => rw [((H1.1.sh u.key).look_abs hl).1]; simp
    | false =>
      rw [hc] at h2
      simp only [Bool.false_eq_true, if_false] at h2
      rw [h2.1, hupd]
      exact ⟨H1.1, by rw [h2.2]; rfl⟩
  refine ⟨he, H2.1, ?_⟩
  rw [hb, H1.2, H2.2]
  cases comesB u <;> cases endsB u <;> cases ltT u.tag (fl n (FE u.key)) <;> simp
theorem keys_perm (h : TbOk n D FE HE T) (h' : TbOk n D FE HE T') : (T.keys.map (·.1)).Perm (T'.keys.map (·.1)) := (List.perm_ext_iff_of_nodup h.keys h'.keys).2 fun k => by
  rw [h.key_iff, h'.key_iff, h.list_ne, h'.list_ne, h.list, h'.list]
theorem all_eq (h : TbOk n D FE HE T) (h' : TbOk n D FE HE T') : allS T = allS T' := h.all_ext h' (fun _ _ => Iff.rfl) (fun _ _ => Iff.rfl)
theorem sh_perm (h : TbOk n D FE HE T) (h' : TbOk n D FE HE T') (k : ByteArray) : ((T.sh k).map (·.1)).Perm ((T'.sh k).map (·.1)) := (List.perm_ext_iff_of_nodup (h.sh k).keys (h'.sh k).keys).2 fun t => by rw [(h.sh k).mem, (h'.sh k).mem]
theorem sh_len (h : TbOk n D FE HE T) (h' : TbOk n D FE HE T') (k : ByteArray) : (T.sh k).length = (T'.sh k).length := by
  have := (h.sh_perm h' k).length_eq
  simpa using this
theorem look_eq (h : TbOk n D FE HE T) (h' : TbOk n D FE HE T') (k : ByteArray) (t : Tg) : (lookE (T.sh k) t).abs = (lookE (T'.sh k) t).abs ∧ (llook (T.sh k) t).isSome = (llook (T'.sh k) t).isSome := by
  have hp := h.sh_perm h' k
  by_cases hm : t ∈ (T.sh k).map (·.1)
  · have hm' := hp.mem_iff.1 hm
    obtain ⟨x, hx, e1⟩ := List.mem_map.1 hm
    obtain ⟨y, hy, e2⟩ := List.mem_map.1 hm'
    subst e1
    have a1 := lookE_of' (h.sh k).keys hx
    have a2 := lookE_of' (h'.sh k).keys hy
    rw [e2] at a2
    refine ⟨?_, ?_⟩
    · rw [a1, a2, (h.sh k).val x hx, (h'.sh k).val y hy, e2]
    · rw [llook_of (h.sh k).keys (show (x.1, x.2) ∈ T.sh k from hx), llook_of (h'.sh k).keys (show (x.1, y.2) ∈ T'.sh k from by rw [← e2]; exact hy)]
      rfl
  · have hm' := fun h => hm (hp.mem_iff.2 h)
    have n1 : llook (T.sh k) t = none := by
      cases hl : llook (T.sh k) t with
      | none => rfl
      | some e => exact absurd (List.mem_map_of_mem (f := (·.1)) (llook_mem hl)) hm
    have n2 : llook (T'.sh k) t = none := by
      cases hl : llook (T'.sh k) t with
      | none => rfl
      | some e => exact absurd (List.mem_map_of_mem (f := (·.1)) (llook_mem hl)) hm'
    unfold lookE
    rw [n1, n2]
    exact ⟨rfl, rfl⟩
theorem upd_nodup (h : TbOk n D FE HE T) : ((updL (allS T)).map fun a => (a.key, a.en.tag)).Nodup := by
  have e2 : (updL (allS T)).map (fun a => (a.key, a.en.tag)) = (sortK (T.keys.map (·.1))).flatMap fun k => (listS (T.sh k)).map fun e => (k, e.tag) := by
    unfold updL allS
    rw [List.flatMap_map, List.map_flatMap]
    congr 1
    funext k
    rw [List.map_map]
    rfl
  rw [e2]
  show List.Pairwise (· ≠ ·) _
  rw [List.pairwise_flatMap]
  constructor
  · intro k _
    rw [List.pairwise_map]
    have h1 : ((listS (T.sh k)).map (·.tag)).Pairwise (· ≠ ·) := by
      rw [h.list]
      unfold listC
      rw [List.map_map]
      show (List.map id _).Pairwise _
      rw [List.map_id]
      exact (sortU_perm _).nodup_iff.2 ((uni_nodup (h.fe k).1 _).sublist List.filter_sublist)
    rw [List.pairwise_map] at h1
    exact h1.imp fun hne e => hne (congrArg Prod.snd e)
  · have h1 : (sortK (T.keys.map (·.1))).Nodup := (sortK_perm _).nodup_iff.2 h.keys
    refine List.Pairwise.imp (fun {a b} hab => ?_) h1
    intro x hx y hy e
    obtain ⟨_, _, rfl⟩ := List.mem_map.1 hx
    obtain ⟨_, _, rfl⟩ := List.mem_map.1 hy
    exact hab (congrArg Prod.fst e)
end TbOk
structure Sl where
  p : Nat
  T : Tc
  q : Nat
  R : Rf
  TR : Tc
  n : Nat
  D : ByteArray → Tg → List UInt8
  FE : ByteArray → List Tg
  HE : ByteArray → List Tg
structure Sl.Ref (x : Sl) : Prop where
  r : TbOk x.n x.D x.FE x.HE x.TR
  s : Sim x.R x.TR
  d : ∀ k t, (x.D k t).length ≤ 65540
  n : (x.n : Int) ≤ 4611686018427387903
structure Sl.Ok (x : Sl) : Prop where
  t : TbOk x.n x.D x.FE x.HE x.T
  f : x.Ref
namespace Sl
open Go.Proofs.YtgnceldnfefnmaaGreat
variable {x : Sl}
theorem Ref.nd (h : x.Ref) (k : ByteArray) : ((x.TR.sh k).map (·.1)).Nodup := (h.r.sh k).keys
theorem Ref.delta (h : x.Ref) : x.R.delta = x.n := by rw [← h.s.delta, h.r.delta]
theorem Ref.data (h : x.Ref) : ∀ r ∈ x.R.rows, r.e.data.length ≤ 1099511627776 := fun r hr => by
  have h1 := rsh_mem hr
  rw [← h.s.sh] at h1
  exact TbOk.dataLen h.r (fun k t => Nat.le_trans (h.d k t) (by decide)) r.key _ h1
theorem Ref.keys (h : x.Ref) : x.TR.keys.length ≤ x.R.rows.length := by
  have h1 := nodup_len (l1 := x.TR.keys.map (·.1)) (l2 := x.R.rows.map (·.key)) h.r.keys fun k hk => by
    obtain ⟨y, hy, rfl⟩ := List.mem_map.1 hk
    have h1 := h.r.ne y hy
    rw [← sh_of h.r.keys hy, h.s.sh] at h1
    obtain ⟨z, l', hz⟩ := List.exists_cons_of_ne_nil h1
    have h2 := rsh_tag (l := x.R.rows) (k := y.1) (x := z) (by rw [hz]; exact List.mem_cons_self)
    exact List.mem_map_of_mem (f := (·.key)) h2.2
  simpa using h1
theorem Ref.tot (h : x.Ref) : (updL (allS x.TR)).length ≤ x.R.rows.length := by
  have h1 := nodup_len (l1 := (updL (allS x.TR)).map fun a => (a.key, a.en.tag)) (l2 := x.R.rows.map fun r => (r.key, r.e.tag)) h.r.upd_nodup fun k hk => by
    obtain ⟨a, ha, rfl⟩ := List.mem_map.1 hk
    obtain ⟨y, hy, hz⟩ := List.mem_flatMap.1 ha
    obtain ⟨e, he, rfl⟩ := List.mem_map.1 hz
    rw [TbOk.all_at hy] at he
    unfold listS at he
    obtain ⟨t, ht, rfl⟩ := List.mem_map.1 he
    have ht := (sortU_perm _).mem_iff.1 ht
    obtain ⟨z, hzz, rfl⟩ := List.mem_map.1 ht
    have h3 := lookE_of' (h.nd y.1) hzz
    rw [h.s.sh] at hzz
    have h2 := rsh_tag hzz
    refine List.mem_map.2 ⟨_, h2.2, ?_⟩
    show (y.1, z.2.tag) = (y.1, (lookE (x.TR.sh y.1) z.1).tag)
    rw [h3]
  simpa using h1
theorem Ok.keysT (h : x.Ok) : x.T.keys.length = x.TR.keys.length := by
  have := (h.t.keys_perm h.f.r).length_eq
  simpa using this
theorem Ok.lenT (h : x.Ok) (k : ByteArray) : (x.T.sh k).length ≤ x.R.rows.length := by
  rw [h.t.sh_len h.f.r, h.f.s.sh]
  exact rsh_len _ _
theorem Ok.tell (h : x.Ok) (hl : x.R.rows.length ≤ 1099511627776) : Tell x.T := by
  have h1 := h.f.keys
  have h2 := h.keysT
  exact ⟨by omega, fun k => Nat.le_trans (h.lenT k) hl, fun k => (h.t.sh k).tagOk, fun k => TbOk.dataLen h.t (fun k t => Nat.le_trans (h.f.d k t) (by decide)) k⟩
theorem Ok.all (h : x.Ok) : allS x.T = allS x.TR := h.t.all_eq h.f.r
theorem Ok.keyS (h : x.Ok) : sortK (x.T.keys.map (·.1)) = sortK (x.TR.keys.map (·.1)) := sortK_ext (h.t.keys_perm h.f.r)
theorem Ok.hds {hs : List Hd} (h : x.Ok) (hl : x.R.rows.length ≤ 1099511627776) (he : hs.map Hd.abs = allS x.T) : hs.length ≤ 1099511627776 ∧ ∀ y ∈ hs, y.es.length ≤ 1099511627776 := by
  have ht := h.tell hl
  refine ⟨?_, fun y hy => ?_⟩
  · have h1 := congrArg List.length he
    rw [List.length_map, allS_len] at h1
    have := ht.n
    omega
  · have h1 : y.abs ∈ allS x.T := he ▸ List.mem_map_of_mem hy
    have h2 := TbOk.all_at h1
    have h3 : y.es.length = (listS (x.T.sh y.key)).length := by
      have := congrArg List.length h2
      simpa [Hd.abs] using this
    have h4 : (listS (x.T.sh y.key)).length = (x.T.sh y.key).length := by unfold listS; rw [List.length_map, (sortU_perm _).length_eq, List.length_map]
    have := ht.len y.key
    omega
end Sl
def outU (x : Option Sl) (u : Upt) : Bool × Int := match x with
  | none => (false, 0)
  | some x => (mayB u && (!ltT u.tag (fl x.n (x.FE u.key)) && ((comesB u && !decide (u.tag ∈ x.HE u.key)) || (endsB u && !decide (u.tag ∈ x.FE u.key)))), if mayB u then 0 else 1)
theorem may_pos {u : Upt} (h : mayB u = true) : ltT (0, 0) u.tag = true := by
  unfold mayB at h
  simp only [Bool.and_eq_true, Bool.not_eq_true', Bool.or_eq_false_iff] at h
  have h1 := h.1.1.2
  unfold properT at h1
  unfold ltT
  simp at h1 ⊢
  omega
theorem may_len {u : Upt} (h : mayB u = true) : u.data.length ≤ 65540 := by
  unfold mayB at h
  simp only [Bool.and_eq_true, Bool.not_eq_true', Bool.or_eq_false_iff, decide_eq_false_iff_not] at h
  have := h.1.2
  omega
def updS (x : Sl) (u : Upt) (R : Rf) (TR : Tc) : Sl := if mayB u then { x with R := R, TR := TR, D := TbOk.updD x.D x.HE u.key u.tag (comesB u) u.data, FE := upd x.FE u.key u.tag (endsB u), HE := upd x.HE u.key u.tag (comesB u) } else { x with R := R, TR := TR }
theorem ap_out {x : Sl} {u : Upt} {T T' : Tc} {b : Bool} {e : Int} (h : TbOk x.n x.D x.FE x.HE T) (hr : apR T u T' b e) : (b, e) = outU (some x) u ∧ ∀ R TR, TbOk (updS x u R TR).n (updS x u R TR).D (updS x u R TR).FE (updS x u R TR).HE T' := by
  unfold outU updS
  cases hm : mayB u with
  | true =>
    obtain ⟨h1, h2, h3⟩ := h.ap_any hm (may_pos hm) hr
    exact ⟨by rw [h1, h3]; rfl, fun _ _ => h2⟩
  | false =>
    rcases hr with ⟨_, h1, h2, h3⟩ | ⟨h1, _⟩
    · rw [h1, h2, h3]
      exact ⟨rfl, fun _ _ => h⟩
    · rw [hm] at h1; cases h1
theorem updS_d {x : Sl} {u : Upt} {R : Rf} {TR : Tc} (hd : ∀ k t, (x.D k t).length ≤ 65540) (k : ByteArray) (t : Tg) : ((updS x u R TR).D k t).length ≤ 65540 := by
  unfold updS
  split
  · rename_i hm
    show (TbOk.updD x.D x.HE u.key u.tag (comesB u) u.data k t).length ≤ 65540
    unfold TbOk.updD
    split
    · exact may_len hm
    · exact hd k t
  · exact hd k t
theorem updS_same (x : Sl) (u : Upt) (R : Rf) (TR : Tc) : (updS x u R TR).p = x.p ∧ (updS x u R TR).q = x.q ∧ (updS x u R TR).R = R ∧ (updS x u R TR).TR = TR ∧ (updS x u R TR).T = x.T ∧ (updS x u R TR).n = x.n := by
  unfold updS
  split <;> exact ⟨rfl, rfl, rfl, rfl, rfl, rfl⟩
end Go.Tab
