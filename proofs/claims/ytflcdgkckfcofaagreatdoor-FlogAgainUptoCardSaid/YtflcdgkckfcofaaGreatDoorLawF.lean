/-
  The log's law: its functions' contracts, a log at rest, played, found; FlogOthers' contract.
-/
import Derived.Test.YtflcdgkckfcofaaGreatDoorFlogE
namespace Go.Proofs.YtflcdgkckfcofaaGreatDoor
open Go Go.Vc Go.Vc.Asn Go.Disk
def modI (k n : Int) : Int := if k.tmod n < 0 then k.tmod n + n else k.tmod n
theorem modI_at {k n : Int} (hn : 0 < n) : 0 ≤ modI k n ∧ modI k n < n := by
  have h1 := Int.tmod_lt_of_pos k hn
  have h2 : -n < k.tmod n := by
    rcases Int.le_total 0 k with h | h
    · have := Int.tmod_nonneg n h; omega
    · have e : k = -(-k) := by omega
      rw [e, Int.neg_tmod]
      have := Int.tmod_lt_of_pos (-k) hn
      omega
  unfold modI
  split <;> omega
theorem mod_c {k n : Int} {w : World} (hn : 0 < n) (hm : n ≤ 4294967296) : Calls PP F_sherdlaw14_mod #[.int .i64 k, .int .i64 n] w (Rt fun v w' => v = .int .i64 (modI k n) ∧ w' = w) := by
  refine sim_sherdlaw14_mod _ _ _ _ ?_
  unfold vc_sherdlaw14_mod
  have h1 := modI_at (k := k) hn
  have h2 := Int.tmod_lt_of_pos k hn
  refine ⟨by omega, fun r w' => r = modI k n ∧ w' = w, ⟨fun h => ⟨?_, rfl⟩, fun h => ⟨?_, rfl⟩⟩, ?_⟩
  · have h : k.tmod n < 0 := by simpa using h
    have e : modI k n = k.tmod n + n := if_pos h
    rw [e] at h1 ⊢
    exact wr64 (by omega) (by omega)
  · have h : ¬ k.tmod n < 0 := by simpa using h
    exact (if_neg h).symm
  · rintro _ _ ⟨rfl, rfl⟩
    exact Rt.ok ⟨rfl, rfl⟩
structure LifeV where
  n : Int
  k : Int
  s : Int
  sc : Slc
  lk : Int
  lu : Slc
  ln : Int
  ly : Bool
  ll : Slc
  h1 : Int
  h2 : Int
  h3 : Int
  h4 : Int
  at_ : Int
  y : Bool
  l : Slc
  ag : Int
  l2 : Slc
def LifeV.c (x : LifeV) : List Value := [.int .i64 x.n, .int .i64 x.k, .int .i64 x.s, x.sc.v, .int .i64 x.lk, x.lu.v, .int .i64 x.ln, .bool x.ly, x.ll.v, .int .i64 x.h1, .int .i64 x.h2, .int .i64 x.h3, .int .i64 x.h4, .int .i64 x.at_, .bool x.y, x.l.v, .int .i64 x.ag, x.l2.v]
def LifeV.v (x : LifeV) : Value := .agg #[.int .i64 x.n, .int .i64 x.k, .int .i64 x.s, x.sc.v, .int .i64 x.lk, x.lu.v, .int .i64 x.ln, .bool x.ly, x.ll.v, .int .i64 x.h1, .int .i64 x.h2, .int .i64 x.h3, .int .i64 x.h4, .int .i64 x.at_, .bool x.y, x.l.v, .int .i64 x.ag, x.l2.v]
def LifeV.hn (x : LifeV) : Int := modI x.n 9 + 1
def LifeV.hk (x : LifeV) : Int := modI x.k x.hn + 1
def LifeV.hs (x : LifeV) : Int := modI x.s x.hn
theorem LifeV.hd (x : LifeV) : 1 ≤ x.hk ∧ x.hk ≤ x.hn ∧ x.hn ≤ 9 ∧ 0 ≤ x.hs ∧ x.hs < x.hn := by
  have h1 := modI_at (k := x.n) (n := 9) (by omega)
  have e1 : x.hn = modI x.n 9 + 1 := rfl
  have h2 := modI_at (k := x.k) (n := x.hn) (by omega)
  have h3 := modI_at (k := x.s) (n := x.hn) (by omega)
  have e2 : x.hk = modI x.k x.hn + 1 := rfl
  have e3 : x.hs = modI x.s x.hn := rfl
  omega
theorem mayHead_zero {n k d s : Int} (h1 : 1 ≤ k) (h2 : k ≤ n) (h3 : n ≤ 255) (h4 : 0 ≤ d) (h5 : d ≤ 4611686018427387903) (h6 : 0 ≤ s) (h7 : s < n) : mayHeadV n k d s = 0 := by
  have hc : checkV n k d = 0 := by
    unfold checkV
    simp
    omega
  unfold mayHeadV
  rw [hc]
  simp
  omega
theorem LifeV.may (x : LifeV) : mayHeadV x.hn x.hk 0 x.hs = 0 := by
  obtain ⟨h1, h2, h3, h4, h5⟩ := x.hd
  exact mayHead_zero h1 h2 (by omega) (by omega) (by omega) h4 h5
def LifeV.hv (x : LifeV) : Value := .agg #[.int .i64 x.hn, .int .i64 x.hk, .int .i64 0, .int .i64 x.hs]
theorem head_c {x : LifeV} {w : World} : Calls PP F_sherdlaw14_Life_head #[x.v] w (Rt fun v w' => v = x.hv ∧ Fr [] w w') := by
  refine sim_sherdlaw14_Life_head _ _ _ _ _ _ _ _ _ _ _ _ _ _ _ _ _ _ _ _ ?_
  unfold vc_sherdlaw14_Life_head
  obtain ⟨h1, h2, h3, h4, h5⟩ := x.hd
  have hm := modI_at (k := x.n) (n := 9) (by omega)
  have e1 : wr .i64 (modI x.n 9 + 1) = x.hn := by rw [wr64 (by omega) (by omega)]; rfl
  have hm2 := modI_at (k := x.k) (n := x.hn) (by omega)
  have e2 : wr .i64 (modI x.k x.hn + 1) = x.hk := by rw [wr64 (by omega) (by omega)]; rfl
  refine (Hp.start w).new fun b20 w1 H => H.new fun b23 w2 H => H.new fun b27 w3 H => ?_
  refine H.stoAll (b := b27) (by rfl) fun w4 H => ?_
  refine ⟨x.n, H.cell (b := b20) (i := 0) rfl, call (mod_c (by omega) (by omega)) ?_⟩
  rintro _ _ ⟨rfl, rfl⟩
  refine ⟨_, rfl, ?_⟩
  rw [e1]
  refine H.sto2 (b := b27) (i := 0) (j := 0) (by decide) fun w5 H => ?_
  refine ⟨x.k, H.cell (b := b20) (i := 1) rfl, x.hn, H.cell2 (b := b27) (i := 0) (j := 0) rfl, call (mod_c (by omega) (by omega)) ?_⟩
  rintro _ _ ⟨rfl, rfl⟩
  refine ⟨_, rfl, ?_⟩
  rw [e2]
  refine H.sto2 (b := b27) (i := 0) (j := 1) (by simp) fun w6 H => ?_
  refine ⟨x.s, H.cell (b := b20) (i := 2) rfl, x.hn, H.cell2 (b := b27) (i := 0) (j := 0) rfl, call (mod_c (by omega) (by omega)) ?_⟩
  rintro _ _ ⟨rfl, rfl⟩
  refine ⟨_, rfl, H.sto (b := b27) (i := 3) (by simp) fun w7 H => ?_⟩
  refine ⟨x.hn, H.cell (b := b27) (i := 0) rfl, x.hk, H.cell (b := b27) (i := 1) rfl, 0, H.cell (b := b27) (i := 2) rfl, x.hs, H.cell (b := b27) (i := 3) rfl, ?_⟩
  refine H.stoAll (b := b23) (by rfl) fun w8 H => ?_
  exact ⟨x.hn, H.cell (b := b23) (i := 0) rfl, x.hk, H.cell (b := b23) (i := 1) rfl, 0, H.cell (b := b23) (i := 2) rfl, x.hs, H.cell (b := b23) (i := 3) rfl, Rt.ok ⟨rfl, H.fr⟩⟩
theorem fsame_c {w : World} {a b : Slc} {xs ys : List UInt8} (ha : Byt w a xs) (hb : Byt w b ys) : Calls PP F_sherdlaw14_same #[a.v, b.v] w (Rt fun v w' => v = .bool (decide (xs = ys)) ∧ w' = w) := by
  refine sim_sherdlaw14_same _ _ _ _ ?_
  unfold vc_sherdlaw14_same
  refine ToStr.rule slT_sl_uint8.ut und_string und_uint8 ha (ToStr.rule slT_sl_uint8.ut und_string und_uint8 hb (Rt.ok ⟨?_, rfl⟩))
  congr 1
  simp
end Go.Proofs.YtflcdgkckfcofaaGreatDoor

namespace Go.Proofs.YtflcdgkckfcofaaGreatDoor
open Go Go.Vc Go.Vc.Asn Go.Disk
def neU (a b : Upd) : Bool := ((((decide (a.kind ≠ b.kind) || decide (a.key.toList ≠ b.key.toList)) || !(decide (a.cnt = b.cnt) && decide (a.cli = b.cli))) || decide (a.fin ≠ b.fin)) || decide (a.has ≠ b.has)) || !decide (a.ds = b.ds)
theorem key_inj {a b : ByteArray} (h : a.toList = b.toList) : a = b := by
  obtain ⟨x⟩ := a
  obtain ⟨y⟩ := b
  rw [ByteArray.toList_mk, ByteArray.toList_mk] at h
  congr 1
  exact Array.toList_inj.1 h
theorem neU_iff (a b : Upd) : neU a b = false ↔ Vc_up a = Vc_up b := by
  unfold neU Vc_up
  simp only [Bool.or_eq_false_iff, decide_eq_false_iff_not, Bool.not_eq_false', Bool.and_eq_true, decide_eq_true_eq, ne_eq, Decidable.not_not, Up.mk.injEq]
  constructor
  · rintro ⟨⟨⟨⟨⟨h1, h2⟩, h3, h4⟩, h5⟩, h6⟩, h7⟩
    exact ⟨h1, key_inj h2, h3, h4, h5, h6, h7⟩
  · rintro ⟨h1, h2, h3, h4, h5, h6, h7⟩
    exact ⟨⟨⟨⟨⟨h1, by rw [h2]⟩, h3, h4⟩, h5⟩, h6⟩, h7⟩
theorem fupdates_c {a b : Slc} {la lb : List Upd} {w : World} (ha : Ups w a la) (hb : Ups w b lb) (hm : la.length ≤ 4611686018427387904) : Calls PP F_sherdlaw14_updates #[a.v, b.v] w (Rt fun v w' => (∃ r, v = .bool r ∧ (r = true ↔ la.map Vc_up = lb.map Vc_up)) ∧ Fr [] w w') := by
  refine sim_sherdlaw14_updates _ _ _ _ ?_
  unfold vc_sherdlaw14_updates
  have hal := ha.len
  have hbl := hb.len
  refine ⟨fun h => Rt.ok ⟨⟨false, rfl, fun h' => (by cases h'), fun h' => ?_⟩, Fr.refl _ _⟩, fun h => ?_⟩
  · have := congrArg List.length h'
    simp at this h
    omega
  have hll : la.length = lb.length := by simp at h; omega
  refine ⟨fun i w' => ∃ j : Nat, i = (j : Int) ∧ j ≤ la.length ∧ (la.take j).map Vc_up = (lb.take j).map Vc_up ∧ Fr [] w w', fun i _ => la.length - i.toNat, ⟨0, rfl, Nat.zero_le _, by simp, Fr.refl _ _⟩, ?_⟩
  rintro _ w1 ⟨j, rfl, hj, hpre, f1⟩
  refine ⟨fun h => ?_, fun h => ?_⟩
  · have hlt : j < la.length := by simp at h; omega
    have hlt2 : j < lb.length := by omega
    refine rdU hlt (ha.fr0 f1) fun p hp => ?_
    refine (Hp.start w1).new fun b37 w2 H => ?_
    refine H.stoAll (b := b37) (by rfl) fun w3 H => ?_
    refine rdU hlt2 ((hb.fr0 f1).fr0 H.fr) fun p2 hp2 => ?_
    refine H.new fun b60 w4 H => ?_
    refine H.stoAll (b := b60) (by rfl) fun w5 H => ?_
    have f5 := f1.then_ H.fr
    refine ⟨_, H.cell (b := b37) (i := 0) rfl, _, H.cell (b := b60) (i := 0) rfl, decide (la[j].kind ≠ lb[j].kind) || decide (la[j].key.toList ≠ lb[j].key.toList), fun h => ⟨_, H.cell (b := b37) (i := 1) rfl, _, H.cell (b := b60) (i := 1) rfl, by rw [h]; rfl⟩, fun h => by rw [h]; rfl, ?_⟩
    refine ⟨(decide (la[j].kind ≠ lb[j].kind) || decide (la[j].key.toList ≠ lb[j].key.toList)) || !(decide (la[j].cnt = lb[j].cnt) && decide (la[j].cli = lb[j].cli)), fun h => ⟨_, H.cell3 (b := b37) (i := 2) (j := 0) (l := 0) rfl, _, H.cell3 (b := b37) (i := 2) (j := 0) (l := 1) rfl, _, H.cell3 (b := b60) (i := 2) (j := 0) (l := 0) rfl, _, H.cell3 (b := b60) (i := 2) (j := 0) (l := 1) rfl, by rw [h]; rfl⟩, fun h => by rw [h]; rfl, ?_⟩
    refine ⟨((decide (la[j].kind ≠ lb[j].kind) || decide (la[j].key.toList ≠ lb[j].key.toList)) || !(decide (la[j].cnt = lb[j].cnt) && decide (la[j].cli = lb[j].cli))) || decide (la[j].fin ≠ lb[j].fin), fun h => ⟨_, H.cell2 (b := b37) (i := 2) (j := 2) rfl, _, H.cell2 (b := b60) (i := 2) (j := 2) rfl, by rw [h]; rfl⟩, fun h => by rw [h]; rfl, ?_⟩
    refine ⟨(((decide (la[j].kind ≠ lb[j].kind) || decide (la[j].key.toList ≠ lb[j].key.toList)) || !(decide (la[j].cnt = lb[j].cnt) && decide (la[j].cli = lb[j].cli))) || decide (la[j].fin ≠ lb[j].fin)) || decide (la[j].has ≠ lb[j].has), fun h => ⟨_, H.cell2 (b := b37) (i := 2) (j := 3) rfl, _, H.cell2 (b := b60) (i := 2) (j := 3) rfl, by rw [h]; rfl⟩, fun h => by rw [h]; rfl, ?_⟩
    refine ⟨fun x w' => x = neU la[j] lb[j] ∧ Fr [] w w', ⟨fun h => ⟨la[j].data, H.cell2 (b := b37) (i := 2) (j := 4) rfl, lb[j].data, H.cell2 (b := b60) (i := 2) (j := 4) rfl, ?_⟩, fun h => ⟨?_, f5⟩⟩, ?_⟩
    · refine call (fsame_c ((ha.dat _ (List.getElem_mem hlt)).1.fr0 f5) ((hb.dat _ (List.getElem_mem hlt2)).1.fr0 f5)) ?_
      rintro _ _ ⟨rfl, rfl⟩
      refine ⟨_, rfl, ?_, f5⟩
      unfold neU
      rw [h]
      rfl
    · unfold neU
      rw [h]
      rfl
    · rintro _ w6 ⟨rfl, f6⟩
      have e1 : ∀ (l : List Upd) (h : j < l.length), (l.take (j + 1)).map Vc_up = (l.take j).map Vc_up ++ [Vc_up l[j]] := fun l h => by rw [take_snoc h, List.map_append]; rfl
      refine ⟨fun h => Rt.ok ⟨⟨false, rfl, fun h' => (by cases h'), fun h' => ?_⟩, f6⟩, fun h => ⟨⟨j + 1, wrj (by omega), hlt, ?_, f6⟩, by rw [wrj (j := j) (by omega)]; dsimp only; omega⟩⟩
      · have e := congrArg (fun l => l[j]?) h'
        simp only [List.getElem?_map, List.getElem?_eq_getElem hlt, List.getElem?_eq_getElem hlt2, Option.map_some, Option.some.injEq] at e
        rw [(neU_iff _ _).2 e] at h
        cases h
      · rw [e1 la hlt, e1 lb hlt2, hpre, (neU_iff _ _).1 h]
  · have hje : j = la.length := by simp at h; omega
    subst hje
    rw [List.take_length, hll, List.take_length] at hpre
    exact Rt.ok ⟨⟨true, rfl, fun _ => hpre, fun _ => rfl⟩, f1⟩
end Go.Proofs.YtflcdgkckfcofaaGreatDoor

namespace Go.Proofs.YtflcdgkckfcofaaGreatDoor
open Go Go.Vc Go.Vc.Asn Go.Disk
def badG (u : Upd) : Bool := (((((decide ((u.key.size : Int) < 1) || decide (64 < (u.key.size : Int))) || decide (u.cnt < 1)) || decide (4611686018427387903 < u.cnt)) || decide (u.cli < 1)) || decide (65535 < u.cli)) || decide (65540 < (u.data.l : Int))
def goodF (u : Upd) : Upd := if u.kind = 1 then { u with fin := false, has := false } else if u.kind = 2 then { u with fin := false, has := false, data := Slc.nil, ds := [] } else if u.has = true then u else { u with fin := true, data := Slc.nil, ds := [] }
def kindG (u : Upd) : Bool := decide (u.kind = 1) || decide (u.kind = 2) || decide (u.kind = 3)
def goodB (u : Upd) : Bool := !badG u && kindG u
def goodL (l : List Upd) : List Upd := (l.filter goodB).map goodF
theorem goodL_snoc (l : List Upd) (u : Upd) : goodL (l ++ [u]) = if goodB u = true then goodL l ++ [goodF u] else goodL l := by
  unfold goodL
  rw [List.filter_append, List.map_append]
  by_cases h : goodB u = true
  · rw [if_pos h]; simp [h]
  · rw [if_neg h]; simp [h]
theorem goodL_len (l : List Upd) : (goodL l).length ≤ l.length := by
  unfold goodL
  rw [List.length_map]
  exact List.length_filter_le _ _
theorem may_mk {kind : Int} {kl : Nat} {cnt cli : Int} {fin has : Bool} {dl : Nat} (h1 : 1 ≤ kind ∧ kind ≤ 3) (h2 : 1 ≤ kl ∧ kl ≤ 64) (h3 : 1 ≤ cnt ∧ cnt ≤ 4611686018427387903) (h4 : 1 ≤ cli ∧ cli ≤ 65535) (h5 : kind = 3 → fin = true ∨ has = true) (h6 : dl ≤ 65540) : mayV kind kl cnt cli fin has dl = 0 := by
  have a1 : (decide (kind < 1) || decide (3 < kind)) = false := by simp; omega
  have a2 : (decide ((kl : Int) < 1) || decide (64 < (kl : Int))) = false := by simp; omega
  have a3 : ((decide (cnt = 0) && decide (cli = 0)) || !validV cnt cli) = false := by
    have : validV cnt cli = true := by unfold validV properV; simp; omega
    rw [this]; simp; omega
  have a4 : (decide (kind = 3) && !fin && !has) = false := by
    by_cases hk : kind = 3
    · rcases h5 hk with rfl | rfl <;> simp
    · simp [hk]
  have a5 : ((decide (kind = 1) || (decide (kind = 3) && has)) && decide (65540 < (dl : Int))) = false := by
    have : decide (65540 < (dl : Int)) = false := by simp; omega
    rw [this, Bool.and_false]
  unfold mayV
  rw [a1, a2, a3, a4, a5]
  rfl
structure GoodU (v : Upd) : Prop where
  may : (Vc_up v).may = 0
  own : (Vc_up v).ownF = Vc_up v
  ds : v.ds.length ≤ 65540
theorem goodF_ok {u : Upd} (hb : goodB u = true) (hd : u.ds.length = u.data.l) : GoodU (goodF u) := by
  unfold goodB at hb
  rw [Bool.and_eq_true] at hb
  obtain ⟨h1, h2⟩ := hb
  unfold badG at h1
  simp only [Bool.not_eq_true', Bool.or_eq_false_iff, decide_eq_false_iff_not] at h1
  obtain ⟨⟨⟨⟨⟨⟨g1, g2⟩, g3⟩, g4⟩, g5⟩, g6⟩, g7⟩ := h1
  unfold kindG at h2
  simp only [Bool.or_eq_true, decide_eq_true_eq] at h2
  unfold goodF
  by_cases k1 : u.kind = 1
  · rw [if_pos k1]
    refine ⟨may_mk (by simp [Vc_up, k1]) (by simp only [Vc_up]; omega) (by simp only [Vc_up]; omega) (by simp only [Vc_up]; omega) (fun h => by simp only [Vc_up] at h; omega) (by simp only [Vc_up]; omega), ?_, by dsimp only; omega⟩
    unfold Up.ownF Vc_up
    rw [if_neg (by dsimp only; omega), if_pos (by dsimp only; omega)]
  rw [if_neg k1]
  by_cases k2 : u.kind = 2
  · rw [if_pos k2]
    refine ⟨may_mk (by simp [Vc_up, k2]) (by simp only [Vc_up]; omega) (by simp only [Vc_up]; omega) (by simp only [Vc_up]; omega) (fun h => by simp only [Vc_up] at h; omega) (by simp [Vc_up]), ?_, by simp⟩
    unfold Up.ownF Vc_up
    rw [if_neg (by dsimp only; omega), if_neg (by dsimp only; omega)]
  rw [if_neg k2]
  have k3 : u.kind = 3 := by omega
  by_cases hh : u.has = true
  · rw [if_pos hh]
    refine ⟨may_mk (by simp [Vc_up, k3]) (by simp only [Vc_up]; omega) (by simp only [Vc_up]; omega) (by simp only [Vc_up]; omega) (fun _ => .inr hh) (by simp only [Vc_up]; omega), ?_, by omega⟩
    unfold Up.ownF Vc_up
    rw [if_pos k3, if_pos hh]
  · rw [if_neg hh]
    refine ⟨may_mk (by simp [Vc_up, k3]) (by simp only [Vc_up]; omega) (by simp only [Vc_up]; omega) (by simp only [Vc_up]; omega) (fun _ => .inl rfl) (by simp [Vc_up]), ?_, by simp⟩
    unfold Up.ownF Vc_up
    rw [if_pos k3, if_neg hh]
theorem goodF_byt {u : Upd} {w : World} (h : Byt w u.data u.ds) : Byt w (goodF u).data (goodF u).ds := by
  unfold goodF
  split
  · exact h
  split
  · exact Cel.nil w 1
  split
  · exact h
  · exact Cel.nil w 1
section
variable {w0 w : World} {F : Asn} {us : Slc} {l : List Upd} {n k d s : Int}
theorem good_c (hU : Ups w0 us l) (hl : l.length ≤ 1048576) (H : Hp w0 w F) :
    Calls PP F_sherdlaw14_good #[.agg #[.int .i64 n, .int .i64 k, .int .i64 d, .int .i64 s], us.v] w (Rt fun v w' => ∃ g, v = Slc.v g ∧ Hp w0 w' (star (own Ty_api_Update 7 g ((goodL l).map Upd.cells).flatten) F)) := by
  refine sim_sherdlaw14_good _ _ _ _ _ _ _ ?_
  unfold vc_sherdlaw14_good
  refine New.intro fun b0 w1 nb => ?_
  have hul := hU.len
  refine ⟨fun o i w' => ∃ j : Nat, i = (j : Int) ∧ j ≤ l.length ∧ Hp w0 w' (star (own Ty_api_Update 7 o ((goodL (l.take j)).map Upd.cells).flatten) F), fun _ i _ => l.length - i.toNat, ⟨0, rfl, Nat.zero_le _, (H.fr0 nb.fr).nilRow Ty_api_Update 7⟩, ?_⟩
  rintro o _ w2 ⟨j, rfl, hj, H2⟩
  refine ⟨fun h => ?_, fun h => ?_⟩
  · have hlt : j < l.length := by simp at h; omega
    refine ⟨fun o' w' => Hp w0 w' (star (own Ty_api_Update 7 o' ((goodL (l.take (j + 1))).map Upd.cells).flatten) F), ?_, ?_⟩
    · have hds := (hU.dat _ (List.getElem_mem hlt)).1.len
      have e1 : goodL (l.take (j + 1)) = if goodB l[j] = true then goodL (l.take j) ++ [goodF l[j]] else goodL (l.take j) := by rw [take_snoc hlt, goodL_snoc]
      refine rdU hlt (hU.fr0 H2.fr) fun a ha => ?_
      generalize hu : l[j] = u at *
      refine H2.new fun b w3 H => H.stoAll (b := b) (by rfl) fun w4 H => ?_
      refine ⟨u.key, H.cell (b := b) (i := 1) rfl, ?_⟩
      refine ⟨decide ((u.key.size : Int) < 1) || decide (64 < (u.key.size : Int)), fun h => ⟨u.key, H.cell (b := b) (i := 1) rfl, by rw [h]; rfl⟩, fun h => by rw [h]; rfl, ?_⟩
      refine ⟨(decide ((u.key.size : Int) < 1) || decide (64 < (u.key.size : Int))) || decide (u.cnt < 1), fun h => ⟨u.cnt, H.cell3 (b := b) (i := 2) (j := 0) (l := 0) rfl, by rw [h]; rfl⟩, fun h => by rw [h]; rfl, ?_⟩
      refine ⟨((decide ((u.key.size : Int) < 1) || decide (64 < (u.key.size : Int))) || decide (u.cnt < 1)) || decide (4611686018427387903 < u.cnt), fun h => ⟨u.cnt, H.cell3 (b := b) (i := 2) (j := 0) (l := 0) rfl, by rw [h]; rfl⟩, fun h => by rw [h]; rfl, ?_⟩
      refine ⟨(((decide ((u.key.size : Int) < 1) || decide (64 < (u.key.size : Int))) || decide (u.cnt < 1)) || decide (4611686018427387903 < u.cnt)) || decide (u.cli < 1), fun h => ⟨u.cli, H.cell3 (b := b) (i := 2) (j := 0) (l := 1) rfl, by rw [h]; rfl⟩, fun h => by rw [h]; rfl, ?_⟩
      refine ⟨((((decide ((u.key.size : Int) < 1) || decide (64 < (u.key.size : Int))) || decide (u.cnt < 1)) || decide (4611686018427387903 < u.cnt)) || decide (u.cli < 1)) || decide (65535 < u.cli), fun h => ⟨u.cli, H.cell3 (b := b) (i := 2) (j := 0) (l := 1) rfl, by rw [h]; rfl⟩, fun h => by rw [h]; rfl, ?_⟩
      refine ⟨badG u, fun h => ⟨u.data, H.cell2 (b := b) (i := 2) (j := 4) rfl, by unfold badG; rw [h]; rfl⟩, fun h => by unfold badG; rw [h]; rfl, fun h => ?_, fun hbad => ?_⟩
      · have hgb : ¬ goodB u = true := by unfold goodB; rw [h]; simp
        rw [if_neg hgb] at e1
        rw [e1]
        exact H.drop
      refine ⟨fun w' => goodB u = true ∧ Hp w0 w' (star (bk b Ty_api_Update (goodF u).cells.toArray) (star (own Ty_api_Update 7 o ((goodL (l.take j)).map Upd.cells).flatten) F)), ⟨u.kind, H.cell (b := b) (i := 0) rfl, fun h1 => ?_, fun h1 => ⟨fun h2 => ?_, fun h2 => ⟨fun h3 => ?_, fun h3 => ?_⟩⟩⟩, ?_⟩
      · have k1 : u.kind = 1 := by simpa using h1
        have hgb : goodB u = true := by unfold goodB kindG; rw [hbad, k1]; rfl
        have eg : goodF u = { u with fin := false, has := false } := if_pos k1
        refine H.sto2 (b := b) (i := 2) (j := 2) (by simp) fun w5 H => H.sto2 (b := b) (i := 2) (j := 3) (by simp) fun w6 H => ⟨hgb, ?_⟩
        rw [eg]
        exact H
      · have k1 : ¬ u.kind = 1 := by simpa using h1
        have k2 : u.kind = 2 := by simpa using h2
        have hgb : goodB u = true := by unfold goodB kindG; rw [hbad, k2]; rfl
        have eg : goodF u = { u with fin := false, has := false, data := Slc.nil, ds := [] } := by unfold goodF; rw [if_neg k1, if_pos k2]
        refine ⟨u.cnt, H.cell3 (b := b) (i := 2) (j := 0) (l := 0) rfl, u.cli, H.cell3 (b := b) (i := 2) (j := 0) (l := 1) rfl, ?_⟩
        refine H.sto2 (b := b) (i := 2) (j := 0) (by simp) fun w5 H => H.sto2 (b := b) (i := 2) (j := 1) (by simp) fun w6 H => H.sto2 (b := b) (i := 2) (j := 2) (by simp) fun w7 H => H.sto2 (b := b) (i := 2) (j := 3) (by simp) fun w8 H => H.sto2 (b := b) (i := 2) (j := 4) (by simp) fun w9 H => ⟨hgb, ?_⟩
        rw [eg]
        exact H
      · have k1 : ¬ u.kind = 1 := by simpa using h1
        have k2 : ¬ u.kind = 2 := by simpa using h2
        have k3 : u.kind = 3 := by simpa using h3
        have hgb : goodB u = true := by unfold goodB kindG; rw [hbad, k3]; rfl
        refine ⟨u.has, H.cell2 (b := b) (i := 2) (j := 3) rfl, fun hh => ?_, fun hh => ?_⟩
        · have hh : ¬ u.has = true := by simpa using hh
          have eg : goodF u = { u with fin := true, data := Slc.nil, ds := [] } := by unfold goodF; rw [if_neg k1, if_neg k2, if_neg hh]
          refine H.sto2 (b := b) (i := 2) (j := 2) (by simp) fun w5 H => H.sto2 (b := b) (i := 2) (j := 4) (by simp) fun w6 H => ⟨hgb, ?_⟩
          rw [eg]
          exact H
        · have hh : u.has = true := by simpa using hh
          have eg : goodF u = u := by unfold goodF; rw [if_neg k1, if_neg k2, if_pos hh]
          refine ⟨hgb, ?_⟩
          rw [eg]
          exact H
      · have hgb : ¬ goodB u = true := by unfold goodB kindG; simp only [Bool.and_eq_true, Bool.or_eq_true, decide_eq_true_eq]; simp at h1 h2 h3; rintro ⟨_, h⟩; omega
        rw [if_neg hgb] at e1
        rw [e1]
        exact H.drop
      · rintro w5 ⟨hgb, H⟩
        rw [if_pos hgb] at e1
        refine ⟨_, H.cell (b := b) (i := 0) rfl, _, H.cell (b := b) (i := 1) rfl, _, H.cell (b := b) (i := 2) rfl, _, H.cell (b := b) (i := 3) rfl, _, H.cell (b := b) (i := 4) rfl, _, H.cell (b := b) (i := 5) rfl, _, H.cell (b := b) (i := 6) rfl, ?_⟩
        refine H.newRow (n := 1) (size := 7) (goodF u).cells rfl rfl (by decide) fun c w6 H => ?_
        have hy := H.cel (s := ⟨some (blk c), 1, 1⟩)
        have hol := (H.cel (s := o)).len
        rw [Upd.flat_len] at hol
        have hgl := goodL_len (l.take j)
        rw [List.length_take_of_le hj] at hgl
        refine Hp.app slT_sl_api_Update (H.own o) hy (one_upd _) (by unfold maxLen; simp only; omega) (by simp only; omega) fun o2 w7 H _ => ?_
        have H := (H.own ⟨some (blk c), 1, 1⟩).drop
        have H := (H.blk b).drop
        rw [e1, List.map_append, List.flatten_append]
        simpa using H
    · rintro o' w3 H3
      exact ⟨⟨j + 1, wrj (by omega), hlt, H3⟩, by rw [wrj (j := j) (by omega)]; dsimp only; omega⟩
  · have hje : j = l.length := by simp at h; omega
    subst hje
    rw [List.take_length] at H2
    exact Rt.ok ⟨o, rfl, H2⟩
end
end Go.Proofs.YtflcdgkckfcofaaGreatDoor

namespace Go.Proofs.YtflcdgkckfcofaaGreatDoor
open Go Go.Vc
def Hd.last (h : Hd) : List UInt8 := le4 (crc (headPre h.n.toNat h.k.toNat h.d.toNat h.s.toNat))
def wBs (h : Hd) (us : List Up) : List UInt8 := h.bs ++ logB h.last us
def HdOk (h : Hd) : Prop := mayHeadV h.n h.k h.d h.s = 0
theorem Hd_nat {h : Hd} (hm : HdOk h) : h = ⟨(h.n.toNat : Int), (h.k.toNat : Int), (h.d.toNat : Int), (h.s.toNat : Int)⟩ := by
  obtain ⟨h1, h2, h3, h4, h5, h6, h7⟩ := mayHead_ok hm
  obtain ⟨n, k, d, s⟩ := h
  simp at *
  omega
theorem readH_hd {h : Hd} {rest bs : List UInt8} (hb : bs = h.bs ++ rest) (hm : HdOk h) : readH bs = h ∧ okH bs = true := by
  have e := Hd_nat hm
  have := readH_head (n := h.n.toNat) (k := h.k.toNat) (d := h.d.toNat) (s := h.s.toNat) hb (by rw [HdOk, e] at hm; exact hm)
  rw [← e] at this
  exact this
theorem headLast_hd {h : Hd} {rest bs : List UInt8} (hb : bs = h.bs ++ rest) (hm : HdOk h) : headLast bs = h.last := by
  unfold headLast
  rw [(readH_hd hb hm).1, hb, List.take_left]
  have e : h.bs = headPre h.n.toNat h.k.toNat h.d.toNat h.s.toNat ++ h.last := rfl
  have hl : h.last.length = 4 := le4_len _
  rw [e]
  have e2 : (headPre h.n.toNat h.k.toNat h.d.toNat h.s.toNat ++ h.last).length - 4 = (headPre h.n.toNat h.k.toNat h.d.toNat h.s.toNat).length := by simp [hl]
  rw [e2, List.drop_left]
theorem scanT_hd {h : Hd} {rest bs : List UInt8} (hb : bs = h.bs ++ rest) (hm : HdOk h) : scanT bs = scanA bs h.bs.length h.last := by
  unfold scanT scanA
  rw [(readH_hd hb hm).1, headLast_hd hb hm]
theorem scanT_log {h : Hd} {us : List Up} {more bs : List UInt8} (hm : HdOk h) (hu : Upo us) (hb : bs = wBs h us ++ more) : okH bs = true ∧ readH bs = h ∧
    scanT bs = (us ++ (scanA bs (wBs h us).length (logLast h.last us)).1, logMarks h.bs.length us ++ (scanA bs (wBs h us).length (logLast h.last us)).2.1, (scanA bs (wBs h us).length (logLast h.last us)).2.2) := by
  have hb' : bs = h.bs ++ (logB h.last us ++ more) := by rw [hb, wBs, List.append_assoc]
  obtain ⟨r1, r2⟩ := readH_hd hb' hm
  refine ⟨r2, r1, ?_⟩
  have hd : bs.drop h.bs.length = logB h.last us ++ more := by rw [hb', List.drop_left]
  rw [scanT_hd hb' hm, scanA_log us _ _ more (fun u hx => (hu u hx).1) hd, hu.map]
  have : h.bs.length + (logB h.last us).length = (wBs h us).length := by simp [wBs]
  rw [this]
theorem scanT_whole {h : Hd} {us : List Up} (hm : HdOk h) (hu : Upo us) : scanT (wBs h us) = (us, logMarks h.bs.length us, 0, (wBs h us).length, logLast h.last us) := by
  rw [(scanT_log hm hu (more := []) (by simp)).2.2, scanA_end (Nat.le_refl _)]
  simp
theorem newB_wBs (n k d s : Int) (X : List Up) : newB n k d s X = wBs ⟨n, k, d, s⟩ X := rfl
theorem scan_newB {n k d s : Int} {X : List Up} (hm : mayHeadV n k d s = 0) (hu : Upo X) : okH (newB n k d s X) = true ∧ readH (newB n k d s X) = ⟨n, k, d, s⟩ ∧ scanX (newB n k d s X) = X ∧ clean (newB n k d s X) = true ∧ (scanT (newB n k d s X)).2.2.2.2 = logLast (hLast n k d s) X := by
  have hm : HdOk ⟨n, k, d, s⟩ := hm
  rw [newB_wBs]
  have h1 := scanT_log hm hu (more := []) (bs := wBs ⟨n, k, d, s⟩ X) (by simp)
  have h2 := scanT_whole hm hu
  refine ⟨h1.1, h1.2.1, ?_, ?_, ?_⟩
  · unfold scanX; rw [if_pos h1.1, h2]
  · unfold clean; rw [h1.1, h2]; rfl
  · rw [h2]; rfl
theorem okH_nil : okH [] = false := by
  cases h : okH [] with
  | false => rfl
  | true =>
    obtain ⟨h1, h2, _⟩ := okH_len h
    have : ([] : List UInt8).length = 0 := rfl
    omega
end Go.Proofs.YtflcdgkckfcofaaGreatDoor
namespace Go.Disk
open Go.Proofs.YtflcdgkckfcofaaGreatDoor
structure AtRest (D : DiskP) (i : Nat) (now : List UInt8) (m z : Nat) : Prop where
  i2 : i < 2
  dead : D.dead = false
  nmd : D.named = 0
  cur : D.cur = (i : Int)
  sl : D.sl i = ⟨now, now, []⟩
  oth : ∃ b, D.sl (1 - i) = ⟨b, b, []⟩ ∧ b.length ≤ z
  acts : 0 ≤ D.acts ∧ D.acts ≤ (m : Int)
theorem AtRest.bd {D : DiskP} {i m z n k : Nat} {now : List UInt8} (h : AtRest D i now m z) (h1 : now.length + n ≤ 1099511627776) (h2 : z + n ≤ 1099511627776) (h3 : k ≤ 1048576) (h4 : m + k ≤ 4611686018427387904) : BdS D n k := by
  obtain ⟨b, hb, hz⟩ := h.oth
  have hi := h.i2
  have hs := h.sl
  refine ⟨fun j hj => ?_, fun j hj => ?_, by have := h.acts; omega, by rw [h.nmd]; omega⟩
  · by_cases e : j = i
    · rw [e, hs]; exact h1
    · rw [show j = 1 - i by omega, hb]; simp only; omega
  · by_cases e : j = i
    · rw [e, hs]; simpa using h3
    · rw [show j = 1 - i by omega, hb]; simpa using h3
theorem act_calm {D : DiskP} {i : Nat} {w : Bool} {g : DiskP → DiskP} (hd : D.dead = false) (hn : D.named = 0) (hw : ¬ (w = true ∧ (i : Int) = D.cur)) : actR D i w g = ({ g D with acts := (g D).acts + 1 }, 0) := by
  have e : ({ D with dead := false, named := max 0 (D.named - 1) } : DiskP) = D := by
    obtain ⟨a, b, c, d, e, f, g⟩ := D
    simp only at hd hn
    subst hd hn
    rfl
  unfold actR
  rw [if_neg (by rw [hd]; decide), if_neg hw, if_neg (by rw [hn]; decide), e]
theorem appR_calm {D : DiskP} {i m z : Nat} {now : List UInt8} (h : AtRest D i now m z) (bs : List UInt8) : (appR D i bs).2 = 0 ∧ AtRest (appR D i bs).1 i (now ++ bs) (m + 2) z := by
  obtain ⟨b, hb, hz⟩ := h.oth
  have h0 := h.acts
  have hi := h.i2
  have hs := h.sl
  have hc := h.cur
  have e1 := act_calm (i := i) (w := false) (g := gApp i bs) h.dead h.nmd (by simp)
  obtain ⟨s0, s1, cur, acts, named, done, dead⟩ := D
  have hd := h.dead
  have hn := h.nmd
  simp only at hd hn hc
  subst hd hn
  by_cases hbs : bs = []
  · have e2 : actR (actR ⟨s0, s1, cur, acts, 0, done, false⟩ i false (gApp i bs)).1 i false (gSync i) = ({ gSync i ⟨s0, s1, cur, acts + 1, 0, done, false⟩ with acts := acts + 1 + 1 }, 0) := by
      rw [e1]
      have : ({ gApp i bs ⟨s0, s1, cur, acts, 0, done, false⟩ with acts := (gApp i bs ⟨s0, s1, cur, acts, 0, done, false⟩).acts + 1 } : DiskP) = ⟨s0, s1, cur, acts + 1, 0, done, false⟩ := by unfold gApp; rw [if_pos hbs]
      rw [this, act_calm rfl rfl (by simp)]
      rcases (show i = 0 ∨ i = 1 by omega) with rfl | rfl <;> rfl
    have e3 : appR ⟨s0, s1, cur, acts, 0, done, false⟩ i bs = ({ gSync i ⟨s0, s1, cur, acts + 1, 0, done, false⟩ with acts := acts + 1 + 1 }, 0) := by
      unfold appR
      rw [if_neg (by rw [e1]; simp), e2]
    rw [e3]
    simp only at h0
    subst hbs
    rcases (show i = 0 ∨ i = 1 by omega) with rfl | rfl <;> simp [DiskP.sl] at hs hb <;> subst hs hb <;> exact ⟨rfl, ⟨hi, rfl, rfl, hc, by simp [gSync, DiskP.put, DiskP.sl, SlP.sync], ⟨b, by simp [gSync, DiskP.put, DiskP.sl], hz⟩, by show 0 ≤ acts + 1 + 1 ∧ acts + 1 + 1 ≤ _; omega⟩⟩
  · have e2 : actR (actR ⟨s0, s1, cur, acts, 0, done, false⟩ i false (gApp i bs)).1 i false (gSync i) = ({ gSync i (gApp i bs ⟨s0, s1, cur, acts + 1, 0, done, false⟩) with acts := acts + 1 + 1 }, 0) := by
      rw [e1]
      have : ({ gApp i bs ⟨s0, s1, cur, acts, 0, done, false⟩ with acts := (gApp i bs ⟨s0, s1, cur, acts, 0, done, false⟩).acts + 1 } : DiskP) = gApp i bs ⟨s0, s1, cur, acts + 1, 0, done, false⟩ := by
        unfold gApp; rw [if_neg hbs, if_neg hbs]
        rcases (show i = 0 ∨ i = 1 by omega) with rfl | rfl <;> rfl
      rw [this]
      have hg : (gApp i bs ⟨s0, s1, cur, acts + 1, 0, done, false⟩).dead = false ∧ (gApp i bs ⟨s0, s1, cur, acts + 1, 0, done, false⟩).named = 0 ∧ (gSync i (gApp i bs ⟨s0, s1, cur, acts + 1, 0, done, false⟩)).acts = acts + 1 := by
        unfold gApp; rw [if_neg hbs]
        rcases (show i = 0 ∨ i = 1 by omega) with rfl | rfl <;> exact ⟨rfl, rfl, rfl⟩
      rw [act_calm hg.1 hg.2.1 (by simp), hg.2.2]
    have e3 : appR ⟨s0, s1, cur, acts, 0, done, false⟩ i bs = ({ gSync i (gApp i bs ⟨s0, s1, cur, acts + 1, 0, done, false⟩) with acts := acts + 1 + 1 }, 0) := by
      unfold appR
      rw [if_neg (by rw [e1]; simp), e2]
    rw [e3]
    simp only at h0
    have eg : gApp i bs ⟨s0, s1, cur, acts + 1, 0, done, false⟩ = DiskP.put ⟨s0, s1, cur, acts + 1, 0, done, false⟩ i ((DiskP.sl ⟨s0, s1, cur, acts + 1, 0, done, false⟩ i).do (.app bs)) := by unfold gApp; rw [if_neg hbs]
    rw [eg]
    rcases (show i = 0 ∨ i = 1 by omega) with rfl | rfl <;> simp [DiskP.sl] at hs hb <;> subst hs hb <;> exact ⟨rfl, ⟨hi, rfl, rfl, hc, by simp [gSync, DiskP.put, DiskP.sl, SlP.sync, SlP.do, DAct.again, DAct.size], ⟨b, by simp [gSync, DiskP.put, DiskP.sl], hz⟩, by show 0 ≤ acts + 1 + 1 ∧ acts + 1 + 1 ≤ _; omega⟩⟩
def actC (g : DiskP → DiskP) (D : DiskP) : DiskP := { g D with acts := (g D).acts + 1 }
theorem anewR_calm {D : DiskP} {i m z : Nat} {now : List UInt8} (h : AtRest D i now m z) (hz2 : now.length ≤ z) (bs : List UInt8) : (anewR D (1 - i) bs).2 = 0 ∧ AtRest (anewR D (1 - i) bs).1 (1 - i) bs (m + 4) z := by
  obtain ⟨b, hb, hz⟩ := h.oth
  have h0 := h.acts
  have hi := h.i2
  have hs := h.sl
  have hc := h.cur
  have e1 : actR D (1 - i) true (gWipe (1 - i)) = (actC (gWipe (1 - i)) D, 0) := act_calm h.dead h.nmd (by rw [hc]; omega)
  have d1 : (actC (gWipe (1 - i)) D).dead = false ∧ (actC (gWipe (1 - i)) D).named = 0 := ⟨(put_acts D (1 - i) _).2.2.1.trans h.dead, (put_acts D (1 - i) _).2.1.trans h.nmd⟩
  generalize hD1 : actC (gWipe (1 - i)) D = D1 at *
  have e2 : actR D1 (1 - i) false (gApp (1 - i) bs) = (actC (gApp (1 - i) bs) D1, 0) := act_calm d1.1 d1.2 (by simp)
  have d2 : (actC (gApp (1 - i) bs) D1).dead = false ∧ (actC (gApp (1 - i) bs) D1).named = 0 := by
    unfold actC gApp
    split
    · exact d1
    · exact ⟨(put_acts D1 (1 - i) _).2.2.1.trans d1.1, (put_acts D1 (1 - i) _).2.1.trans d1.2⟩
  generalize hD2 : actC (gApp (1 - i) bs) D1 = D2 at *
  have e3 : actR D2 (1 - i) false (gSync (1 - i)) = (actC (gSync (1 - i)) D2, 0) := act_calm d2.1 d2.2 (by simp)
  have d3 : (actC (gSync (1 - i)) D2).dead = false ∧ (actC (gSync (1 - i)) D2).named = 0 := ⟨(put_acts D2 (1 - i) _).2.2.1.trans d2.1, (put_acts D2 (1 - i) _).2.1.trans d2.2⟩
  generalize hD3 : actC (gSync (1 - i)) D2 = D3 at *
  have e4 : actR D3 (1 - i) false (gSwitch (1 - i)) = (actC (gSwitch (1 - i)) D3, 0) := act_calm d3.1 d3.2 (by simp)
  have e : anewR D (1 - i) bs = (actC (gSwitch (1 - i)) D3, 0) := by
    unfold anewR
    rw [e1, if_neg (by simp), e2, if_neg (by simp), e3, if_neg (by simp), e4]
  rw [e]
  refine ⟨rfl, ⟨by omega, d3.1, d3.2, rfl, ?_, ?_, ?_⟩⟩
  · subst hD3 hD2 hD1
    by_cases hbs : bs = []
    · subst hbs
      rcases (show i = 0 ∨ i = 1 by omega) with rfl | rfl <;> simp [actC, gSwitch, gSync, gApp, gWipe, DiskP.put, DiskP.sl, SlP.sync, SlP.do, DAct.again]
    · rcases (show i = 0 ∨ i = 1 by omega) with rfl | rfl <;> simp [actC, gSwitch, gSync, gApp, hbs, gWipe, DiskP.put, DiskP.sl, SlP.sync, SlP.do, DAct.again, DAct.size]
  · refine ⟨now, ?_, hz2⟩
    subst hD3 hD2 hD1
    by_cases hbs : bs = []
    · subst hbs
      rcases (show i = 0 ∨ i = 1 by omega) with rfl | rfl <;> simp [DiskP.sl] at hs <;> simp [actC, gSwitch, gSync, gApp, gWipe, DiskP.put, DiskP.sl, hs]
    · rcases (show i = 0 ∨ i = 1 by omega) with rfl | rfl <;> simp [DiskP.sl] at hs <;> simp [actC, gSwitch, gSync, gApp, hbs, gWipe, DiskP.put, DiskP.sl, hs]
  · have ea : (actC (gSwitch (1 - i)) D3).acts = D.acts + 4 := by
      subst hD3 hD2 hD1
      by_cases hbs : bs = []
      · subst hbs
        rcases (show i = 0 ∨ i = 1 by omega) with rfl | rfl <;> simp [actC, gSwitch, gSync, gApp, gWipe, DiskP.put] <;> omega
      · rcases (show i = 0 ∨ i = 1 by omega) with rfl | rfl <;> simp [actC, gSwitch, gSync, gApp, hbs, gWipe, DiskP.put] <;> omega
    rw [ea]
    omega
end Go.Disk

namespace Go.Proofs.YtflcdgkckfcofaaGreatDoor
open Go Go.Vc Go.Vc.Asn Go.Disk
def wrX (x : LifeV) (X : List Upd) : List UInt8 × Int := (logLast (hLast x.hn x.hk 0 x.hs) (X.map Vc_up), (X.length : Int))
def logX (x : LifeV) (X : List Upd) : List UInt8 := newB x.hn x.hk 0 x.hs (X.map Vc_up)
def zMax : Nat := 41 + 1048576 * 66000
theorem zMax_eq : zMax = 69206016041 := by unfold zMax; decide
structure LogOk (x : LifeV) (L : LogM) (D : DiskP) (X : List Upd) (m : Nat) : Prop where
  hn : L.n = x.hn
  hk : L.k = x.hk
  hd : L.dl = 0
  hs : L.s = x.hs
  br : L.broken = 0
  calm : AtRest D L.slot (logX x X) m zMax
  byt : L.bytes = ((logX x X).length : Int)
  good : ∀ u ∈ X, GoodU u
  len : X.length ≤ 1048576
theorem good_bad {l : List Upd} (h : ∀ u ∈ l, GoodU u) : badU l = 0 := badU_ok l fun u hu => (h u hu).may
theorem good_upo {l : List Upd} (h : ∀ u ∈ l, GoodU u) : Upo (l.map Vc_up) := fun u hu => by
  obtain ⟨v, hv, rfl⟩ := List.mem_map.1 hu
  exact ⟨(h v hv).may, (h v hv).own⟩
theorem logX_len (x : LifeV) {X : List Upd} (h : ∀ u ∈ X, GoodU u) : (logX x X).length ≤ 41 + X.length * 66000 := by
  have h1 := hBs_len x.may
  have h2 := logB_len (hLast x.hn x.hk 0 x.hs) (X.map Vc_up) fun u hu => (good_upo h u hu).1
  rw [List.length_map] at h2
  unfold logX newB
  rw [List.length_append]
  omega
theorem LogOk.mono {x : LifeV} {L : LogM} {D : DiskP} {X : List Upd} {m m' : Nat} (h : LogOk x L D X m) (hm : m ≤ m') : LogOk x L D X m' :=
  ⟨h.hn, h.hk, h.hd, h.hs, h.br, ⟨h.calm.i2, h.calm.dead, h.calm.nmd, h.calm.cur, h.calm.sl, h.calm.oth, by have := h.calm.acts; omega⟩, h.byt, h.good, h.len⟩
section
variable {w0 w : World} {A F : Asn} {us : Slc} {U X : List Upd} {p q m : Nat} {L : LogM} {D : DiskM} {x : LifeV}
theorem append_ok (hG : GT w0) (hE : ErrG w0) (hL : LogOk x L D.p X m) (hq : L.q = some q) (hm : m ≤ 1073741824) (hU : UpsA w0 A us U) (hg : ∀ u ∈ U, GoodU u) (hl : X.length + U.length ≤ 1048576)
    (H : Hp w0 w (logW p q L (wrX x X) D (star A F))) :
    Calls PP F_flog_Log_Append #[.pointer (some (blk p)), us.v] w (Rt fun v w' => v = .int .i64 0 ∧ ∃ q' L' D', L'.d = L.d ∧ L'.q = some q' ∧ LogOk x L' D'.p (X ++ U) (m + 2) ∧ Hp w0 w' (logW p q' L' (wrX x (X ++ U)) D' (star A F))) := by
  have hlx := logX_len x hL.good
  have hc := hL.calm
  have hB : BdS D.p (U.length * 66000) 2 := hc.bd (by omega) (by rw [zMax_eq]; omega) (by omega) (by omega)
  refine Rt.mono (lappend_c (n := X.length) hG hE hU (by omega) hq hc.i2 (logLast_len _ _ (hLast_len _ _ _ _)) (by omega) (by rw [hL.byt]; omega) hB H) ?_
  rintro v w' (⟨h0, rfl, H⟩ | ⟨_, h0, _⟩ | ⟨_, hne, hb, rfl, D', hD', h⟩)
  · rcases h0 with h0 | rfl
    · exact absurd hL.br h0
    · rw [hL.br, List.append_nil]
      exact ⟨rfl, q, L, D, rfl, hq, hL.mono (by omega), H⟩
  · exact absurd (good_bad hg) h0
  · have hca := appR_calm hc (logB (wrX x X).1 (U.map Vc_up))
    rcases h with ⟨_, q', H⟩ | ⟨h1, _⟩
    · have eX : logX x X ++ logB (wrX x X).1 (U.map Vc_up) = logX x (X ++ U) := by
        unfold logX newB wrX
        rw [List.map_append, logB_append, List.append_assoc]
      have eW : wrX x (X ++ U) = (logLast (wrX x X).1 (U.map Vc_up), ((X.length + U.length : Nat) : Int)) := by
        unfold wrX
        rw [List.map_append, logLast_append, List.length_append]
      rw [eW]
      refine ⟨congrArg (Value.int .i64) hca.1, q', { L with q := some q', bytes := L.bytes + ((logB (wrX x X).1 (U.map Vc_up)).length : Int) }, D', rfl, rfl, ⟨hL.hn, hL.hk, hL.hd, hL.hs, hL.br, ?_, ?_, ?_, ?_⟩, H⟩
      · rw [hD', ← eX]; exact hca.2
      · show L.bytes + _ = _
        rw [hL.byt, ← eX, List.length_append]
        rfl
      · intro u hu
        rcases List.mem_append.1 hu with hu | hu
        · exact hL.good u hu
        · exact hg u hu
      · rw [List.length_append]; exact hl
    · exact absurd hca.1 h1
theorem compact_ok (hG : GT w0) (hE : ErrG w0) (hL : LogOk x L D.p X m) (hm : m ≤ 1073741824) (hU : UpsA w0 A us U) (hg : ∀ u ∈ U, GoodU u) (hl : U.length ≤ 1048576)
    (H : Hp w0 w (logW p q L (wrX x X) D (star A F))) :
    Calls PP F_flog_Log_Compact #[.pointer (some (blk p)), us.v] w (Rt fun v w' => v = .int .i64 0 ∧ ∃ q' L' D', L'.d = L.d ∧ L'.q = some q' ∧ L'.slot = 1 - L.slot ∧ LogOk x L' D'.p U (m + 4) ∧ Hp w0 w' (logW p q' L' (wrX x U) D' (star A F))) := by
  have hlx := logX_len x hL.good
  have hlen := hL.len
  have hc := hL.calm
  have hB : BdS D.p (41 + U.length * 66000) 4 := hc.bd (by omega) (by rw [zMax_eq]; omega) (by omega) (by omega)
  refine Rt.mono (lcompact_c hG hE hU hl hc.i2 hB H) ?_
  have ehd : mayHeadV L.n L.k L.dl L.s = 0 := by rw [hL.hn, hL.hk, hL.hd, hL.hs]; exact x.may
  have ebs : L.bs U = logX x U := by unfold LogM.bs logX newB; rw [hL.hn, hL.hk, hL.hd, hL.hs]
  rintro v w' (⟨h0, _⟩ | ⟨_, e, h0, he, _⟩ | ⟨_, _, _, rfl, D', hD', h⟩)
  · exact absurd hL.br h0
  · rw [if_neg (by simpa using ehd), good_bad hg] at he
    exact absurd he h0
  · have hca := anewR_calm hc (by rw [zMax_eq]; omega) (L.bs U)
    rcases h with ⟨_, q', H⟩ | ⟨h1, _⟩
    · refine ⟨congrArg (Value.int .i64) hca.1, q', { L with slot := 1 - L.slot, q := some q', bytes := ((L.bs U).length : Int) }, D', rfl, rfl, rfl, ⟨hL.hn, hL.hk, hL.hd, hL.hs, hL.br, ?_, ?_, hg, hl⟩, ?_⟩
      · rw [hD', ← ebs]; exact hca.2
      · rw [← ebs]
      · have eW : wrX x U = (logLast (hLast L.n L.k L.dl L.s) (U.map Vc_up), (U.length : Int)) := by unfold wrX; rw [hL.hn, hL.hk, hL.hd, hL.hs]
        rw [eW]
        exact H
    · exact absurd hca.1 h1
theorem open_ok {i : Nat} (hG : GT w0) (hE : ErrG w0) (hc : AtRest D.p i (logX x X) m zMax) (hg : ∀ u ∈ X, GoodU u) (hl : X.length ≤ 1048576) (hm : m ≤ 1073741824) (H : Hp w0 w (star (diskA p D) F)) :
    Calls PP F_flog_Open #[.pointer (some (blk p)), x.hv] w (Rt fun v w' => ∃ lp q us Y D' L', v = .tuple #[.pointer (some (blk lp)), Slc.v us, .int .i64 0] ∧ Y.map Vc_up = X.map Vc_up ∧ (∀ u ∈ Y, GoodU u) ∧ D'.p = D.p ∧ L'.d = p ∧ L'.q = some q ∧ LogOk x L' D'.p Y m ∧
      Hp w0 w' (star (star (own Ty_api_Update 7 us (Y.map Upd.cells).flatten) (all rowU Y)) (logW lp q L' (wrX x Y) D' F))) := by
  have hlx := logX_len x hg
  have hupo := good_upo hg
  obtain ⟨s1, s2, s3, s4, s5⟩ := scan_newB x.may hupo
  have s1 : okH (logX x X) = true := s1
  have s2 : readH (logX x X) = ⟨x.hn, x.hk, 0, x.hs⟩ := s2
  have s3 : scanX (logX x X) = X.map Vc_up := s3
  have s4 : clean (logX x X) = true := s4
  have s5 : (scanT (logX x X)).2.2.2.2 = logLast (hLast x.hn x.hk 0 x.hs) (X.map Vc_up) := s5
  have enow : (D.sl i).now = logX x X := by
    have h1 : (D.sl i).p = ⟨logX x X, logX x X, []⟩ := (sl_p D i).trans hc.sl
    exact congrArg SlP.now h1
  have enow2 : (D.p.sl i).now = logX x X := by rw [hc.sl]
  have hB : BdS D.p (41 + (scanX (D.sl i).now).length * 66000) 4 := hc.bd (by rw [enow, s3, List.length_map]; omega) (by rw [enow, s3, List.length_map]; unfold zMax; omega) (by omega) (by omega)
  have er : openR D.p i x.hn x.hk 0 x.hs = (D.p, 0) := by
    have he : hdEq (logX x X) x.hn x.hk 0 x.hs = true := by unfold hdEq; rw [s2]; simp
    unfold openR
    rw [if_neg (by simpa using x.may), if_neg (by rw [hc.dead]; decide), enow2, s1, he, if_neg (by decide), if_pos s4]
  refine Rt.mono (open_c hG hE hc.i2 hc.cur (by rw [enow, s3, List.length_map]; exact hl) (by rw [enow]; omega) hB H) ?_
  rintro v w' (⟨h0, _⟩ | ⟨lp, q, us, Y, D', _, rfl, hY, hYd, hD', H⟩)
  · rw [er] at h0; exact absurd rfl h0
  · rw [enow, s3] at hY
    rw [er] at hD'
    rw [enow, show openSlot (logX x X) i = i from if_pos s4, show openB x.hn x.hk 0 x.hs (logX x X) = logX x X from if_pos s4, show openLast x.hn x.hk 0 x.hs (logX x X) = logLast (hLast x.hn x.hk 0 x.hs) (X.map Vc_up) from (if_pos s4).trans s5, ← hY] at H
    have eX : logX x Y = logX x X := by unfold logX; rw [hY]
    have hYg : ∀ u ∈ Y, GoodU u := fun u hu => by
      have := hupo _ (by rw [← hY]; exact List.mem_map_of_mem hu)
      exact ⟨this.1, this.2, hYd u hu⟩
    have hYl : Y.length = X.length := by have := congrArg List.length hY; simpa using this
    refine ⟨lp, q, us, Y, D', _, rfl, hY, hYg, hD', rfl, rfl, ⟨rfl, rfl, rfl, rfl, rfl, ?_, ?_, hYg, by omega⟩, H⟩
    · rw [hD', eX]; exact hc
    · rw [eX]
end
end Go.Proofs.YtflcdgkckfcofaaGreatDoor

namespace Go.Proofs.YtflcdgkckfcofaaGreatDoor
open Go Go.Vc Go.Vc.Asn Go.Disk
theorem fm_get {α : Type} {f : α → List Value} {n : Nat} (hf : ∀ x, (f x).length = n) : ∀ (l : List α) (i j : Nat) (h : i < l.length), j < n → (l.flatMap f)[i * n + j]? = (f l[i])[j]?
  | [], i, j, h, _ => by simp at h
  | x :: r, 0, j, _, hj => by
    simp only [List.flatMap_cons, List.getElem_cons_zero]
    rw [List.getElem?_append_left (by rw [hf]; omega)]
    congr 1; omega
  | x :: r, i + 1, j, h, hj => by
    simp only [List.flatMap_cons, List.getElem_cons_succ]
    have e : (i + 1) * n = i * n + n := Nat.succ_mul i n
    rw [List.getElem?_append_right (by rw [hf]; omega), ← fm_get hf r i j (by simpa using h) hj, hf]
    congr 1; omega
theorem cel_fm {α : Type} {f : α → List Value} {n : Nat} {w : World} {s : Slc} {l : List α} (hf : ∀ x, (f x).length = n) (h : Cel w s n (l.flatMap f)) {i : Nat} (hi : i < l.length) (hn : 0 < n) : ∃ a, s.a = some a ∧ ∀ j v, (f l[i])[j]? = some v → w.cell? ((a.add ((i : Int).toNat * n)).add j) = some v := by
  have h00 : 0 < (f l[i]).length := by rw [hf]; exact hn
  have h0 : (f l[i])[0]? = some ((f l[i])[0]'h00) := List.getElem?_eq_getElem h00
  obtain ⟨a, ha, _⟩ := h.at_ (i * n + 0) _ ((fm_get hf l i 0 hi hn).trans h0)
  refine ⟨a, ha, fun j v hv => ?_⟩
  have hj : j < n := by have := (List.getElem?_eq_some_iff.1 hv).1; rw [hf] at this; exact this
  obtain ⟨b, hb, hc⟩ := h.at_ (i * n + j) v ((fm_get hf l i j hi hj).trans hv)
  rw [ha] at hb
  injection hb with hb
  subst hb
  rw [add_add, Int.toNat_natCast]
  exact hc
structure OpV where
  kind : Int
  us : Slc
  n : Int
  y : Bool
  l : Slc
  h1 : Int
  h2 : Int
  h3 : Int
  h4 : Int
  ul : List Upd
def OpV.c (o : OpV) : List Value := [.int .i64 o.kind, o.us.v, .int .i64 o.n, .bool o.y, o.l.v, .int .i64 o.h1, .int .i64 o.h2, .int .i64 o.h3, .int .i64 o.h4]
structure Scr (w : World) (s : Slc) (ops : List OpV) : Prop where
  cel : Cel w s 9 (ops.flatMap OpV.c)
  ups : ∀ o ∈ ops, Ups w o.us o.ul
  sum : (ops.map fun o => o.ul.length).sum ≤ 1048576
  len : ops.length ≤ 1048576
theorem Scr.sl {w : World} {s : Slc} {ops : List OpV} (h : Scr w s ops) : s.l = ops.length := by
  have h1 := h.cel.len
  have h2 : ∀ l : List OpV, (l.flatMap OpV.c).length = l.length * 9 := by
    intro l
    induction l with
    | nil => rfl
    | cons x r ih => rw [List.flatMap_cons, List.length_append, ih, List.length_cons]; simp [OpV.c]; omega
  rw [h2] at h1
  omega
def hasStep (h : List Upd) (o : OpV) : List Upd := if o.kind = 2 then h ++ goodL o.ul else if o.kind = 3 then goodL o.ul else h
def hasOf (ops : List OpV) : List Upd := ops.foldl hasStep []
theorem hasOf_snoc (l : List OpV) (o : OpV) : hasOf (l ++ [o]) = hasStep (hasOf l) o := by unfold hasOf; rw [List.foldl_append]; rfl
theorem hasOf_len : ∀ (l : List OpV) (h : List Upd), (l.foldl hasStep h).length ≤ h.length + (l.map fun o => o.ul.length).sum
  | [], h => by simp
  | o :: r, h => by
    have h1 := hasOf_len r (hasStep h o)
    have h2 := goodL_len o.ul
    have h3 : (hasStep h o).length ≤ h.length + o.ul.length := by
      unfold hasStep
      split
      · rw [List.length_append]; omega
      split <;> omega
    simp only [List.foldl_cons, List.map_cons, List.sum_cons]
    omega
theorem sum_take (l : List OpV) (j : Nat) : ((l.take j).map fun o => o.ul.length).sum ≤ (l.map fun o => o.ul.length).sum := by
  conv => rhs; rw [← List.take_append_drop j l, List.map_append, List.sum_append]
  omega
theorem goodL_good {w : World} {us : Slc} {l : List Upd} (h : Ups w us l) : ∀ u ∈ goodL l, GoodU u := by
  intro v hv
  unfold goodL at hv
  obtain ⟨u, hu, rfl⟩ := List.mem_map.1 hv
  obtain ⟨h1, h2⟩ := List.mem_filter.1 hu
  exact goodF_ok h2 (h.dat u h1).1.len.symm
theorem goodL_byt {w : World} {us : Slc} {l : List Upd} (h : Ups w us l) : ∀ u ∈ goodL l, Byt w u.data u.ds := by
  intro v hv
  unfold goodL at hv
  obtain ⟨u, hu, rfl⟩ := List.mem_map.1 hv
  exact goodF_byt (h.dat u (List.mem_filter.1 hu).1).1
theorem ownUps {w0 : World} {g : Slc} {l : List Upd} (hd : ∀ u ∈ l, Byt w0 u.data u.ds) (hg : ∀ u ∈ l, GoodU u) : UpsA w0 (own Ty_api_Update 7 g (l.map Upd.cells).flatten) g l :=
  fun _ _ f h => ⟨h.2.cel, fun u hu => ⟨(hd u hu).fr0 f, by have := (hg u hu).ds; omega⟩⟩
theorem rest_acts {D : DiskM} {i m z : Nat} {now : List UInt8} (h : AtRest D.p i now m z) : D.s0.acts.length + D.s1.acts.length = 0 := by
  obtain ⟨b, hb, _⟩ := h.oth
  have hs := h.sl
  have hi := h.i2
  have e : ∀ j, (D.p.sl j).acts = (D.sl j).acts.map (·.2) := fun j => by rw [← sl_p]; rfl
  have e0 := e 0
  have e1 := e 1
  rcases (show i = 0 ∨ i = 1 by omega) with rfl | rfl
  · rw [hs] at e0; rw [hb] at e1
    have e0 : D.s0.acts = [] := List.map_eq_nil_iff.1 e0.symm
    have e1 : D.s1.acts = [] := List.map_eq_nil_iff.1 e1.symm
    rw [e0, e1]; rfl
  · rw [hs] at e1; rw [hb] at e0
    have e0 : D.s0.acts = [] := List.map_eq_nil_iff.1 e0.symm
    have e1 : D.s1.acts = [] := List.map_eq_nil_iff.1 e1.symm
    rw [e0, e1]; rfl
section
variable {w0 w : World} {A F : Asn} {X : List Upd} {p m : Nat} {D : DiskM} {x : LifeV}
theorem rest_bd {D : DiskP} {i m : Nat} (h : AtRest D i (logX x X) m zMax) (hg : ∀ u ∈ X, GoodU u) (hl : X.length ≤ 1048576) (hm : m ≤ 1073741824) : Bd D 0 := by
  have := logX_len x hg
  exact (h.bd (n := 0) (k := 0) (by omega) (by rw [zMax_eq]; omega) (by omega) (by omega)).bd (Nat.le_refl _)
theorem found_c {i : Nat} (hG : GT w0) (hE : ErrG w0) (hc : AtRest D.p i (logX x X) m zMax) (hg : ∀ u ∈ X, GoodU u) (hl : X.length ≤ 1048576) (hm : m ≤ 1073741824) (H : Hp w0 w (star (diskA p D) F)) :
    Calls PP F_sherdlaw14_found #[x.v, .pointer (some (blk p))] w (Rt fun v w' => ∃ us Y D', v = .tuple #[Slc.v us, .bool true] ∧ Y.map Vc_up = X.map Vc_up ∧ (∀ u ∈ Y, GoodU u) ∧ D'.p = D.p ∧
      Hp w0 w' (star (star (own Ty_api_Update 7 us (Y.map Upd.cells).flatten) (all rowU Y)) (star (diskA p D') F))) := by
  refine sim_sherdlaw14_found _ _ _ _ _ _ _ _ _ _ _ _ _ _ _ _ _ _ _ _ _ ?_
  unfold vc_sherdlaw14_found
  refine H.new fun b w1 H => ⟨fun h => by simp at h, fun _ => ?_⟩
  have H := H.drop
  refine call (head_c (x := x)) ?_
  rintro _ w2 ⟨rfl, f2⟩
  refine ⟨_, _, _, _, rfl, ?_⟩
  refine call (open_ok (x := x) hG hE hc hg hl hm (H.fr0 f2)) ?_
  rintro _ w3 ⟨lp, q, us, Y, D', L', rfl, hY, hYg, hD', hd, hq, hL, H⟩
  unfold logW at H
  rw [hd] at H
  obtain ⟨S, hS⟩ : ∃ S, S = star (own Ty_api_Update 7 us (Y.map Upd.cells).flatten) (all rowU Y) := ⟨_, rfl⟩
  have husl : us.l = Y.length := by
    have H := H.assoc
    have := (H.cel (s := us)).len
    rw [Upd.flat_len] at this
    omega
  rw [← hS] at H
  have hYl : Y.length = X.length := by have := congrArg List.length hY; simpa using this
  refine ⟨_, _, _, rfl, fun y w' => y = true ∧ Hp w0 w' (star S (star (logA lp L') (star (PW q (wrX x Y)) (star (diskA p D') F)))), ⟨fun _ => ?_, fun h => (by simp at h)⟩, ?_⟩
  · refine call (lcount_c (last := (wrX x Y).1) (n := (wrX x Y).2) hq ((H.take (PW q (wrX x Y))).take (logA lp L'))) ?_
    rintro _ w4 ⟨rfl, f4⟩
    refine ⟨_, rfl, ?_, H.fr0 f4⟩
    rw [husl]
    simp [wrX]
  rintro _ w4 ⟨rfl, H⟩
  refine ⟨fun y w' => y = true ∧ Hp w0 w' (star S (star (diskA p D') F)), ⟨fun _ => ?_, fun h => (by cases h)⟩, ?_⟩
  · have hbd : Bd D'.p 0 := rest_bd hL.calm hYg (by omega) hm
    refine call (dPending_c hbd (H.take (diskA p D'))) ?_
    rintro _ w5 ⟨rfl, H⟩
    refine ⟨_, rfl, ?_, ?_⟩
    · rw [rest_acts hL.calm]; rfl
    · have H := (H.take (logA lp L')).drop
      have H := (H.take (PW q (wrX x Y))).drop
      exact (H.take (diskA p D')).take S
  rintro _ w5 ⟨rfl, H⟩
  rw [hS] at H
  exact Rt.ok ⟨us, Y, D', rfl, hY, hYg, hD', H⟩
end
end Go.Proofs.YtflcdgkckfcofaaGreatDoor

namespace Go.Proofs.YtflcdgkckfcofaaGreatDoor
open Go Go.Vc Go.Vc.Asn Go.Disk
section
variable {w0 w : World} {A F : Asn} {p : Nat} {D : DiskM} {x : LifeV} {ops : List OpV}
theorem rest_new (h : D.p = ⟨⟨[], [], []⟩, ⟨[], [], []⟩, 0, 0, 0, false, false⟩) : AtRest D.p 0 [] 0 zMax := by
  rw [h]
  exact ⟨by omega, rfl, rfl, rfl, rfl, ⟨[], rfl, Nat.zero_le _⟩, by simp⟩
theorem open_new (hG : GT w0) (hE : ErrG w0) (hD : D.p = ⟨⟨[], [], []⟩, ⟨[], [], []⟩, 0, 0, 0, false, false⟩) (H : Hp w0 w (star (diskA p D) F)) :
    Calls PP F_flog_Open #[.pointer (some (blk p)), x.hv] w (Rt fun v w' => ∃ lp q us D' L', v = .tuple #[.pointer (some (blk lp)), Slc.v us, .int .i64 0] ∧ us.l = 0 ∧ L'.d = p ∧ L'.q = some q ∧ LogOk x L' D'.p [] 4 ∧ L'.slot = 1 ∧
      Hp w0 w' (logW lp q L' (wrX x []) D' F)) := by
  have hc := rest_new hD
  have enow : (D.sl 0).now = [] := by
    have h1 : (D.sl 0).p = ⟨[], [], []⟩ := (sl_p D 0).trans hc.sl
    exact congrArg SlP.now h1
  have enow2 : (D.p.sl 0).now = [] := by rw [hc.sl]
  have hX : scanX [] = [] := by unfold scanX; rw [okH_nil]; rfl
  have hcl : ¬ clean [] = true := by unfold clean; rw [okH_nil]; simp
  have er : openR D.p 0 x.hn x.hk 0 x.hs = anewR D.p 1 (logX x []) := by
    unfold openR
    rw [if_neg (by simpa using x.may), if_neg (by rw [hc.dead]; decide), enow2, okH_nil, if_neg (by simp), if_neg hcl, hX]
    rfl
  have hca : (anewR D.p 1 (logX x [])).2 = 0 ∧ AtRest (anewR D.p 1 (logX x [])).1 1 (logX x []) (0 + 4) zMax := anewR_calm hc (Nat.zero_le _) (logX x [])
  refine Rt.mono (open_c hG hE (i := 0) (by omega) hc.cur (by rw [enow, hX]; simp) (by rw [enow]; simp) (hc.bd (by rw [enow, hX]; simp) (by rw [enow, hX, zMax_eq]; simp) (by omega) (by omega)) H) ?_
  rintro v w' (⟨h0, _⟩ | ⟨lp, q, us, Y, D', _, rfl, hY, hYd, hD', H⟩)
  · rw [er] at h0; exact absurd hca.1 h0
  · rw [enow, hX] at hY
    have hY : Y = [] := List.map_eq_nil_iff.1 hY
    subst hY
    rw [er] at hD'
    rw [enow, show openSlot [] 0 = 1 from if_neg hcl, show openB x.hn x.hk 0 x.hs [] = logX x [] from (if_neg hcl).trans (by rw [hX]; rfl), show openLast x.hn x.hk 0 x.hs [] = (wrX x []).1 from (if_neg hcl).trans (by rw [hX]; rfl)] at H
    have husl : us.l = 0 := by
      have H := H.assoc
      have := (H.cel (s := us)).len
      simp at this
      omega
    refine ⟨lp, q, us, D', ⟨p, x.hn, x.hk, 0, x.hs, 1, some q, ((logX x []).length : Int), 0⟩, rfl, husl, rfl, rfl, ⟨rfl, rfl, rfl, rfl, rfl, ?_, rfl, fun u hu => by simp at hu, by simp⟩, rfl, H.drop⟩
    rw [hD']
    exact hca.2
def PlayI (w0 : World) (p lp b20 b29 : Nat) (x : LifeV) (X : List Upd) (m : Nat) (F : Asn) (h : Slc) (w' : World) : Prop :=
  ∃ q L D, L.d = p ∧ L.q = some q ∧ LogOk x L D.p X m ∧ Hp w0 w' (star (own Ty_api_Update 7 h (X.map Upd.cells).flatten) (star (logA lp L) (star (PW q (wrX x X)) (star (diskA p D) (star (bk b29 Ty_api_Head #[.int .i64 x.hn, .int .i64 x.hk, .int .i64 0, .int .i64 x.hs]) (star (bk b20 Ty_sherdlaw14_Life x.c.toArray) F))))))
theorem has_sum {j : Nat} (hlt : j < ops.length) : (hasOf (ops.take j)).length + ops[j].ul.length ≤ (ops.map fun o => o.ul.length).sum := by
  have h1 := hasOf_len (ops.take j) []
  have h2 := sum_take ops (j + 1)
  rw [take_snoc hlt, List.map_append, List.sum_append] at h2
  simp at h1 h2
  unfold hasOf
  omega
set_option maxHeartbeats 1000000 in
theorem played_c (hG : GT w0) (hE : ErrG w0) (hS : Scr w0 x.sc ops) (H : Hp w0 w F) :
    Calls PP F_sherdlaw14_played #[x.v] w (Rt fun v w' => ∃ p lp h q L D, v = .tuple #[.pointer (some (blk p)), .pointer (some (blk lp)), Slc.v h, .bool true] ∧ L.d = p ∧ L.q = some q ∧ LogOk x L D.p (hasOf ops) (4 + 4 * ops.length) ∧
      Hp w0 w' (star (own Ty_api_Update 7 h ((hasOf ops).map Upd.cells).flatten) (star (logA lp L) (star (PW q (wrX x (hasOf ops))) (star (diskA p D) F))))) := by
  refine sim_sherdlaw14_played _ _ _ _ _ _ _ _ _ _ _ _ _ _ _ _ _ _ _ _ ?_
  unfold vc_sherdlaw14_played
  refine H.new fun b20 w1 H => ?_
  refine call (head_c (x := x)) ?_
  rintro _ w2 ⟨rfl, f2⟩
  refine ⟨_, _, _, _, rfl, ?_⟩
  refine (H.fr0 f2).new fun b29 w3 H => ?_
  refine H.stoAll (b := b29) (by rfl) fun w4 H => ?_
  refine call dNew_c ?_
  rintro _ w5 ⟨p, D, rfl, hD, H2⟩
  have H := H.beside (H2.ent Asn.emp_r')
  refine ⟨_, rfl, _, H.cell (b := b29) (i := 0) rfl, _, H.cell (b := b29) (i := 1) rfl, _, H.cell (b := b29) (i := 2) rfl, _, H.cell (b := b29) (i := 3) rfl, ?_⟩
  refine call (open_new (x := x) hG hE hD H) ?_
  rintro _ w6 ⟨lp, q, us, D', L', rfl, husl, hd, hq, hL, _, H⟩
  unfold logW at H
  rw [hd] at H
  refine ⟨_, _, _, rfl, fun h => ?_, fun _ => ?_⟩
  · rw [husl] at h; simp at h
  refine ⟨fun e h i w' => ∃ j : Nat, i = (j : Int) ∧ j ≤ ops.length ∧ e = 0 ∧ PlayI w0 p lp b20 b29 x (hasOf (ops.take j)) (4 + 4 * j) F h w', fun _ _ i _ => ops.length - i.toNat, ⟨0, rfl, Nat.zero_le _, rfl, q, L', D', hd, hq, hL, H.nilRow Ty_api_Update 7⟩, ?_⟩
  rintro _ h _ w7 ⟨j, rfl, hj, rfl, q, L, D, hd, hq, hL, H⟩
  have hsl := hS.sl
  have hlen := hS.len
  refine ⟨x.sc, H.cell (b := b20) (i := 3) rfl, fun hlt => ?_, fun hlt => ?_⟩
  · have hlt : j < ops.length := by simp at hlt; omega
    have hsum := has_sum hlt
    have hss := hS.sum
    have H := H.drew 1
    obtain ⟨a, ha, hcl⟩ := cel_fm (f := OpV.c) (fun o => rfl) (hS.cel.fr0 H.fr) hlt (by omega)
    refine ⟨_, H.cell (b := b29) (i := 0) rfl, _, H.cell (b := b29) (i := 1) rfl, _, H.cell (b := b29) (i := 2) rfl, _, H.cell (b := b29) (i := 3) rfl, x.sc, H.cell (b := b20) (i := 3) rfl, a, ha, by omega, by omega, ops[j].us, hcl 1 _ rfl, ?_⟩
    have hUo := hS.ups _ (List.getElem_mem hlt)
    refine call (good_c (l := ops[j].ul) hUo (by omega) H) ?_
    rintro _ w8 ⟨g, rfl, H⟩
    have hgl := goodL_len ops[j].ul
    have hgd := goodL_good hUo
    have hUA : UpsA w0 (own Ty_api_Update 7 g ((goodL ops[j].ul).map Upd.cells).flatten) g (goodL ops[j].ul) := ownUps (goodL_byt hUo) hgd
    have ehas : hasOf (ops.take (j + 1)) = hasStep (hasOf (ops.take j)) ops[j] := by rw [take_snoc hlt, hasOf_snoc]
    obtain ⟨a2, ha2, hcl2⟩ := cel_fm (f := OpV.c) (fun o => rfl) (hS.cel.fr0 H.fr) hlt (by omega)
    refine ⟨g, rfl, fun e h' w' => e = 0 ∧ PlayI w0 p lp b20 b29 x (hasOf (ops.take (j + 1))) (4 + 4 * (j + 1)) F h' w', ⟨x.sc, H.cell (b := b20) (i := 3) rfl, a2, ha2, by omega, by omega, ops[j].kind, hcl2 0 _ rfl, fun hk => ?_, fun hk => ⟨fun hk3 => ?_, fun hk3 => ?_⟩⟩, ?_⟩
    · have hk : ops[j].kind = 2 := by simpa using hk
      have eh : hasOf (ops.take (j + 1)) = hasOf (ops.take j) ++ goodL ops[j].ul := by rw [ehas]; exact if_pos hk
      have H := ((H.take (diskA p D)).take (PW q (wrX x (hasOf (ops.take j))))).take (logA lp L)
      rw [← hd] at H
      refine call (append_ok hG hE hL hq (by omega) hUA hgd (by omega) H) ?_
      rintro _ w9 ⟨rfl, q', L', D', hd', hq', hL', H⟩
      unfold logW at H
      rw [hd', hd] at H
      refine ⟨_, rfl, H.newRow (n := 0) (size := 7) [] rfl rfl (by decide) fun c w10 H => ?_⟩
      have hcel := H.cel (s := h)
      have hl1 := hcel.len
      rw [Upd.flat_len] at hl1
      refine Hp.app slT_sl_api_Update (H.own ⟨some (blk c), 0, 0⟩) hcel (by intro v hv; obtain ⟨z, hz, hv⟩ := List.mem_flatten.1 hv; obtain ⟨u, _, rfl⟩ := List.mem_map.1 hz; exact one_upd u v hv) (by unfold maxLen; simp only; omega) (by simp only; omega) fun s1 w11 H hs1 => ?_
      have hcel2 := H.cel (s := g)
      have hl2 := hcel2.len
      rw [Upd.flat_len] at hl2
      simp only at hs1
      refine Hp.app slT_sl_api_Update (H.own s1) hcel2 (by intro v hv; obtain ⟨z, hz, hv⟩ := List.mem_flatten.1 hv; obtain ⟨u, _, rfl⟩ := List.mem_map.1 hz; exact one_upd u v hv) (by unfold maxLen; omega) (by omega) fun s2 w12 H _ => ⟨rfl, q', L', D', hd'.trans hd, hq', ?_, ?_⟩
      · rw [eh]; exact hL'.mono (by omega)
      · have H := (H.own h).drop
        have H := (H.own g).drop
        have H := H.own s2
        rw [eh, List.map_append, List.flatten_append]
        simp only [List.nil_append] at H
        exact H
    · have hk : ¬ ops[j].kind = 2 := by simpa using hk
      have hk3 : ops[j].kind = 3 := by simpa using hk3
      have eh : hasOf (ops.take (j + 1)) = goodL ops[j].ul := by rw [ehas]; unfold hasStep; rw [if_neg hk, if_pos hk3]
      have H := ((H.take (diskA p D)).take (PW q (wrX x (hasOf (ops.take j))))).take (logA lp L)
      rw [← hd] at H
      refine call (compact_ok hG hE hL (by omega) hUA hgd (by omega) H) ?_
      rintro _ w9 ⟨rfl, q', L', D', hd', hq', _, hL', H⟩
      unfold logW at H
      rw [hd', hd] at H
      refine ⟨_, rfl, rfl, q', L', D', hd'.trans hd, hq', ?_, ?_⟩
      · rw [eh]; exact hL'.mono (by omega)
      · rw [eh]
        have H := (H.own h).drop
        exact H.own g
    · have hk : ¬ ops[j].kind = 2 := by simpa using hk
      have hk3 : ¬ ops[j].kind = 3 := by simpa using hk3
      have eh : hasOf (ops.take (j + 1)) = hasOf (ops.take j) := by rw [ehas]; unfold hasStep; rw [if_neg hk, if_neg hk3]
      refine ⟨rfl, q, L, D, hd, hq, ?_, ?_⟩
      · rw [eh]; exact hL.mono (by omega)
      · rw [eh]; exact H.drop
    · rintro _ h' w9 ⟨rfl, q', L', D', hd', hq', hL', H⟩
      refine ⟨fun y w' => y = false ∧ PlayI w0 p lp b20 b29 x (hasOf (ops.take (j + 1))) (4 + 4 * (j + 1)) F h' w', ⟨fun _ => ?_, fun h => by simp at h⟩, ?_⟩
      · refine call (lcount_c (last := (wrX x (hasOf (ops.take (j + 1)))).1) (n := (wrX x (hasOf (ops.take (j + 1)))).2) hq' ((H.take (PW q' (wrX x (hasOf (ops.take (j + 1)))))).take (logA lp L'))) ?_
        rintro _ w10 ⟨rfl, f10⟩
        have hl1 := (H.cel (s := h')).len
        rw [Upd.flat_len] at hl1
        refine ⟨_, rfl, ?_, q', L', D', hd', hq', hL', H.fr0 f10⟩
        have hl2 : h'.l = (hasOf (ops.take (j + 1))).length := by omega
        rw [hl2]
        unfold wrX
        simp
      · rintro _ w10 ⟨rfl, hP⟩
        exact ⟨fun h => (by cases h), fun _ => ⟨⟨j + 1, wrj (by omega), hlt, rfl, hP⟩, by rw [wrj (j := j) (by omega)]; dsimp only; omega⟩⟩
  · have hje : j = ops.length := by simp at hlt; omega
    subst hje
    rw [List.take_length] at H hL
    have hbd : Bd D.p 0 := rest_bd hL.calm hL.good hL.len (by omega)
    refine call (dPending_c hbd (H.take (diskA p D))) ?_
    rintro _ w8 ⟨rfl, H⟩
    refine ⟨_, rfl, Rt.ok ⟨p, lp, h, q, L, D, ?_, hd, hq, hL, ?_⟩⟩
    · rw [rest_acts hL.calm]; rfl
    · have H := (H.blk b29).drop
      have H := (H.blk b20).drop
      exact (((H.take (diskA p D)).take (PW q (wrX x (hasOf ops)))).take (logA lp L)).own h
end
end Go.Proofs.YtflcdgkckfcofaaGreatDoor

namespace Go.Proofs.YtflcdgkckfcofaaGreatDoor
open Go Go.Vc Go.Vc.Asn Go.Disk
section
variable {w0 w : World} {A F : Asn} {X : List Upd} {p m : Nat} {D : DiskM} {x : LifeV} {ops : List OpV}
theorem has_byt (hS : Scr w0 x.sc ops) : ∀ (l : List OpV) (h : List Upd), (∀ o ∈ l, o ∈ ops) → (∀ u ∈ h, Byt w0 u.data u.ds) → ∀ u ∈ l.foldl hasStep h, Byt w0 u.data u.ds
  | [], _, _, hh => hh
  | o :: r, h, ho, hh => by
    refine has_byt hS r (hasStep h o) (fun o' h' => ho o' (List.mem_cons_of_mem _ h')) ?_
    have hg := goodL_byt (hS.ups o (ho o List.mem_cons_self))
    unfold hasStep
    split
    · intro u hu
      rcases List.mem_append.1 hu with hu | hu
      · exact hh u hu
      · exact hg u hu
    split
    · exact hg
    · exact hh
theorem rowsUps {us : Slc} {Y : List Upd} (hg : ∀ u ∈ Y, GoodU u) : UpsA w0 (star (own Ty_api_Update 7 us (Y.map Upd.cells).flatten) (all rowU Y)) us Y := by
  rintro w S f ⟨S1, S2, _, _, ⟨_, hO⟩, hR⟩
  refine ⟨hO.cel, fun u hu => ⟨((rows_all Y S2 hR).1 u hu).1.cel, ?_⟩⟩
  have := (hg u hu).ds
  omega
end
end Go.Proofs.YtflcdgkckfcofaaGreatDoor

namespace Go.Proofs.YtflcdgkckfcofaaGreatDoor
open Go Go.Vc Go.Vc.Asn Go.Disk
section
variable {w0 w : World} {A F : Asn} {X : List Upd} {p m : Nat} {D : DiskM} {x : LifeV} {ops : List OpV}
end
end Go.Proofs.YtflcdgkckfcofaaGreatDoor
