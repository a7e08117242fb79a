/-
  Contract of the law ClientWrites.
-/
import Derived.Test.YtabifopphhpciaaGreatDoorM10
import Derived.Test.YtabifopphhpciaaGreatDoorM8
import Derived.OpenShut
import Derived.Carry
import Derived.ChangeSame
import Derived.Deep.DeepHandedRow
import Derived.SizedLaws
import Derived.RowKit
import Derived.Test.YtabifopphhpciaaGreatDoorRows
import Derived.ProofKit
import Derived.Test.YtabifopphhpciaaGreatDoorM9
import Derived.Test.YtabifopphhpciaaGreatDoorCards
import Derived.Test.YtabifopphhpciaaGreatDoorTie
import Derived.LaidHandle
import Derived.LaidLaws
namespace Go.Proofs.YtabifopphhpciaaGreatDoor
open Go Go.Vc Go.Vc.Asn Go.Gf
abbrev QrU := Int × Bool × Int × Int × Int × Slc × Bool
def qrB (o1 : Option QrU) (o3 : Option Nat) (o4 : Option Unit) (A : Asn) : Asn := match o3, o4, o1 with
  | none, _, _ => A
  | some b, some _, some z => star (bk b Ty_api_Result #[.int .i64 z.1, .bool z.2.1, .int .i64 z.2.2.1, .int .i64 z.2.2.2.1, .int .i64 z.2.2.2.2.1, Slc.v z.2.2.2.2.2.1]) A
  | some b, _, _ => star (bk b Ty_api_Result #[.int .i64 0, .bool false, .int .i64 0, .int .i64 0, .int .i64 0, Slc.nil.v]) A
theorem qr_out {w0 w : World} {F : Asn} {o1 : Option QrU} : ∀ {o : Option Nat} {o4 : Option Unit}, Hp w0 w (qrB o1 o o4 F) → Hp w0 w (star (qrB o1 o o4 emp) F) := fun {o o4} H => by
  unfold qrB at *
  split at H
  · exact H.ent emp_l
  · exact H.ent (Ent.star emp_r (Ent.refl _))
  · exact H.ent (Ent.star emp_r (Ent.refl _))
theorem qr_in {w0 w : World} {F : Asn} {o1 : Option QrU} : ∀ {o : Option Nat}, Hp w0 w (star (qrB none o none emp) F) → Hp w0 w (qrB o1 o none F)
  | none, H => H.ent emp_l'
  | some _, H => H.ent (Ent.star emp_r' (Ent.refl _))
def wrR (w0 : World) (n q k : Nat) (cfg : Cfg) (c5 : CS) (tp : Nat) (sv : Slc) (xs : List Pl) (r : Slc) (ms : List Ms) (A G : Asn) (o1 : Option QrU) (o3 : Option Nat) (o4 : Option Unit) (w' : World) : Prop :=
  match o1 with
  | none => Hp w0 w' (qrB none o3 none (star (msgsA r ms) (tnA tp sv xs n k 0 (star A G))))
  | some z => ∃ (Rr : Rs) (xs' : List Pl) (c' : CS), z = (Rr.op, Rr.put, Rr.status, Rr.tag.n, Rr.tag.c, Rr.val, true) ∧ Rest n q k cfg 6 0 1 c5 c' [] (fun _ => []) Tg.zero 22 (xs'.map Pl.abs) ∧ Rr.status = 76 ∧
      Hp w0 w' (qrB (some z) o3 o4 (tnA tp sv xs' n k 0 (star (csA n k c') (star (own Ty_uint8 1 Rr.val []) G))))
section
variable {w : World} {V I P : Slc} {vs : Rws} {is ps : List Int} {a b : Int}
set_option maxRecDepth 100000 in
set_option maxHeartbeats 400000 in
theorem clientWrites_c (hG : ErrG w) (hV : RdR w V vs) (hvl : ∀ r ∈ vs, r.2.length ≤ 1099511627776) (hI : Cel w I 1 (is.map iK)) (hP : Cel w P 1 (ps.map iK)) :
    Calls PP F_sherdlaw18_ClientWrites #[.agg #[.int .i64 a, .int .i64 b, V.v, I.v, P.v]] w (Rt fun v w' => v = .bool true ∧ Fr [] w w') := by
  refine sim_sherdlaw18_ClientWrites _ _ _ _ _ _ _ ?_
  unfold vc_sherdlaw18_ClientWrites
  refine (Hp.start w).new fun b7 w1 H => call townF_c ?_
  rintro _ w3 ⟨tp, N, K, sv, xs, rfl, hN1, hN7, hK1, hKN, hxl, hx0, J⟩
  have H := (H.beside J).ent fr3
  refine ⟨_, rfl, call awake_c ?_⟩
  rintro _ w4 ⟨rfl, f4⟩
  have H := H.fr0 f4
  obtain ⟨n, hn⟩ : ∃ n : Nat, N = (n : Int) := ⟨N.toNat, by omega⟩
  obtain ⟨k, hk⟩ : ∃ k : Nat, K = (k : Int) := ⟨K.toNat, by omega⟩
  subst hn hk
  have hok : (⟨(n : Int), (k : Int), 0⟩ : Cfg).Ok := ⟨hK1, hKN, by show (n : Int) ≤ 255; omega, Int.le_refl 0, by show (0 : Int) ≤ 4611686018427387903; decide⟩
  obtain ⟨q, hq⟩ : ∃ q : Nat, ((n : Int) + (k : Int) + 1) / 2 = (q : Int) := ⟨(((n : Int) + (k : Int) + 1) / 2).toNat, by omega⟩
  have hL : LwOk w n q k ⟨(n : Int), (k : Int), 0⟩ := ⟨hG, hok, rfl, rfl, by omega, by omega, by omega, hq⟩
  have H : Hp w w4 (star (all (csA n k) []) _) := H.ent emp_l
  have H := ((((H.take (all plA xs)).own sv).blk tp).nilRow Ty_p_client_Client 1).blk b7
  refine ⟨_, rfl, fun h => by simp at h, fun _ => ⟨fun c i w' => ∃ (cs : List CS) (F' : Asn), i = (cs.length : Int) + 1 ∧ cs.length ≤ 6 ∧ CsAll n k ⟨(n : Int), (k : Int), 0⟩ 0 0 cs ∧ Hp w w' (lxA b7 tp a b V I P c sv n k cs xs n k 0 F'), fun _ i _ => 8 - i.toNat, ⟨[], _, rfl, by decide, ⟨fun j h => (nomatch h)⟩, H⟩, ?_⟩⟩
  clear H
  rintro cl _ w5 ⟨cs, F', rfl, hl6, hA, H⟩
  have hcl := (H.cel (s := cl)).len
  rw [List.length_map] at hcl
  refine ⟨fun h => ?_, fun h => ?_⟩
  · have h := of_decide_eq_true h
    refine ⟨_, rfl, _, H.cell2 (b := tp) (i := 0) (j := 0) rfl, _, H.cell2 (b := tp) (i := 0) (j := 1) rfl, _, H.cell2 (b := tp) (i := 0) (j := 2) rfl, call (newA_c (c := ⟨(n : Int), (k : Int), 0⟩) (n := n) (k := k) hok (by omega) (by omega) rfl rfl) ?_⟩
    rintro _ w6 ⟨p, cd, g, sc, rs, rfl, hGn, J⟩
    have H := (H.beside (J.ent (Ent.star (Ent.refl _) emp_r')))
    obtain ⟨c0, hc0⟩ : ∃ c0 : CS, c0 = ⟨p, cd, g, sc, rs, ⟨⟨(n : Int), (k : Int), 0⟩, (cs.length : Int) + 1, cd, 0, [], none⟩⟩ := ⟨_, rfl⟩
    have ho : CsOk n k ⟨(n : Int), (k : Int), 0⟩ ((cs.length : Int) + 1) 0 0 c0 := by
      rw [hc0]
      exact ⟨hGn, rfl, rfl, rfl, rfl, Int.le_refl _, Int.le_refl _, by show (0 : Int) ≤ 0; decide, by show (0 : Int) ≤ 0; decide⟩
    have H : Hp w w6 (star (csA n k ⟨p, cd, g, sc, rs, ⟨⟨(n : Int), (k : Int), 0⟩, (cs.length : Int) + 1, cd, 0, [], none⟩⟩) _) := H
    rw [← hc0] at H
    have hp0 : csV c0 = .pointer (some (blk p)) := by rw [hc0]; rfl
    have ez : wr .i64 ((cs.length : Int) + 1 + 1) = ((cs ++ [c0]).length : Int) + 1 := by
      rw [wr64 (by omega) (by omega), List.length_append, List.length_singleton]
      omega
    refine ⟨_, _, rfl, fun h => by simp at h, fun _ => Hp.app1 (s := cl) slT_sl_p_client_Client H rfl (by unfold maxLen; omega) (by omega) fun s' w7 H hl => ⟨⟨cs ++ [c0], F', ez, by rw [List.length_append, List.length_singleton]; omega, ⟨fun j hj => ?_⟩, ?_⟩, ?_⟩⟩
    · rw [List.length_append, List.length_singleton] at hj
      by_cases e : j < cs.length
      · rw [List.getElem_append_left e]
        exact hA.each j e
      · have e : j = cs.length := by omega
        subst e
        rw [List.getElem_append_right (Nat.le_refl _)]
        simp only [Nat.sub_self, List.getElem_cons_zero]
        exact ho
    · have H := ((H.take (all (csA n k) cs)).take (csA n k c0)).assoc'.ent (Ent.star (all_snoc (csA n k) c0 cs) (Ent.refl _))
      have H := ((((H.take (all plA xs)).own sv).blk tp).own s').blk b7
      rw [← hp0, show cs.map csV ++ [csV c0] = (cs ++ [c0]).map csV by rw [List.map_append]; rfl] at H
      exact H
    · simp only [ez, List.length_append, List.length_singleton]
      omega
  have hl : cs.length = 6 := by have h := of_decide_eq_false h; omega
  clear h
  have h5 : 5 < cs.length := by omega
  have hc : CsOk n k ⟨(n : Int), (k : Int), 0⟩ 6 0 0 cs[5] := hA.each 5 h5
  have hcp : (cs.map csV)[5]? = some (csV cs[5]) := by rw [List.getElem?_map, List.getElem?_eq_getElem h5]; rfl
  have C : Calm n q k (mt cs[5].rs) [] (fun _ => []) Tg.zero 0 (xs.map Pl.abs) := Calm.start (by rw [List.length_map]; omega) fun l hl => by
    obtain ⟨x, hx, rfl⟩ := List.mem_map.1 hl
    exact hx0 x hx
  obtain ⟨ca, hca, hcc⟩ := (H.cel (s := cl)).at_ 5 (csV cs[5]) hcp
  have H2 := ((H.take (all (csA n k) cs)).ent (Ent.star (all_at (csA n k) cs 5 h5) (Ent.refl _))).assoc
  refine ⟨ca, hca, by decide, by omega, _, hcc, call (getS_c (T := []) (V := fun _ => []) (top := Tg.zero) (B := 0) (xa := xs.map Pl.abs) hL hc (by decide) (by decide) (by decide) C (by decide) (fun h => absurd rfl h) (by decide) H2) ?_⟩
  clear H H2
  rintro _ w6 ⟨o, val, r, ms, A, rfl, hE, hJ, H⟩
  have H := H.drew 1
  obtain ⟨ca2, hca2, -⟩ := (H.cel (s := cl)).at_ 5 (csV cs[5]) hcp
  have H := (((((((H.take (all (csA n k) (cs.take 5 ++ cs.drop 6))).own cl).blk b7).take A).take (all plA xs)).own sv).blk tp).take (msgsA r ms)
  refine ⟨_, _, _, rfl, ca2, hca2, by decide, by omega, some (blk cs[5].p), P, wrR w n q k ⟨(n : Int), (k : Int), 0⟩ cs[5] tp sv xs r ms A (star (bk b7 Ty_sherdlaw18_Tale #[.int .i64 a, .int .i64 b, V.v, I.v, P.v]) (star (own Ty_p_client_Client 1 cl (cs.map csV)) (star (all (csA n k) (cs.take 5 ++ cs.drop 6)) F'))), H, ?_, ?_, ?_, ?_, ?_, ?_⟩
  · intro o3 w8 H
    obtain ⟨a', ha', hcc⟩ := ((qr_out H).cel (s := cl)).at_ 5 (csV cs[5]) hcp
    obtain rfl : ca2 = a' := by rw [hca2] at ha'; injection ha'
    exact hcc
  · exact fun o3 w8 H => (qr_out H).cell (b := b7) (i := 4) rfl
  · intro o3 w8 H
    have H := qr_out H
    have hqu := quietG_c (ql := ms) (tp := tp) (sv := sv) (xs := xs) (N := n) (K := k) (D := 0) (l := r) hc hE hP hJ (((((H.take A).take (all plA xs)).own sv).blk tp).take (msgsA r ms))
    refine call hqu ?_
    rintro _ w9 ⟨Rr, xs', c', rfl, hRe, hpu, hst, htg, H⟩
    refine ⟨_, _, _, _, _, _, _, rfl, Rr, xs', c', rfl, hRe, hst, qr_in ?_⟩
    exact ((((((((H.take (all (csA n k) (cs.take 5 ++ cs.drop 6))).own cl).blk b7).own Rr.val).take (csA n k c')).take (all plA xs')).own sv).blk tp).take (qrB none o3 none emp)
  · rintro (_ | z) w8 H
    · exact H.new fun b w9 H => H
    · obtain ⟨Rr, xs', c', hz, h1, h2, H⟩ := H
      exact H.new fun b w9 H => ⟨Rr, xs', c', hz, h1, h2, H⟩
  · rintro k1 k2 k3 k4 k5 k6 k7 b95 w8 ⟨Rr, xs', c', hz, h1, h2, H⟩
    have H : Hp w w8 (star (bk b95 Ty_api_Result #[.int .i64 0, .bool false, .int .i64 0, .int .i64 0, .int .i64 0, Slc.nil.v]) _) := H
    exact H.stoAll (b := b95) (by rfl) fun w9 H => ⟨Rr, xs', c', hz, h1, h2, H⟩
  · rintro k1 k2 k3 k4 k5 k6 k7 b95 w8 ⟨Rr, xs', c', hz, hRe, hst, H⟩
    simp only [Prod.mk.injEq] at hz
    obtain ⟨rfl, rfl, rfl, rfl, rfl, rfl, rfl⟩ := hz
    have H : Hp w w8 (star (bk b95 Ty_api_Result #[.int .i64 Rr.op, .bool Rr.put, .int .i64 Rr.status, .int .i64 Rr.tag.n, .int .i64 Rr.tag.c, Rr.val.v]) _) := H
    refine ⟨false, fun _ => ⟨_, H.cell (b := b95) (i := 2) rfl, by rw [hst]; rfl⟩, fun h => by simp at h, fun h => (nomatch h), fun _ => H.new fun b116 w9 H => ?_⟩
    have hcs : (cs.set 5 c').map csV = cs.map csV := csV_set h5 hRe.p
    have H := ((H.take (all (csA n k) (cs.take 5 ++ cs.drop 6))).take (csA n k c')).assoc'.ent (Ent.star (all_put (csA n k) c' cs 5 h5) (Ent.refl _))
    rw [← hcs] at H
    have H := ((((((H.take (all (csA n k) (cs.set 5 c'))).take (all plA xs')).own sv).blk tp).own cl).blk b7).blk b116
    have S : LwSt n q k ⟨(n : Int), (k : Int), 0⟩ (mt cs[5].rs) [] (fun _ => []) Tg.zero (22 + 44 * 0) ((0 : Nat) : Int) (1 + 2 * ((0 : Nat) : Int)) (cs.set 5 c') xs' :=
      ⟨hA.set (Int.le_refl _) (by decide) hRe.cs, by rw [List.length_set]; exact hl, hRe.calm, hc.gen, fun h => absurd rfl h, by decide, by decide⟩
    generalize mt cs[5].rs = R at S
    refine ⟨fun i w' => ∃ (ii : Nat) (T : List Tg) (V' : Tg → List UInt8) (top : Tg) (cs : List CS) (xs : List Pl) (F' : Asn), i = (ii : Int) ∧ ii ≤ 6 ∧ LwSt n q k ⟨(n : Int), (k : Int), 0⟩ R T V' top (22 + 44 * ii) (ii : Int) (1 + 2 * (ii : Int)) cs xs ∧ Hp w w' (star (bk b116 Ty_api_Tag #[.int .i64 top.n, .int .i64 top.c]) (lxA b7 tp a b V I P cl sv n k cs xs n k 0 F')), fun i _ => 6 - i.toNat, ⟨0, _, _, Tg.zero, _, _, _, rfl, by decide, S, H⟩, ?_⟩
    clear H S hcs hRe hst hc hcp C hca hcc hca2 hE hJ h5 hl hA hl6 hxl hx0
    rintro _ w10 ⟨ii, T, V', top, cs, xs, F', rfl, hii, S, H⟩
    have hvl2 := hV.cel.len
    rw [List.length_map] at hvl2
    have h5 : 5 < cs.length := by rw [S.len]; decide
    have hcp : (cs.map csV)[5]? = some (csV cs[5]) := by rw [List.getElem?_map, List.getElem?_eq_getElem h5]; rfl
    have hcl := (H.cel (s := cl)).len
    rw [List.length_map, S.len] at hcl
    refine ⟨_, H.cell (b := b7) (i := 2) rfl, fun h => ?_, fun h => ?_⟩
    · simp only [Bool.and_eq_true, decide_eq_true_eq] at h
      have hi : ii < vs.length := by omega
      have ez : wr .i64 ((ii : Int) + 1) = ((ii + 1 : Nat) : Int) := by rw [wr64 (by omega) (by omega)]; omega
      have hgo := putG_c (K0 := fun w' => (∃ (jj : Nat) (T : List Tg) (V' : Tg → List UInt8) (top : Tg) (cs : List CS) (xs : List Pl) (F' : Asn), wr .i64 ((ii : Int) + 1) = (jj : Int) ∧ jj ≤ 6 ∧ LwSt n q k ⟨(n : Int), (k : Int), 0⟩ R T V' top (22 + 44 * jj) (jj : Int) (1 + 2 * (jj : Int)) cs xs ∧ Hp w w' (star (bk b116 Ty_api_Tag #[.int .i64 top.n, .int .i64 top.c]) (lxA b7 tp a b V I P cl sv n k cs xs n k 0 F'))) ∧ 6 - (wr .i64 ((ii : Int) + 1)).toNat < 6 - (ii : Int).toNat)
        (Q := Rt fun v w' => v = .bool true ∧ Fr [] w w') hL hV hvl hI hP hi S (by omega) (by omega) (by omega) H (fun T' V'' top' cs' xs' F'' w' S2 H2 => by
          have e1 : 22 + 44 * ii + 22 + 22 = 22 + 44 * (ii + 1) := by omega
          have e2 : (ii : Int) + 1 = ((ii + 1 : Nat) : Int) := by omega
          have e3 : 1 + 2 * (ii : Int) + 1 + 1 = 1 + 2 * ((ii + 1 : Nat) : Int) := by omega
          rw [e1, e2, e3] at S2
          exact ⟨⟨ii + 1, T', V'', top', cs', xs', F'', ez, by omega, S2, H2⟩, by rw [ez]; omega⟩)
      exact hgo
    · obtain ⟨ca, hca, hcc⟩ := (H.cel (s := cl)).at_ 5 (csV cs[5]) hcp
      have hc := S.all_.each 5 h5
      have H2 := ((H.take (all (csA n k) cs)).ent (Ent.star (all_at (csA n k) cs 5 h5) (Ent.refl _))).assoc.assoc
      refine ⟨ca, hca, by decide, by omega, _, hcc, call (nowIdle_c hc.now H2) ?_⟩
      rintro _ w11 ⟨rfl, f11⟩
      have H := H.fr0 f11
      refine ⟨_, _, _, _, _, _, _, rfl, H.new fun b354 w12 H => H.stoAll (b := b354) (by rfl) fun w13 H => ?_⟩
      refine ⟨fun x w' => x = true ∧ Fr [] w w', ⟨fun _ => ?_, fun h => absurd h (by decide)⟩, ?_⟩
      · obtain ⟨ca, hca, hcc⟩ := (H.cel (s := cl)).at_ 5 (csV cs[5]) hcp
        have H2 := ((H.take (all (csA n k) cs)).ent (Ent.star (all_at (csA n k) cs 5 h5) (Ent.refl _))).assoc.assoc
        refine ⟨ca, hca, by decide, by omega, _, hcc, call (tickNo_c hc.now H2) ?_⟩
        rintro _ w14 ⟨rfl, f14⟩
        exact ⟨_, rfl, rfl, (H.fr0 f14).fr⟩
      · rintro x w14 ⟨rfl, f⟩
        exact Rt.ok ⟨rfl, f⟩
end
end Go.Proofs.YtabifopphhpciaaGreatDoor

namespace Go.Vc
open Go Go.ChangeShapes Go.WideShapes Go.RowKit
section
variable {H : Type} {enc : TypeId × Value → H} {P : Program}

def Rd (enc : TypeId × Value → H) (P : Program) (w : World) (t : TypeId) (cs : List Value) : Prop :=
  ∃ fuel x, DataW.trod enc P w 0 (fun _ => true) true fuel t cs = some x ∧ ∀ n ∈ x.1.weights P t, n ≤ reachBytes
section
variable {w : World} {t : TypeId} {cs : List Value}
theorem Rd.int {k : IntKind} (h : Rd enc P w t cs) (ht : P.underlying t = some (.int k)) : ∃ n, cs = [.int k n] ∧ (Lit.int k n).wf = true := by
  obtain ⟨fuel, x, h, _⟩ := h
  obtain ⟨n, h1, _, h2⟩ := DataW.trod_int ht h
  exact ⟨n, h1, h2⟩
theorem Rd.bool (h : Rd enc P w t cs) (ht : P.underlying t = some .bool) : ∃ n, cs = [.bool n] := by
  obtain ⟨fuel, x, h, _⟩ := h
  obtain ⟨n, h1, _⟩ := DataW.trod_bool ht h
  exact ⟨n, h1⟩
theorem Rd.len (h : Rd enc P w t cs) {i off u : Nat} (hf : fldTyB P t i off u = true) : cs.length = P.cellsOf t := by
  obtain ⟨fuel, x, h, _⟩ := h
  unfold fldTyB at hf
  split at hf
  · rename_i fs hu
    obtain ⟨_, _, _, _, hl, _⟩ := DataW.trod_struct hu h
    exact hl
  · cases hf
theorem Rd.fld (h : Rd enc P w t cs) {i off u : Nat} (hf : fldTyB P t i off u = true) : Rd enc P w u ((cs.drop off).take (P.cellsOf u)) := by
  obtain ⟨fuel, x, h, hz⟩ := h
  unfold fldTyB at hf
  split at hf
  · rename_i fs hu
    split at hf
    · rename_i f hfi
      simp only [Bool.and_eq_true] at hf
      have e1 : f.offset = off := Nat.eq_of_beq_eq_true hf.1
      have e2 : f.type = u := Nat.eq_of_beq_eq_true hf.2
      obtain ⟨xs, n, _, hx, _, hl, hg⟩ := DataW.trod_struct hu h
      have h1 := hg i f hfi
      have hi : i < fs.size := (Array.getElem?_eq_some_iff.1 hfi).1
      rw [List.getElem?_eq_getElem (by omega)] at h1
      rw [e1, e2] at h1
      refine ⟨n, _, h1, fun m hm => hz m ?_⟩
      rw [hx]
      simp only [DataW.weights, hu]
      refine DataW.weights_mem_each (j := i) (t := u) (d := (xs[i]'(by omega)).1) ?_ ?_ m hm
      · have : fs.toList[i]? = some f := by simpa using hfi
        simp [List.getElem?_map, this, e2]
      · rw [List.getElem?_map, List.getElem?_eq_getElem (by omega)]
        rfl
    · cases hf
  · cases hf
theorem weights_mem_all {e : TypeId} {d : DataW H} {m : Nat} : ∀ {l : List (DataW H)}, d ∈ l → m ∈ d.weights P e → m ∈ DataW.weightsAll P e l
  | a :: r, h, hm => by
    simp only [DataW.weightsAll, List.mem_append]
    rcases List.mem_cons.1 h with rfl | h1
    · exact .inl hm
    · exact .inr (weights_mem_all h1 hm)
theorem Rd.slice {e : TypeId} (h : Rd enc P w t cs) (ht : P.underlying t = some (.slice e)) :
    ∃ s : Slc, cs = [s.v] ∧ s.l ≤ s.c ∧ s.l * P.bytesOf e ≤ reachBytes ∧ ∀ i, i < s.l → ∃ a cs', s.a = some a ∧ cs'.length = P.cellsOf e ∧ (∀ j v, cs'[j]? = some v → w.cell? (a.add (i * P.cellsOf e + j)) = some v) ∧ Rd enc P w e cs' := by
  obtain ⟨fuel, x, h, hz⟩ := h
  rcases DataW.trod_slice ht h with ⟨h1, _⟩ | ⟨a, len, cap, elems, rest, n, _, h1, hx, _, hl, hc, hel, he, hr, _⟩
  · exact ⟨Slc.nil, h1, Nat.le_refl _, by simp, fun i hi => by simp at hi⟩
  · subst hx
    refine ⟨⟨some a, len, cap⟩, h1, hl, ?_, fun i hi => ?_⟩
    · have := hz ((elems.length + rest.length) * P.bytesOf e) (by simp [DataW.weights, ht])
      exact Nat.le_trans (Nat.mul_le_mul_right _ (by simp only; omega)) this
    · simp only at hi
      have h2 := he i hi
      rw [List.getElem?_eq_getElem (by omega)] at h2
      obtain ⟨cs', h3, h4⟩ := Option.bind_eq_some_iff.1 h2
      obtain ⟨_, h5, h6⟩ := World.cells?_some h3
      refine ⟨a, cs', rfl, h5, fun j v hv => ?_, n, _, h4, fun m hm => hz m ?_⟩
      · have hj : j < P.cellsOf e := by have := (List.getElem?_eq_some_iff.1 hv).1; omega
        rw [← add_add, h6 j hj, hv]
      · simp only [DataW.weights, ht, List.mem_cons, List.mem_append]
        right; left
        exact weights_mem_all (d := (elems[i]'(by omega)).1) (List.mem_map.2 ⟨_, List.getElem_mem _, rfl⟩) hm
theorem choice {α : Type} {n : Nat} {R : Nat → α → Prop} (h : ∀ i, i < n → ∃ x, R i x) : ∃ l : List α, l.length = n ∧ ∀ i (hi : i < l.length), R i l[i] := by
  induction n with
  | zero => exact ⟨[], rfl, fun i hi => by simp at hi⟩
  | succ n ih =>
    obtain ⟨l, h1, h2⟩ := ih fun i hi => h i (by omega)
    obtain ⟨x, hx⟩ := h n (by omega)
    refine ⟨l ++ [x], by simp [h1], fun i hi => ?_⟩
    by_cases hl : i < l.length
    · rw [List.getElem_append_left hl]; exact h2 i hl
    · have : i = n := by simp at hi; omega
      subst this
      rw [List.getElem_append_right (by omega)]
      simpa using hx
theorem Rd.bytes {e : TypeId} (h : Rd enc P w t cs) (ht : P.underlying t = some (.slice e)) (he : P.underlying e = some (.int .u8)) (h1 : P.cellsOf e = 1) (hb : P.bytesOf e = 1) :
    ∃ (s : Slc) (bs : List UInt8), cs = [s.v] ∧ Byt w s bs ∧ bs.length ≤ reachBytes := by
  obtain ⟨s, hs, hl, hr, hi⟩ := h.slice ht
  obtain ⟨bs, hbl, hbs⟩ := choice (R := fun i (b : UInt8) => ∃ a, s.a = some a ∧ w.cell? (a.add i) = some (u8v b)) (n := s.l) fun i hlt => by
    obtain ⟨a, cs', ha, hl', hc, hd⟩ := hi i hlt
    obtain ⟨n, hn, hwf⟩ := hd.int he
    subst hn
    have h2 := hc 0 _ rfl
    rw [h1, Nat.mul_one, Nat.add_zero] at h2
    simp only [Lit.wf, Bool.and_eq_true, decide_eq_true_eq] at hwf
    have e1 : IntKind.u8.min = 0 := rfl
    have e2 : IntKind.u8.max = 255 := rfl
    rw [e1, e2] at hwf
    refine ⟨UInt8.ofNat n.toNat, a, ha, ?_⟩
    rw [h2]
    have := u8_ofNat (n := n.toNat) (by omega)
    rw [u8v, this]
    congr 2
    omega
  refine ⟨s, bs, hs, ⟨by simp [hbl], hl, fun i v hv => ?_⟩, by rw [hbl]; rw [hb] at hr; omega⟩
  simp only [List.getElem?_map, Option.map_eq_some_iff] at hv
  obtain ⟨b, hb, rfl⟩ := hv
  obtain ⟨hlt, rfl⟩ := List.getElem?_eq_some_iff.1 hb
  exact hbs i hlt
end

section
variable {ps : Array TypeId} {args : Array Value} {W : World} {base : Nat} (hval : ∀ (j : Nat) t v, ps[j]? = some t → args[j]? = some v → Value.okWide P W .any base t v)
include hval
theorem arg_struct {j : Nat} {t : TypeId} {v : Value} {fs : Array Field} (ht : P.underlying t = some (.struct fs)) (h1 : ps[j]? = some t) (h2 : args[j]? = some v) : ∃ cs, v = .agg cs := by
  obtain ⟨cs, h, _⟩ := okWide_struct ht (hval j t v h1 h2)
  exact ⟨cs, h⟩
end
theorem agg_of {cs : Array Value} {l : List Value} (h : (Value.agg cs).cells.toList = l) : cs = l.toArray := by
  have : cs.toList = l := h
  rw [← this]
theorem slc_of {s s' : Slc} (h : (Slc.v s).cells.toList = [Slc.v s']) : s = s' := by
  have h2 : [Slc.v s] = [Slc.v s'] := h
  injection h2 with h3
  injection h3 with h4 h5 h6
  cases s; cases s'; simp_all
/-! ## The whole of what was read -/
theorem trodAll_len {W : World} : ∀ {ts : List TypeId} {vs : List Value} {ds : List (DataW H)} {ps : List MemPlace}, DataW.TrodAll enc P W 0 (fun _ => true) true ts vs ds ps → vs.length = ts.length
  | [], _, _, _, h => by obtain ⟨rfl, _, _⟩ := trodAll_nil h; rfl
  | t0 :: ts, vs, ds, ps, h => by
    obtain ⟨v, vs', d, ds', p, q, rfl, rfl, rfl, h1, h2⟩ := trodAll_cons h
    simp [trodAll_len h2]
theorem trodAll_stays (hl : laidOutB P = true) {W W' : World} {sp : Nat → Bool} : ∀ {ts : List TypeId} {vs : List Value} {ds : List (DataW H)} {ps : List MemPlace}, (∀ t ∈ ts, P.readableRec t = true ∧ t < P.types.size) → DataW.TrodAll enc P W 0 (fun _ => true) true ts vs ds ps →
    (∀ p ∈ ps, W.sameAt W' p) → (∀ p ∈ ps, sp p.block = true) → DataW.TrodAll enc P W' 0 sp true ts vs ds ps
  | [], _, _, _, _, h, _, _ => by
    obtain ⟨rfl, rfl, rfl⟩ := trodAll_nil h
    exact trodAll_mk0
  | t0 :: ts, vs, ds, ps, ht, h, h1, h2 => by
    obtain ⟨v, vs', d, ds', p, q, rfl, rfl, rfl, h3, h4⟩ := trodAll_cons h
    obtain ⟨a, b⟩ := ht t0 (by simp)
    exact trodAll_cons_mk (WideElems.Trod_stays hl a b h3 (fun x hx => h1 x (List.mem_append_left _ hx)) (fun x hx => h2 x (List.mem_append_left _ hx)))
      (trodAll_stays hl (fun t h => ht t (by simp [h])) h4 (fun x hx => h1 x (List.mem_append_right _ hx)) (fun x hx => h2 x (List.mem_append_right _ hx)))
theorem Fr.kept {W W' : World} (h : Fr [] W W') (may : MemPlace → Prop) : W.keptBut W' may := by
  refine ⟨h.os, h.output, fun i hi => ?_⟩
  rw [h.block i hi (by simp)]
  cases W.heap[i]? with
  | none => rfl
  | some o =>
    cases o <;> first | exact ⟨rfl, rfl, rfl, fun _ _ => rfl⟩ | exact .inr ⟨rfl, rfl⟩ | rfl
theorem Fr.froz {W W' : World} (h : Fr [] W W') {a : Addr} (ha : a.block < W.heap.size) : W'.frozen? a = W.frozen? a := by
  unfold World.frozen?
  rw [h.block _ ha (by simp)]
theorem post_true {f : Func} {s : ChangeSpec} {apart fresh handsOn again : Bool} {W W' : World} {args : Array Value} {ds gs : List (DataW H)} {before : List MemPlace} {tb : TypeId} (hl : laidOutB P = true)
    (hrd : ∀ t ∈ f.params.toList, P.readableRec t = true ∧ t < P.types.size) (hvs : s.vars = []) (hW : DataW.Whole enc P f.params.toList s.vars apart W args.toList ds gs before) (hfr : Fr [] W W')
    (hres : f.resultTypes = #[tb]) (hb : P.underlying tb = some .bool) (hs : s.fn H (ds ++ gs) = { results := [.lit (.bool true)], args := ds }) : s.post enc P f apart fresh handsOn again W args (.bool true) W' := by
  have hlt : ∀ p ∈ before, p.block < W.heap.size := fun p hp => by simpa using hW.lt p hp
  have hW0 := hW
  obtain ⟨p, q, hA, hV, rfl, hz, hn⟩ := hW
  rw [hvs] at hV
  obtain ⟨rfl, rfl⟩ := trodVars_none hV
  simp only [List.append_nil] at hW0 hz hn hlt hs ⊢
  have hsame : ∀ x ∈ p, W.sameAt W' x := fun x hx => hfr.below.same (hlt x hx)
  have hr1 : ∀ (b : Nat) (sp : Nat → Bool) (hd : Bool), DataW.TrodAll enc P W' b sp hd f.resultTypes.toList ((Value.bool true).resultList f.resultTypes.size) [.lit (.bool true)] [] := fun b sp hd => by
    rw [hres]
    exact trodAll_cons_mk (shut_bool hb true) trodAll_mk0
  have hvars : ∀ sp : Nat → Bool, DataW.TrodVars enc P W' sp s.vars [] [] := fun sp => by rw [hvs]; rfl
  refine ⟨ds, [], p, [], p, [], hW0, ?_, ?_, ?_, hfr.kept _, fun _ => ?_⟩
  · simp only [List.append_nil]
    rw [hs]
    exact hr1 _ _ _
  · simp only [List.append_nil]
    rw [hs]
    exact trodAll_stays hl hrd hA hsame fun x hx => by simpa using hlt x hx
  · simp only [List.append_nil]
    rw [hs]
    exact hvars _
  · refine ⟨fun j t r h1 h2 => ?_, .lit (.bool true) :: ds, [], p, ⟨p, [], ?_, ?_, by simp, ?_, ?_⟩, ?_⟩
    · rw [hres] at h1 h2
      obtain rfl : j = 0 := by
        have := (Array.getElem?_eq_some_iff.1 h1).1
        simp at this
        omega
      simp [Value.resultList] at h1 h2
      subst h1 h2
      exact okWide_bool_mk hb _
    · have := trodAll_append (trodAll_stays (sp := fun _ => true) hl hrd hA hsame fun _ _ => rfl) (hr1 0 (fun _ => true) true)
      simpa using this
    · exact hvars _
    · intro b off hp
      rw [hfr.froz (hlt _ hp)]
      exact hz b off hp
    · exact hn
    · intro x hx _
      exact hx
end
end Go.Vc

namespace Go.Proofs.YtabifopphhpciaaGreatDoor
open Go Go.Vc Go.ChangeShapes Go.WideShapes Go.RowKit
section
variable {H : Type} {enc : TypeId × Value → H} {P : Program}
theorem bulk_one (d : DataW H) : 1 ≤ Rows.uptoBulk d := by
  cases d with
  | lit l => cases l <;> simp [Rows.uptoBulk]
  | nil => simp [Rows.uptoBulk]
  | ptr d => simp [Rows.uptoBulk]
  | slice elems spare => simp [Rows.uptoBulk]
  | agg parts => simp [Rows.uptoBulk]
  | iface t d => simp [Rows.uptoBulk]
  | map entries => simp [Rows.uptoBulk]
  | held h => simp [Rows.uptoBulk]
theorem bulk_part {d : DataW H} {l : List (DataW H)} (h : d ∈ l) : Rows.uptoBulk d ≤ Rows.uptoBulkAll l := by
  induction l with
  | nil => cases h
  | cons x r ih =>
    simp only [Rows.uptoBulkAll]
    cases List.mem_cons.1 h with
    | inl e => subst e; omega
    | inr e => have := ih e; omega
theorem bulk_len (l : List (DataW H)) : l.length ≤ Rows.uptoBulkAll l := by
  induction l with
  | nil => simp [Rows.uptoBulkAll]
  | cons x r ih => have := bulk_one x; simp only [Rows.uptoBulkAll, List.length_cons]; omega
def Ru (enc : TypeId × Value → H) (P : Program) (b : Nat) (w : World) (t : TypeId) (cs : List Value) : Prop :=
  ∃ fuel x, DataW.trod enc P w 0 (fun _ => true) true fuel t cs = some x ∧ (∀ n ∈ x.1.weights P t, n ≤ reachBytes) ∧ Rows.uptoBulk x.1 ≤ b
section
variable {w : World} {t : TypeId} {cs : List Value} {b : Nat}
theorem Ru.rd (h : Ru enc P b w t cs) : Rd enc P w t cs := by obtain ⟨f, x, h1, h2, _⟩ := h; exact ⟨f, x, h1, h2⟩
theorem Ru.int {k : IntKind} (h : Ru enc P b w t cs) (ht : P.underlying t = some (.int k)) : ∃ n, cs = [.int k n] ∧ (Lit.int k n).wf = true := h.rd.int ht
theorem Ru.bool (h : Ru enc P b w t cs) (ht : P.underlying t = some .bool) : ∃ n, cs = [.bool n] := h.rd.bool ht
theorem Ru.len (h : Ru enc P b w t cs) {i off u : Nat} (hf : fldTyB P t i off u = true) : cs.length = P.cellsOf t := h.rd.len hf
theorem Ru.fld (h : Ru enc P b w t cs) {i off u : Nat} (hf : fldTyB P t i off u = true) : Ru enc P b w u ((cs.drop off).take (P.cellsOf u)) := by
  obtain ⟨fuel, x, h, hz, hb⟩ := h
  unfold fldTyB at hf
  split at hf
  · rename_i fs hu
    split at hf
    · rename_i f hfi
      simp only [Bool.and_eq_true] at hf
      have e1 : f.offset = off := Nat.eq_of_beq_eq_true hf.1
      have e2 : f.type = u := Nat.eq_of_beq_eq_true hf.2
      obtain ⟨xs, n, _, hx, _, hl, hg⟩ := DataW.trod_struct hu h
      have h1 := hg i f hfi
      have hi : i < fs.size := (Array.getElem?_eq_some_iff.1 hfi).1
      rw [List.getElem?_eq_getElem (by omega)] at h1
      rw [e1, e2] at h1
      refine ⟨n, _, h1, fun m hm => hz m ?_, ?_⟩
      · rw [hx]
        simp only [DataW.weights, hu]
        refine DataW.weights_mem_each (j := i) (t := u) (d := (xs[i]'(by omega)).1) ?_ ?_ m hm
        · have : fs.toList[i]? = some f := by simpa using hfi
          simp [List.getElem?_map, this, e2]
        · rw [List.getElem?_map, List.getElem?_eq_getElem (by omega)]
          rfl
      · rw [hx] at hb
        simp only [Rows.uptoBulk] at hb
        have := bulk_part (d := (xs[i]'(by omega)).1) (l := xs.map (·.1)) (List.mem_map.2 ⟨_, List.getElem_mem _, rfl⟩)
        omega
    · cases hf
  · cases hf
theorem Ru.slice {e : TypeId} (h : Ru enc P b w t cs) (ht : P.underlying t = some (.slice e)) :
    ∃ s : Slc, cs = [s.v] ∧ s.l ≤ s.c ∧ s.l < b + 1 ∧ ∀ i, i < s.l → ∃ a cs', s.a = some a ∧ cs'.length = P.cellsOf e ∧ (∀ j v, cs'[j]? = some v → w.cell? (a.add (i * P.cellsOf e + j)) = some v) ∧ Ru enc P b w e cs' := by
  obtain ⟨fuel, x, h, hz, hb⟩ := h
  rcases DataW.trod_slice ht h with ⟨h1, _⟩ | ⟨a, len, cap, elems, rest, n, _, h1, hx, _, hl, hc, hel, he, hr, _⟩
  · exact ⟨Slc.nil, h1, Nat.le_refl _, by simp, fun i hi => by simp at hi⟩
  · subst hx
    simp only [Rows.uptoBulk] at hb
    have hbl := bulk_len (elems.map (·.1))
    rw [List.length_map] at hbl
    refine ⟨⟨some a, len, cap⟩, h1, hl, by simp only; omega, fun i hi => ?_⟩
    simp only at hi
    have h2 := he i hi
    rw [List.getElem?_eq_getElem (by omega)] at h2
    obtain ⟨cs', h3, h4⟩ := Option.bind_eq_some_iff.1 h2
    obtain ⟨_, h5, h6⟩ := World.cells?_some h3
    have hmem : (elems[i]'(by omega)).1 ∈ elems.map (·.1) := List.mem_map.2 ⟨_, List.getElem_mem _, rfl⟩
    refine ⟨a, cs', rfl, h5, fun j v hv => ?_, n, _, h4, fun m hm => hz m ?_, ?_⟩
    · have hj : j < P.cellsOf e := by have := (List.getElem?_eq_some_iff.1 hv).1; omega
      rw [← add_add, h6 j hj, hv]
    · simp only [DataW.weights, ht, List.mem_cons, List.mem_append]
      right; left
      exact weights_mem_all (d := (elems[i]'(by omega)).1) hmem hm
    · have := bulk_part hmem
      omega
theorem Ru.bytes {e : TypeId} (h : Ru enc P b w t cs) (ht : P.underlying t = some (.slice e)) (he : P.underlying e = some (.int .u8)) (h1 : P.cellsOf e = 1) (hb : P.bytesOf e = 1) :
    ∃ (s : Slc) (bs : List UInt8), cs = [s.v] ∧ Byt w s bs ∧ bs.length ≤ b := by
  obtain ⟨s, bs, hs, hB, _⟩ := h.rd.bytes ht he h1 hb
  obtain ⟨s', hs', _, hl, _⟩ := h.slice ht
  refine ⟨s, bs, hs, hB, ?_⟩
  rw [hs] at hs'
  obtain rfl : s = s' := slc_of (s := s) (s' := s') (by rw [← hs']; rfl)
  have := hB.len
  omega
theorem Ru.elems {e : TypeId} {α : Type} (R : α → List Value → Prop) (h : Ru enc P b w t cs) (ht : P.underlying t = some (.slice e)) (step : ∀ cs', Ru enc P b w e cs' → ∃ x, R x cs') :
    ∃ (s : Slc) (l : List α), cs = [s.v] ∧ s.l = l.length ∧ s.l ≤ s.c ∧ l.length ≤ b ∧ ∀ i (hi : i < l.length), ∃ a cs', s.a = some a ∧ R l[i] cs' ∧ cs'.length = P.cellsOf e ∧ ∀ j v, cs'[j]? = some v → w.cell? (a.add (i * P.cellsOf e + j)) = some v := by
  obtain ⟨s, hs, hc, hl, hi⟩ := h.slice ht
  obtain ⟨l, h1, h2⟩ := choice (R := fun i (x : α) => ∃ a cs', s.a = some a ∧ R x cs' ∧ cs'.length = P.cellsOf e ∧ ∀ j v, cs'[j]? = some v → w.cell? (a.add (i * P.cellsOf e + j)) = some v) (n := s.l) fun i hlt => by
    obtain ⟨a, cs', ha, hl', hc, hd⟩ := hi i hlt
    obtain ⟨x, hx⟩ := step cs' hd
    exact ⟨x, a, cs', ha, hx, hl', hc⟩
  exact ⟨s, l, hs, h1.symm, hc, by omega, h2⟩
end
/-! ## The whole of what was read -/
theorem ru_all {W : World} {b : Nat} : ∀ {ts : List TypeId} {vs : List Value} {ds : List (DataW H)} {ps : List MemPlace}, DataW.TrodAll enc P W 0 (fun _ => true) true ts vs ds ps → (∀ n ∈ DataW.weightsEach P ts ds, n ≤ reachBytes) → Rows.uptoBulkAll ds ≤ b →
    ∀ (j : Nat) (t : TypeId), ts[j]? = some t → ∃ v, vs[j]? = some v ∧ Ru enc P b W t v.cells.toList
  | [], _, _, _, _, _, _ => fun j t h => by simp at h
  | t0 :: ts, vs, ds, ps, h, hz, hb => by
    obtain ⟨v, vs', d, ds', p, q, rfl, rfl, rfl, h1, h2⟩ := trodAll_cons h
    simp only [Rows.uptoBulkAll] at hb
    intro j t ht
    cases j with
    | zero =>
      simp only [List.getElem?_cons_zero, Option.some.injEq] at ht
      subst ht
      obtain ⟨fuel, hf⟩ := h1
      exact ⟨v, rfl, fuel, _, hf, fun n hn => hz n (by simp only [DataW.weightsEach, List.mem_append]; exact .inl hn), by simp only; omega⟩
    | succ j =>
      simp only [List.getElem?_cons_succ] at ht ⊢
      exact ru_all h2 (fun n hn => hz n (by simp only [DataW.weightsEach, List.mem_append]; exact .inr hn)) (by omega) j t ht
end
theorem trodAll_dlen {H : Type} {enc : TypeId × Value → H} {P : Program} {W : World} : ∀ {ts : List TypeId} {vs : List Value} {ds : List (DataW H)} {ps : List MemPlace}, DataW.TrodAll enc P W 0 (fun _ => true) true ts vs ds ps → ds.length = ts.length
  | [], _, _, _, h => by obtain ⟨_, rfl, _⟩ := trodAll_nil h; rfl
  | t0 :: ts, vs, ds, ps, h => by
    obtain ⟨v, vs', d, ds', p, q, rfl, rfl, rfl, h1, h2⟩ := trodAll_cons h
    simp [trodAll_dlen h2]
theorem list1 {α : Type} {a : List α} (h : a.length = 1) : ∃ x, a = [x] := by
  match a, h with
  | [x], _ => exact ⟨x, rfl⟩
theorem args1 {α : Type} {a : Array α} (h : a.toList.length = 1) : ∃ x, a = #[x] := by
  obtain ⟨l⟩ := a
  match l, h with
  | [x], _ => exact ⟨x, rfl⟩
theorem val_of {v : Value} {l : List Value} (h : ∃ cs, v = .agg cs) (e : v.cells.toList = l) : v = .agg l.toArray := by
  obtain ⟨cs, rfl⟩ := h
  rw [agg_of e]
end Go.Proofs.YtabifopphhpciaaGreatDoor

namespace Go.Proofs.YtabifopphhpciaaGreatDoor
open Go Go.Vc Go.Vc.Asn Go.Gf
section
variable {w : World} {V I P : Slc} {vs : Rws} {is ps : List Int} {a b : Int} {key : ByteArray} {top : Tg}
end
end Go.Proofs.YtabifopphhpciaaGreatDoor

namespace Go.Proofs.YtabifopphhpciaaGreatDoor
open Go Go.Vc Go.ChangeShapes Go.WideShapes Go.RowKit
theorem own : ownKnob PP.godebug = none := by kernel_rfl
theorem laidOut : laidOutB PP = true := by kernel_rfl
theorem und_bool : PP.underlying Ty_bool = some .bool := by kernel_rfl
theorem cells_int : PP.cellsOf Ty_int = 1 := by kernel_rfl
theorem cells_uint8 : PP.cellsOf Ty_uint8 = 1 := by kernel_rfl
theorem bytes_uint8 : PP.bytesOf Ty_uint8 = 1 := by kernel_rfl
theorem cells_slu8 : PP.cellsOf Ty_sl_uint8 = 1 := by kernel_rfl
theorem cells_slslu8 : PP.cellsOf Ty_sl_sl_uint8 = 1 := by kernel_rfl
theorem cells_slint : PP.cellsOf Ty_sl_int = 1 := by kernel_rfl
theorem cells_Tale : PP.cellsOf Ty_sherdlaw18_Tale = 5 := by kernel_rfl
theorem slT_sl_sl : PP.underlying Ty_sl_sl_uint8 = some (.slice Ty_sl_uint8) := by kernel_rfl
noncomputable def laidWorld (os : Os) : World :=
  { World.holding PP os ⟨#[], #[], []⟩ with heap := (World.holding PP os ⟨#[], #[], []⟩).heap.modify 0 fun
      | .cells _ t frozen => .cells #[.iface 277 (.agg #[.pointer (some ⟨1, 243, none⟩)])] t frozen
      | o => o }
section
variable {H : Type} {enc : TypeId × Value → H} {w : World} {cs : List Value} {b : Nat}
theorem len5 {α : Type} {l : List α} (h : l.length = 5) : ∃ a b c d e, l = [a, b, c, d, e] := by
  match l, h with
  | [a, b, c, d, e], _ => exact ⟨a, b, c, d, e, rfl⟩
theorem ru_int (h : Ru enc PP b w Ty_int cs) : ∃ n, cs = [.int .i64 n] := by
  obtain ⟨n, hn, _⟩ := h.int und_int
  exact ⟨n, hn⟩
theorem ru_ints (h : Ru enc PP b w Ty_sl_int cs) : ∃ (s : Slc) (l : List Int), cs = [s.v] ∧ Cel w s 1 (l.map fun x => Value.int .i64 x) ∧ l.length ≤ b := by
  obtain ⟨s, l, h1, h2, h3, h4, h5⟩ := h.elems (R := fun (m : Int) cs => cs = [.int .i64 m]) (show PP.underlying Ty_sl_int = some (.slice Ty_int) by kernel_rfl) fun cs' h' => ru_int h'
  rw [cells_int] at h5
  refine ⟨s, l, h1, ⟨by simp [h2], h3, fun i v hv => ?_⟩, h4⟩
  have hlt : i < l.length := by have := (List.getElem?_eq_some_iff.1 hv).1; simpa using this
  rw [List.getElem?_map, List.getElem?_eq_getElem hlt] at hv
  injection hv with hv
  obtain ⟨a, cs', ha, rfl, _, hc⟩ := h5 i hlt
  refine ⟨a, ha, ?_⟩
  have := hc 0 _ rfl
  rw [Nat.mul_one, Nat.add_zero] at this
  rw [this, ← hv]
theorem ru_rows (h : Ru enc PP b w Ty_sl_sl_uint8 cs) : ∃ (s : Slc) (l : Rws), cs = [s.v] ∧ RdR w s l ∧ l.length ≤ b ∧ ∀ r ∈ l, r.2.length ≤ b := by
  obtain ⟨s, l, h1, h2, h3, h4, h5⟩ := h.elems (R := fun (r : Slc × List UInt8) cs => cs = [r.1.v] ∧ Byt w r.1 r.2 ∧ r.2.length ≤ b) slT_sl_sl fun cs' h' => by
    obtain ⟨s, bs, e, hB, hl⟩ := h'.bytes slT_sl_uint8.ut und_uint8 cells_uint8 bytes_uint8
    exact ⟨(s, bs), e, hB, hl⟩
  rw [cells_slu8] at h5
  refine ⟨s, l, h1, ⟨⟨by simp [h2], h3, fun i v hv => ?_⟩, fun r hr => ?_⟩, h4, fun r hr => ?_⟩
  · have hlt : i < l.length := by have := (List.getElem?_eq_some_iff.1 hv).1; simpa using this
    rw [List.getElem?_map, List.getElem?_eq_getElem hlt] at hv
    injection hv with hv
    obtain ⟨a, cs', ha, ⟨rfl, _⟩, _, hc⟩ := h5 i hlt
    refine ⟨a, ha, ?_⟩
    have := hc 0 _ rfl
    rw [Nat.mul_one, Nat.add_zero] at this
    rw [this, ← hv]
  · obtain ⟨i, hi, rfl⟩ := List.getElem_of_mem hr
    obtain ⟨_, _, _, ⟨_, hB, _⟩, _⟩ := h5 i hi
    exact hB
  · obtain ⟨i, hi, rfl⟩ := List.getElem_of_mem hr
    obtain ⟨_, _, _, ⟨_, _, hl⟩, _⟩ := h5 i hi
    exact hl
theorem ru_tale (h : Ru enc PP b w Ty_sherdlaw18_Tale cs) : ∃ (N K : Int) (V I P : Slc) (vs : Rws) (is ps : List Int), cs = [.int .i64 N, .int .i64 K, V.v, I.v, P.v] ∧ RdR w V vs ∧ vs.length ≤ b ∧ (∀ r ∈ vs, r.2.length ≤ b) ∧ Cel w I 1 (is.map fun x => Value.int .i64 x) ∧ is.length ≤ b ∧ Cel w P 1 (ps.map fun x => Value.int .i64 x) ∧ ps.length ≤ b := by
  have hl := h.len (i := 0) (off := 0) (u := Ty_int) (by kernel_rfl)
  rw [cells_Tale] at hl
  obtain ⟨a, bb, c, d, e, rfl⟩ := len5 hl
  have h0 := h.fld (i := 0) (off := 0) (u := Ty_int) (by kernel_rfl)
  have h1 := h.fld (i := 1) (off := 1) (u := Ty_int) (by kernel_rfl)
  have h2 := h.fld (i := 2) (off := 2) (u := Ty_sl_sl_uint8) (by kernel_rfl)
  have h3 := h.fld (i := 3) (off := 3) (u := Ty_sl_int) (by kernel_rfl)
  have h4 := h.fld (i := 4) (off := 4) (u := Ty_sl_int) (by kernel_rfl)
  rw [cells_int] at h0 h1
  rw [cells_slslu8] at h2
  rw [cells_slint] at h3 h4
  obtain ⟨n0, e0⟩ := ru_int h0
  obtain ⟨n1, e1⟩ := ru_int h1
  obtain ⟨s2, l2, e2, hR2, hl2, hb2⟩ := ru_rows h2
  obtain ⟨s3, z3, e3, hZ3, hz3⟩ := ru_ints h3
  obtain ⟨s4, z4, e4, hZ4, hz4⟩ := ru_ints h4
  simp at e0 e1 e2 e3 e4
  subst e0 e1 e2 e3 e4
  exact ⟨n0, n1, s2, s3, s4, l2, z3, z4, rfl, hR2, hl2, hb2, hZ3, hz3, hZ4, hz4⟩
end
end Go.Proofs.YtabifopphhpciaaGreatDoor

namespace Go.Proofs.YtabifopphhpciaaGreatDoor
open Go Go.Vc Go.ChangeShapes Go.WideShapes Go.RowKit
theorem err_et : PP.globalNamed "errors.errorType" = some 0 := by kernel_rfl
theorem err_rt : (PP.cutTypes.find? (·.1 == "internal/reflectlite.rtype")).map (·.2) = some 277 := by kernel_rfl
theorem err_row : ((List.range 341).filter fun t => PP.rowNamed t [101, 114, 114, 111, 114]) = [243] := by kernel_rfl
theorem err_size : PP.types.size = 341 := by kernel_rfl
theorem given {W : World} (h : laidMetH PP [("errors.errorType", Rows.laid_errors_errorType)] W) : ErrG W := by
  have h' : laidMet PP [] W ∧ handlesMet PP [("errors.errorType", Rows.laid_errors_errorType)] W := h
  obtain ⟨name, u, ty, e1, e2, e3, e4, e5⟩ := h'.2 _ (List.mem_singleton.2 rfl)
  have en : name = [101, 114, 114, 111, 114] := (Option.some.inj e1).symm
  subst en
  obtain rfl := Option.some.inj (err_rt.symm.trans e2)
  have hm : ty ∈ (List.range 341).filter fun t => PP.rowNamed t [101, 114, 114, 111, 114] := List.mem_filter.2 ⟨List.mem_range.2 (by rw [← err_size]; exact e3), e4⟩
  rw [err_row] at hm
  obtain rfl := List.mem_singleton.1 hm
  have hh : typeHandle PP 243 = .pointer (some ⟨1, 243, none⟩) := by kernel_rfl
  rw [hh] at e5
  unfold ErrG
  simpa using World.var?_cell err_et e5 0
end Go.Proofs.YtabifopphhpciaaGreatDoor
