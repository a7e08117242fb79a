/-
  An operation's messages, one at a time, over plain servers.
-/
import Derived.Test.YtabifopphhpciaaGreatDoorM9
namespace Go.Proofs.YtabifopphhpciaaGreatDoor
open Go Go.Vc Go.Vc.Asn Go.Gf
theorem flat_takeM (ql : List Ms) : ∀ i, (ql.flatMap Ms.c).take (i * 11) = (ql.take i).flatMap Ms.c := by
  induction ql with
  | nil => intro i; simp
  | cons a l ih =>
    intro i
    cases i with
    | zero => simp
    | succ i =>
      rw [List.flatMap_cons, List.take_succ_cons, List.flatMap_cons, ← ih i, List.take_append, ms_len, show (i + 1) * 11 - 11 = i * 11 by omega, List.take_of_length_le (by rw [ms_len]; omega)]
theorem flat_dropM (ql : List Ms) : ∀ i, (ql.flatMap Ms.c).drop (i * 11) = (ql.drop i).flatMap Ms.c := by
  induction ql with
  | nil => intro i; simp
  | cons a l ih =>
    intro i
    cases i with
    | zero => simp
    | succ i =>
      rw [List.flatMap_cons, List.drop_succ_cons, ← ih i, List.drop_append, ms_len, show (i + 1) * 11 - 11 = i * 11 by omega, List.drop_of_length_le (by rw [ms_len]; omega), List.nil_append]
abbrev JT := List Am → List (List Ha) → Asn → Nat → Prop
abbrev PT := Rs → List UInt8 → List (List Ha) → Asn → Prop
def qP (J : JT) (Post : PT) (qa : List Am) (xa : List (List Ha)) (cnt : Nat) (T : Asn → Asn) (z : ResU) (A' : Asn) : Prop :=
  (∃ r ms A2, z = resU r Rs.no false ∧ J (qa ++ ms.map Ms.abs) xa A2 cnt ∧ ms.length ≤ 255 ∧ A' = star (msgsA r ms) (T A2)) ∨
  (∃ r R vb A2, z = resU r R true ∧ Post R vb xa A2 ∧ A' = star (own Ty_uint8 1 R.val (vb.map u8v)) (T A2))
def qR (J : JT) (Post : PT) (w0 : World) (m : Ms) (b54 tp j cnt : Nat) (sv : Slc) (xs : List Pl) (N K D : Int) (x0 : Pl) (A G : Asn) (qa : List Am) (o1 : Option MsU) (o2 : Option ResU) (o3 : Option Nat) (o4 : Option Unit) (w' : World) : Prop :=
  match o1, o2 with
  | none, none => Hp w0 w' (rsB none o3 none (star (bk b54 Ty_api_Message m.c.toArray) (star (mdA m) (tnA tp sv xs N K D (star A G)))))
  | some u, none => ∃ (a : Ms) (x' : Pl), u = msU a ∧ x'.b = x0.b ∧ x'.abs = (plAns x0.abs m.abs).1 ∧ a.abs = (plAns x0.abs m.abs).2 ∧ Hp w0 w' (rsB none o3 none (star (mdA a) (tnA tp sv (xs.set j x') N K D (star A G))))
  | some _, some z => ∃ (x' : Pl) (A' : Asn), x'.b = x0.b ∧ x'.abs = (plAns x0.abs m.abs).1 ∧ qP J Post qa ((xs.set j x').map Pl.abs) cnt (fun A2 => tnA tp sv (xs.set j x') N K D (star A2 G)) z A' ∧ Hp w0 w' (rsB (some z) o3 o4 A')
  | none, some _ => False
theorem rs_out {w0 w : World} {F : Asn} : ∀ {o : Option Nat}, Hp w0 w (rsB none o none F) → Hp w0 w (star (rsB none o none emp) F)
  | none, H => H.ent emp_l
  | some _, H => H.ent (Ent.star emp_r (Ent.refl _))
theorem rs_in {w0 w : World} {F : Asn} {o2 : Option ResU} : ∀ {o : Option Nat}, Hp w0 w (star (rsB none o none emp) F) → Hp w0 w (rsB o2 o none F)
  | none, H => H.ent emp_l'
  | some _, H => H.ent (Ent.star emp_r' (Ent.refl _))
section
variable {w0 w : World} {F A : Asn} {p tp : Nat} {l P sv : Slc} {ql : List Ms} {xs : List Pl} {ps : List Int} {N K D : Int}
theorem quiet_c {J : JT} {Post : PT}
    (hJ : ∀ qa xa A cnt, J qa xa A cnt → qa ≠ [] ∧ qa.length ≤ 700 ∧ cnt ≤ 4000 ∧ (∀ m ∈ qa, 0 ≤ m.sv ∧ m.sv < (xa.length : Int) ∧ 1 ≤ m.k ∧ m.k ≤ 7 ∧ m.bs.length ≤ 65536) ∧ ∀ l ∈ xa, l.length ≤ 999999 ∧ ∀ h ∈ l, h.bs.length ≤ 65536)
    (hstep : ∀ (qa : List Am) (xa : List (List Ha)) (A : Asn) (cnt i j : Nat) (hi : i < qa.length) (hj : j < xa.length) (a : Ms), qa[i].sv = (j : Int) → J qa xa A cnt → a.abs = (plAns xa[j] qa[i]).2 → ∀ {w : World} {F : Asn}, Hp w0 w (star A (star (mdA a) F)) → Calls PP F_client_Client_Handle #[.pointer (some (blk p)), .agg a.c.toArray] w (Rt fun v w' =>
      (∃ r ms A2, v = .tuple #[Slc.v r, Rs.no.v, .bool false] ∧ J (qa.eraseIdx i ++ ms.map Ms.abs) (xa.set j (plAns xa[j] qa[i]).1) A2 (cnt + 1) ∧ ms.length ≤ 255 ∧ Hp w0 w' (star (msgsA r ms) (star A2 F))) ∨
      (∃ r R vb A2, v = .tuple #[Slc.v r, Rs.v R, .bool true] ∧ Post R vb (xa.set j (plAns xa[j] qa[i]).1) A2 ∧ Hp w0 w' (star (own Ty_uint8 1 R.val (vb.map u8v)) (star A2 F)))))
    (hP : Cel w0 P 1 (ps.map iK)) (S : J (ql.map Ms.abs) (xs.map Pl.abs) A 0) (H : Hp w0 w (star (msgsA l ql) (tnA tp sv xs N K D (star A F)))) :
    Calls PP F_sherdlaw18_Town_quiet #[.pointer (some (blk tp)), .pointer (some (blk p)), l.v, P.v] w (Rt fun v w' => ∃ R vb xs' A2, v = .tuple #[Rs.v R, .bool true] ∧ Post R vb (xs'.map Pl.abs) A2 ∧ Hp w0 w' (star (own Ty_uint8 1 R.val (vb.map u8v)) (tnA tp sv xs' N K D (star A2 F)))) := by
  refine sim_sherdlaw18_Town_quiet _ _ _ _ _ _ ?_
  unfold vc_sherdlaw18_Town_quiet
  refine H.new fun b6 w1 H => ?_
  refine ⟨fun l z w' => ∃ (cnt : Nat) (ql : List Ms) (xs : List Pl) (A : Asn), z = (cnt : Int) ∧ J (ql.map Ms.abs) (xs.map Pl.abs) A cnt ∧ Hp w0 w' (star (bk b6 Ty_api_Result #[.int .i64 0, .bool false, .int .i64 0, .int .i64 0, .int .i64 0, Slc.nil.v]) (star (msgsA l ql) (tnA tp sv xs N K D (star A F)))), fun _ z _ => 4096 - z.toNat, ⟨0, ql, xs, A, rfl, S, H⟩, ?_⟩
  clear H S
  rintro l _ w1 ⟨cnt, ql, xs, A, rfl, S, H⟩
  obtain ⟨q0, q1, q2, q3, q4⟩ := hJ _ _ _ _ S
  rw [List.length_map] at q1
  have hpos : 0 < ql.length := by
    cases ql with
    | nil => exact absurd rfl q0
    | cons a b => simp
  have hll : l.l = ql.length := by obtain ⟨h, -⟩ := rdMs (H.take (msgsA l ql)) hpos; exact h
  have ez : wr .i64 ((cnt : Int) + 1) = ((cnt + 1 : Nat) : Int) := by rw [wr64 (by omega) (by omega)]; omega
  have hpL : P.l = ps.length := by have := hP.len; rw [List.length_map] at this; omega
  refine ⟨fun _ => ⟨fun z w' => ∃ i : Nat, z = (i : Int) ∧ i < ql.length ∧ Hp w0 w' (star (bk b6 Ty_api_Result #[.int .i64 0, .bool false, .int .i64 0, .int .i64 0, .int .i64 0, Slc.nil.v]) (star (msgsA l ql) (tnA tp sv xs N K D (star A F)))), ⟨fun h => ?_, fun _ => ⟨0, rfl, hpos, H⟩⟩, ?_⟩, fun h => ?_⟩
  · have hlt : cnt < ps.length := by have := of_decide_eq_true h; omega
    obtain ⟨a, ha, hc⟩ := (hP.fr0 H.fr).at_ cnt (iK ps[cnt]) (by simp [List.getElem?_eq_getElem hlt])
    refine ⟨a, ha, by omega, by omega, _, by rw [Int.toNat_natCast, Nat.mul_one]; exact hc, call (mod_c (by omega) (by omega)) ?_⟩
    rintro _ _ ⟨rfl, rfl⟩
    have hb := modI_bounds (k := ps[cnt]) (n := (l.l : Int)) (by omega)
    exact ⟨_, rfl, (modI ps[cnt] l.l).toNat, by omega, by omega, H⟩
  · clear H
    rintro _ w2 ⟨i, rfl, hi, H⟩
    obtain ⟨-, a, ha, hc⟩ := rdMs (H.take (msgsA l ql)) hi
    have ei : wr .i64 ((i : Int) + 1) = ((i + 1 : Nat) : Int) := by rw [wr64 (by omega) (by omega)]; omega
    have hcel := (H.take (msgsA l ql)).assoc.cel (s := l)
    have hcap := hcel.cap
    obtain ⟨v0, v1, k0, k1, hbs⟩ := q3 ql[i].abs (List.mem_map.2 ⟨_, List.getElem_mem hi, rfl⟩)
    rw [List.length_map] at v1
    obtain ⟨j, hj⟩ : ∃ j : Nat, ql[i].sv = (j : Int) := ⟨ql[i].sv.toNat, by have : (0 : Int) ≤ ql[i].sv := v0; omega⟩
    have hjx : j < xs.length := by have : ql[i].sv < (xs.length : Int) := v1; omega
    refine ⟨a, ha, by omega, by omega, _, hc 0 _ rfl, _, hc 1 _ rfl, _, hc 2 _ rfl, _, hc 3 _ rfl, _, hc 4 _ rfl, _, hc 5 _ rfl, _, hc 6 _ rfl, _, hc 7 _ rfl, _, hc 8 _ rfl, _, hc 9 _ rfl, _, hc 10 _ rfl, H.new fun b54 w3 H => H.stoAll (b := b54) (by rfl) fun w4 H => ⟨by decide, by omega, by omega, by rw [ei]; omega, by rw [ei]; omega, by omega, ?_⟩⟩
    rw [ei]
    have H := H.drew 1
    refine H.newRow (e := Ty_api_Message) (n := 0) (size := 11) [] rfl rfl (by decide) fun b65 w5 H => ?_
    have hy1 : Cel w5 (l.cut 11 (Int.toNat 0) (Int.toNat (i : Int))) 11 ((ql.take i).flatMap Ms.c) := by
      have h := ((H.take (msgsA l ql)).assoc.cel (s := l)).cut (l := 0) (k := i) (by omega) (by omega)
      rw [Nat.zero_mul, List.drop_zero, Nat.sub_zero, flat_takeM] at h
      exact h
    have hl1 : (l.cut 11 (Int.toNat 0) (Int.toNat (i : Int))).l = i := by show (i : Int).toNat - (Int.toNat 0) = i; simp
    refine H.app (s := ⟨some (blk b65), 0, 0⟩) slT_sl_api_Message hy1 (one_ms _) (by unfold maxLen; simp only; omega) (by simp only; omega) fun s68 w6 H hs68 => ?_
    have hy2 : Cel w6 (l.cut 11 (Int.toNat ((i + 1 : Nat) : Int)) (Int.toNat (l.l : Int))) 11 ((ql.drop (i + 1)).flatMap Ms.c) := by
      have h := ((H.take (msgsA l ql)).assoc.cel (s := l)).cut (l := i + 1) (k := l.l) (by omega) (Nat.le_refl _)
      rw [flat_dropM, List.take_of_length_le (by rw [flat_len (enc := Ms.c) ms_len, List.length_drop]; rw [hll]; omega)] at h
      exact h
    have hl2 : (l.cut 11 (Int.toNat ((i + 1 : Nat) : Int)) (Int.toNat (l.l : Int))).l = ql.length - (i + 1) := by show (l.l : Int).toNat - (((i + 1 : Nat) : Int)).toNat = _; rw [Int.toNat_natCast, Int.toNat_natCast, hll]
    rw [hl1] at hs68
    simp only at hs68
    refine H.app (s := s68) slT_sl_api_Message hy2 (one_ms _) (by unfold maxLen; omega) (by omega) fun s71 w7 H hs71 => ?_
    have hsvl : sv.l = xs.length := by
      have := (H.cel (s := sv)).len
      rw [List.length_map] at this
      omega
    refine ⟨_, H.cell (b := b54) (i := 2) rfl, false, fun _ => ⟨_, H.cell (b := b54) (i := 2) rfl, _, rfl, _, H.cell (b := tp) (i := 3) rfl, ?_⟩, fun h => ?_, fun q => ⟨fun h => (nomatch h), fun _ => ?_⟩⟩
    · rw [hsvl, hj]; simp; omega
    · exact absurd (of_decide_eq_true h) (by omega)
    have H := (H.drew q).drew 1
    have H := ((H.take (msgsA l ql)).assoc.drop.ent (Ent.star (all_at mdA ql i hi) (Ent.refl _))).assoc
    have hflat : [] ++ (ql.take i).flatMap Ms.c ++ (ql.drop (i + 1)).flatMap Ms.c = (ql.eraseIdx i).flatMap Ms.c := by rw [List.nil_append, List.eraseIdx_eq_take_drop_succ, List.flatMap_append]
    rw [hflat, ← List.eraseIdx_eq_take_drop_succ] at H
    have hea : (ql.map Ms.abs).eraseIdx i = (ql.eraseIdx i).map Ms.abs := by rw [List.eraseIdx_eq_take_drop_succ, List.eraseIdx_eq_take_drop_succ, List.map_append, List.map_take, List.map_drop]
    have hst := fun (a : Ms) (ha : a.abs = (plAns xs[j].abs ql[i].abs).2) => @hstep _ _ _ _ i j (by rw [List.length_map]; exact hi) (by rw [List.length_map]; exact hjx) a (by rw [List.getElem_map]; exact hj) S (by rw [List.getElem_map, List.getElem_map]; exact ha)
    simp only [List.getElem_map, hea] at hst
    have hx := q4 xs[j].abs (List.mem_map.2 ⟨_, List.getElem_mem hjx, rfl⟩)
    have hxl : xs[j].l.length ≤ 999999 := by have := hx.1; unfold Pl.abs at this; rw [List.length_map] at this; exact this
    obtain ⟨av, hav, -⟩ := (H.cel (s := sv)).at_ j (plV xs[j]) (by rw [List.getElem?_map, List.getElem?_eq_getElem hjx]; rfl)
    generalize hm : ql[i] = m at *
    have hsv : m.sv = (j : Int) := hj
    refine ⟨_, rfl, sv, (j : Int), av, hav, by omega, by omega, some (blk xs[j].b), m.k, m.cl, m.sv, m.op, m.key, m.tag.n, m.tag.c, m.top.n, m.top.c, m.has, m.data, qR J Post w0 m b54 tp j (cnt + 1) sv xs N K D xs[j] A (star (bk b6 Ty_api_Result #[.int .i64 0, .bool false, .int .i64 0, .int .i64 0, .int .i64 0, Slc.nil.v]) (star (own Ty_api_Message 11 s71 ((ql.eraseIdx i).flatMap Ms.c)) (star (all mdA (ql.eraseIdx i)) F))) ((ql.eraseIdx i).map Ms.abs), ?_, ?_, ?_, ?_, ?_, ?_, ?_, ?_, ?_, ?_⟩
    · exact (((((((((H.take (all mdA (ql.eraseIdx i))).own s71).blk b6).take A).take (all plA xs)).own sv).blk tp).take (mdA m)).blk b54)
    · exact fun o w8 H => (rs_out H).cell (b := tp) (i := 3) rfl
    · rw [← hsv]
      exact fun o w8 H => (rs_out H).cell (b := b54) (i := 2) rfl
    · intro o w8 H
      obtain ⟨a', ha', hc⟩ := ((rs_out H).cel (s := sv)).at_ j (plV xs[j]) (by rw [List.getElem?_map, List.getElem?_eq_getElem hjx]; rfl)
      obtain rfl : av = a' := by rw [hav] at ha'; injection ha'
      rw [Int.toNat_natCast, Nat.mul_one]
      exact hc
    · intro o w8 H
      have H := rs_out H
      exact ⟨H.cell (b := b54) (i := 0) rfl, H.cell (b := b54) (i := 1) rfl, H.cell (b := b54) (i := 2) rfl, H.cell (b := b54) (i := 3) rfl, H.cell (b := b54) (i := 4) rfl, H.cell (b := b54) (i := 5) rfl, H.cell (b := b54) (i := 6) rfl, H.cell (b := b54) (i := 7) rfl, H.cell (b := b54) (i := 8) rfl, H.cell (b := b54) (i := 9) rfl, H.cell (b := b54) (i := 10) rfl⟩
    · intro o w8 H
      have H := ((rs_out H).take (all plA xs)).ent (Ent.star (all_at plA xs j hjx) (Ent.refl _))
      have H := ((H.assoc.take (all plA (xs.take j ++ xs.drop (j + 1)))).take (mdA m)).take (plA xs[j])
      refine call (pa_c hjx (by show m.abs.bs.length ≤ _; omega) (by omega) (fun h hm => by have := hx.2 h hm; omega) (by show 0 ≤ m.abs.k; omega) (by show m.abs.k ≤ 1000; omega) H) ?_
      rintro _ w9 ⟨x', a', rfl, h1, h2, h3, H⟩
      refine ⟨_, _, _, _, _, _, _, _, _, _, _, rfl, a', x', rfl, h1, h2, h3, rs_in ?_⟩
      have H := ((H.take (mdA m)).drop.blk b54).drop
      unfold tnA
      rw [plV_set hjx h1]
      exact ((((H.take (all plA (xs.set j x'))).own sv).blk tp).take (mdA a')).take (rsB none o none emp)
    · rintro k1 k2 k3 k4 k5 k6 k7 k8 k9 k10 k11 o w8 ⟨a, x', hu, h1, h2, h3, H⟩
      simp only [msU, Prod.mk.injEq] at hu
      obtain ⟨rfl, rfl, rfl, rfl, rfl, rfl, rfl, rfl, rfl, rfl, rfl⟩ := hu
      have hxs : (xs.map Pl.abs).set j (plAns xs[j].abs m.abs).1 = (xs.set j x').map Pl.abs := by rw [← h2, List.map_set]
      refine call (hst a h3 (((rs_out H).take (mdA a)).take A)) ?_
      rw [hxs]
      rintro _ w9 (⟨r, ms, A2, rfl, hJ2, hms, H⟩ | ⟨r, R, vb, A2, rfl, hP2, H⟩)
      · refine ⟨_, _, _, _, _, _, _, _, rfl, x', _, h1, h2, .inl ⟨r, ms, A2, rfl, hJ2, hms, rfl⟩, rs_in ?_⟩
        exact (((((H.take A2).take (all plA (xs.set j x'))).own sv).blk tp).take (msgsA r ms)).take (rsB none o none emp)
      · refine ⟨_, _, _, _, _, _, _, _, rfl, x', _, h1, h2, .inr ⟨r, R, vb, A2, rfl, hP2, rfl⟩, rs_in ?_⟩
        exact (((((H.take A2).take (all plA (xs.set j x'))).own sv).blk tp).own R.val).take (rsB none o none emp)
    · rintro (_ | u) (_ | z) w8 H
      · exact H.new fun b w9 H => H
      · exact H.elim
      · obtain ⟨a, x', hu, h1, h2, h3, H⟩ := H
        exact H.new fun b w9 H => ⟨a, x', hu, h1, h2, h3, H⟩
      · obtain ⟨x', A', h1, h2, h3, H⟩ := H
        exact H.new fun b w9 H => ⟨x', A', h1, h2, h3, H⟩
    · rintro k1 k2 k3 k4 k5 k6 k7 k8 k9 k10 k11 r1 r2 r3 r4 r5 r6 r7 r8 b w8 ⟨x', A', h1, h2, h3, H⟩
      have H : Hp w0 w8 (star (bk b Ty_api_Result #[.int .i64 0, .bool false, .int .i64 0, .int .i64 0, .int .i64 0, Slc.nil.v]) A') := H
      exact H.stoAll (b := b) (by rfl) fun w9 H => ⟨x', A', h1, h2, h3, H⟩
    · rintro k1 k2 k3 k4 k5 k6 k7 k8 k9 k10 k11 r1 r2 r3 r4 r5 r6 r7 r8 b w8 ⟨x', A', h1, h2, h3, H⟩
      rcases h3 with ⟨r, ms, A2, hu, hJ2, hms, rfl⟩ | ⟨r, R, vb, A2, hu, hP2, rfl⟩
      · simp only [resU, Prod.mk.injEq] at hu
        obtain ⟨rfl, rfl, rfl, rfl, rfl, rfl, rfl, rfl⟩ := hu
        dsimp only [rsB] at H
        refine ⟨fun h => (nomatch h), fun _ => ?_⟩
        obtain ⟨-, z1, -, -⟩ := hJ _ _ _ _ hJ2
        rw [List.length_append, List.length_map, List.length_map] at z1
        have H := (H.take (msgsA r1 ms)).assoc
        have hy : Cel w8 r1 11 (ms.flatMap Ms.c) := H.cel (s := r1)
        have hyl : r1.l = ms.length := Cel.flen (enc := Ms.c) ms_len hy (by decide)
        refine Hp.app (s := s71) slT_sl_api_Message H hy (one_ms ms) (by unfold maxLen; omega) (by omega) fun s' w9 H _ => ⟨⟨cnt + 1, ql.eraseIdx i ++ ms, xs.set j x', A2, ez, by rw [List.map_append]; exact hJ2, ?_⟩, ?_⟩
        · have H := ((H.own r1).drop.blk b).drop
          rw [← List.flatMap_append] at H
          have H := ((H.take (all mdA ms)).take (all mdA (ql.eraseIdx i))).assoc'.ent (Ent.star (all_app mdA ms (ql.eraseIdx i)) (Ent.refl _))
          exact (((((H.take A2).take (all plA (xs.set j x'))).own sv).blk tp).take (all mdA (ql.eraseIdx i ++ ms))).own s' |>.assoc' |> fun H => (H : Hp w0 w9 (star (msgsA s' (ql.eraseIdx i ++ ms)) _)).blk b6
        · simp only [ez]; omega
      · simp only [resU, Prod.mk.injEq] at hu
        obtain ⟨rfl, rfl, rfl, rfl, rfl, rfl, rfl, rfl⟩ := hu
        dsimp only [rsB] at H
        refine ⟨fun _ => ?_, fun h => (nomatch h)⟩
        refine ⟨_, H.cell (b := b) (i := 0) rfl, _, H.cell (b := b) (i := 1) rfl, _, H.cell (b := b) (i := 2) rfl, _, H.cell (b := b) (i := 3) rfl, _, H.cell (b := b) (i := 4) rfl, _, H.cell (b := b) (i := 5) rfl, H.stoAll (b := b6) (by rfl) fun w9 H => ⟨_, H.cell (b := b6) (i := 0) rfl, _, H.cell (b := b6) (i := 1) rfl, _, H.cell (b := b6) (i := 2) rfl, _, H.cell (b := b6) (i := 3) rfl, _, H.cell (b := b6) (i := 4) rfl, _, H.cell (b := b6) (i := 5) rfl, Rt.ok ⟨R, vb, xs.set j x', A2, rfl, hP2, ?_⟩⟩⟩
        have H := ((((H.blk b6).drop.blk b).drop.own s71).drop.take (all mdA (ql.eraseIdx i))).drop
        exact ((((H.take A2).take (all plA (xs.set j x'))).own sv).blk tp).own R.val
  · exfalso
    simp only [Bool.and_eq_false_iff, decide_eq_false_iff_not] at h
    omega
end
end Go.Proofs.YtabifopphhpciaaGreatDoor

namespace Go.Vc
open Go
section
variable {l : List Ha} {m : Am}
theorem plAns_a (l : List Ha) (m : Am) : (plAns l m).2.k = m.k + 1 ∧ (plAns l m).2.cl = m.cl ∧ (plAns l m).2.sv = m.sv ∧ (plAns l m).2.op = m.op ∧ (plAns l m).2.key = m.key ∧ (plAns l m).2.tag = m.tag := by
  unfold plAns
  dsimp only
  split
  · exact ⟨rfl, rfl, rfl, rfl, rfl, rfl⟩
  · split
    · exact ⟨rfl, rfl, rfl, rfl, rfl, rfl⟩
    · split <;> exact ⟨rfl, rfl, rfl, rfl, rfl, rfl⟩
end
end Go.Vc
namespace Go.Proofs.YtabifopphhpciaaGreatDoor
open Go Go.Vc Go.Vc.Asn Go.Gf
structure DE where
  b : Bool
  n : Nat
  k : Nat
  q : Nat
  c : Cfg
  id : Int
  key : ByteArray
  bs : List UInt8
  nt : Tg
  pa : Nat
  oa : Nat
  cda : Nat
  ga : Nat
  sca : Slc
  rsa : Rws
  pb : Nat
  ob : Nat
  cdb : Nat
  gb : Nat
  scb : Slc
  rsb : Rws
  tp : Nat
  sv : Slc
  N : Int
  K : Int
  D : Int
def DE.A (E : DE) (x : Cl) (y : Opn) (L : List (Int × Rp)) : Asn := star (cliA E.pa x) (star (opnA E.oa y) (star (phA y.ph (E.c, L)) (codeA E.cda E.ga E.sca E.rsa E.n E.k)))
def DE.B (E : DE) (x : Cl) (y : Opn) (L : List (Int × Rp)) : Asn := star (cliA E.pb x) (star (opnA E.ob y) (star (phA y.ph (E.c, L)) (codeA E.cdb E.gb E.scb E.rsb E.n E.k)))
structure DEok (E : DE) (w0 : World) : Prop where
  ca : ∀ {w' : World} {A' : Asn}, Hp w0 w' (star (codeA E.cda E.ga E.sca E.rsa E.n E.k) A') → RdCode w' E.cda E.ga E.sca E.rsa E.n E.k
  cb : ∀ {w' : World} {A' : Asn}, Hp w0 w' (star (codeA E.cdb E.gb E.scb E.rsb E.n E.k) A') → RdCode w' E.cdb E.gb E.scb E.rsb E.n E.k
  ok : E.c.Ok
  hn : E.c.N = (E.n : Int)
  hn2 : E.n ≤ 7
  hb : E.bs.length ≤ 300
  id1 : 1 ≤ E.id
  id2 : E.id ≤ 65535
  hnt : E.nt = Tg.zero.next 0 E.id
  hq : (E.c.N + E.c.K + 1) / 2 = (E.q : Int)
  hq1 : 1 ≤ E.q
  hqn : E.q ≤ E.n
  mt : mt E.rsa = mt E.rsb
  hk : 1 ≤ E.k
  hkn : E.k ≤ E.n
abbrev DE.req (E : DE) (y : Opn) : Int → Am := reqOf E.id y (partOf E.rsa E.bs E.k)
structure Stale (E : DE) (f : Nat) (s : Am) : Prop where
  k : s.k ≠ 2 * (f : Int) + 1
  k0 : 1 ≤ s.k
  k6 : s.k ≤ 6
  sv0 : 0 ≤ s.sv
  sv1 : s.sv < (E.n : Int)
  bs : s.bs.length ≤ 65536
structure DSt (E : DE) (f i cnt : Nat) (st : List Am) (xs : List Pl) (xa : Cl) (ya : Opn) (La : List (Int × Rp)) (xb : Cl) (yb : Opn) (Lb : List (Int × Rp)) (ql : List Ms) : Prop where
  hf : f ≤ 2
  hi : i < E.q
  cnt_ : cnt + st.length = f * E.n + i
  st0 : st ≠ [] → i = 0
  f0 : f = 0 → st = []
  stale : ∀ s ∈ st, Stale E f s
  oa : OpSt E.b E.c E.id E.cda E.oa E.key E.bs E.nt f xa ya
  ob : OpSt E.b E.c E.id E.cdb E.ob E.key E.bs E.nt f xb yb
  ca : Came (allOf E.n) i Tg.zero La
  cb : Came (allOf E.n) i Tg.zero Lb
  xl : xs.length = E.n
  x0 : f = 0 → ∀ x ∈ xs, x.abs = []
  xn : ∀ x ∈ xs, x.l.length ≤ cnt ∧ ∀ h ∈ x.abs, h.bs.length ≤ 65536
  ql_ : ql.map Ms.abs = st ++ ((allOf E.n).map (E.req ya)).drop i
section
variable {w0 w : World} {F G : Asn} {E : DE} {f i cnt : Nat} {st : List Am} {xs : List Pl} {xa xb : Cl} {ya yb : Opn} {La Lb : List (Int × Rp)} {ql : List Ms} {s : Slc} {nz : List Ms} {m : Ms} {r : Slc}
end
end Go.Proofs.YtabifopphhpciaaGreatDoor

namespace Go.Vc
def Tg.le (a b : Tg) : Prop := a.n < b.n ∨ a.n = b.n ∧ a.c ≤ b.c
theorem Tg.le_refl (a : Tg) : a.le a := .inr ⟨rfl, Int.le_refl _⟩
theorem Tg.le_trans {a b c : Tg} (h : a.le b) (k : b.le c) : a.le c := by
  unfold Tg.le at *; omega
theorem Tg.le_anti {a b : Tg} (h : a.le b) (k : b.le a) : a = b := by
  obtain ⟨an, ac⟩ := a
  obtain ⟨bn, bc⟩ := b
  unfold Tg.le at h k
  simp only [Tg.mk.injEq] at *
  omega
theorem Tg.cmp_pos {a b : Tg} : 0 < a.cmp b ↔ ¬ a.le b := by
  unfold Tg.cmp Tg.le
  rcases cmpI_cases a.n b.n with ⟨h1, h2⟩ | ⟨h1, h2⟩ | ⟨h1, h2⟩ <;> rcases cmpI_cases a.c b.c with ⟨k1, k2⟩ | ⟨k1, k2⟩ | ⟨k1, k2⟩ <;> simp [h2, k2] <;> omega
theorem Tg.max_or (a b : Tg) : a.max b = a ∨ a.max b = b := by
  unfold Tg.max; split
  · exact .inr rfl
  · exact .inl rfl
theorem Tg.max_ge (a b : Tg) : a.le (a.max b) ∧ b.le (a.max b) := by
  unfold Tg.max
  by_cases h : 0 < b.cmp a
  · rw [if_pos h]
    have := Tg.cmp_pos.1 h
    exact ⟨by unfold Tg.le at *; omega, Tg.le_refl _⟩
  · rw [if_neg h]
    exact ⟨Tg.le_refl _, by have := fun k => h (Tg.cmp_pos.2 k); exact Classical.not_not.1 this⟩
theorem Tg.zero_le {t : Tg} (h : t.valid = true) : Tg.zero.le t := by
  have := Tg.valid_bounds h
  unfold Tg.le
  have e1 : Tg.zero.n = 0 := rfl
  have e2 : Tg.zero.c = 0 := rfl
  omega
def mx (l : List Tg) (a : Tg) : Tg := l.foldl Tg.max a
theorem mx_le {s : Tg} : ∀ (l : List Tg) (a : Tg), a.le s → (∀ t ∈ l, t.le s) → (mx l a).le s
  | [], _, h, _ => h
  | t :: l, a, h, hl => mx_le l (a.max t) (by
    rcases Tg.max_or a t with e | e <;> rw [e]
    · exact h
    · exact hl t (List.mem_cons_self ..)) fun u hu => hl u (List.mem_cons_of_mem _ hu)
theorem mx_ge : ∀ (l : List Tg) (a : Tg), a.le (mx l a) ∧ ∀ t ∈ l, t.le (mx l a)
  | [], a => ⟨Tg.le_refl a, fun _ h => nomatch h⟩
  | t :: l, a => by
    obtain ⟨h1, h2⟩ := mx_ge l (a.max t)
    obtain ⟨k1, k2⟩ := Tg.max_ge a t
    refine ⟨Tg.le_trans k1 h1, fun u hu => ?_⟩
    rcases List.mem_cons.1 hu with rfl | hu
    · exact Tg.le_trans k2 h1
    · exact h2 u hu
theorem mx_in : ∀ (l : List Tg) (a : Tg), mx l a = a ∨ mx l a ∈ l
  | [], a => .inl rfl
  | t :: l, a => by
    rcases mx_in l (a.max t) with h | h
    · rcases Tg.max_or a t with e | e
      · exact .inl (by show mx l (a.max t) = a; rw [h, e])
      · exact .inr (by show mx l (a.max t) ∈ _; rw [h, e]; exact List.mem_cons_self ..)
    · exact .inr (List.mem_cons_of_mem _ h)
abbrev nv : Ha := ⟨Tg.zero, false, false, []⟩
def hasB (l : List Ha) (t : Tg) : Bool := (l.getD (plIdx l t) nv).has
def finB (l : List Ha) (t : Tg) : Bool := l.any fun h => decide (h.tag = t) && h.fin
theorem plTop_mx (l : List Ha) : plTop l = mx ((l.filter (·.fin)).map (·.tag)) Tg.zero := by
  unfold plTop mx
  rw [List.foldl_map, List.foldl_filter]
  rfl
theorem plTop_le {l : List Ha} {s : Tg} (h0 : Tg.zero.le s) (h : ∀ x ∈ l, x.tag.le s) : (plTop l).le s := by
  rw [plTop_mx]
  refine mx_le _ _ h0 fun t ht => ?_
  obtain ⟨x, hx, rfl⟩ := List.mem_map.1 ht
  exact h x (List.mem_filter.1 hx).1
theorem plTop_ge {l : List Ha} {t : Tg} (h : finB l t = true) : t.le (plTop l) := by
  rw [plTop_mx]
  refine (mx_ge _ _).2 _ ?_
  unfold finB at h
  obtain ⟨x, hx, h⟩ := List.any_eq_true.1 h
  simp only [Bool.and_eq_true, decide_eq_true_eq] at h
  exact List.mem_map.2 ⟨x, List.mem_filter.2 ⟨hx, h.2⟩, h.1⟩
theorem plTop_valid {l : List Ha} (h : ∀ x ∈ l, x.tag.valid = true) : (plTop l).valid = true := by
  rw [plTop_mx]
  rcases mx_in ((l.filter (·.fin)).map (·.tag)) Tg.zero with e | e
  · rw [e]; decide
  · obtain ⟨x, hx, e⟩ := List.mem_map.1 e
    rw [← e]
    exact h x (List.mem_filter.1 hx).1
theorem sameT_iff {t : Tg} {h : Ha} : sameT t h = true ↔ h.tag = t := by
  obtain ⟨a, b⟩ := t
  obtain ⟨⟨c, d⟩, _, _, _⟩ := h
  simp [sameT]
theorem plIdx_map (l : List Ha) (t : Tg) : plIdx l t = (l.map (·.tag)).findIdx fun u => decide (u = t) := by
  unfold plIdx
  rw [List.findIdx_map]
  congr 1
  funext h
  have := @sameT_iff t h
  by_cases e : h.tag = t <;> simp [e] <;> simpa [e] using this
theorem plIdx_tags {l l' : List Ha} (h : l.map (·.tag) = l'.map (·.tag)) (t : Tg) : plIdx l t = plIdx l' t := by rw [plIdx_map, plIdx_map, h]
theorem plIdx_app {l : List Ha} {t : Tg} (x : Ha) (h : plIdx l t < l.length) : plIdx (l ++ [x]) t = plIdx l t := by
  unfold plIdx at *
  rw [List.findIdx_append, if_pos h]
theorem plAdd_idx (l : List Ha) (t : Tg) : plIdx (plAdd l t) t = plIdx l t ∧ plIdx l t < (plAdd l t).length := by
  unfold plAdd
  split
  · exact ⟨rfl, by assumption⟩
  · rename_i h
    have hle : plIdx l t ≤ l.length := List.findIdx_le_length
    have e : plIdx l t = l.length := by omega
    refine ⟨?_, by rw [List.length_append, List.length_singleton]; omega⟩
    have : plIdx (l ++ [⟨t, false, false, []⟩]) t = l.length := by
      unfold plIdx at h ⊢
      rw [List.findIdx_append, if_neg h]
      have : sameT t ⟨t, false, false, []⟩ = true := sameT_iff.2 rfl
      simp [List.findIdx_cons, this]
    rw [this, e]
theorem plAdd_tag (l : List Ha) (t : Tg) : ((plAdd l t)[plIdx l t]'(plAdd_idx l t).2).tag = t := by
  have h := @List.findIdx_getElem _ (sameT t) (plAdd l t) (by have := plAdd_idx l t; unfold plIdx at this; show plIdx (plAdd l t) t < _; rw [(plAdd_idx l t).1]; exact (plAdd_idx l t).2)
  have e := sameT_iff.1 h
  have e2 := (plAdd_idx l t).1
  unfold plIdx at e2
  simp only [e2] at e
  exact e
theorem plAdd_of {l : List Ha} {t : Tg} {h : Ha} (hm : h ∈ plAdd l t) : h ∈ l ∨ h = ⟨t, false, false, []⟩ := by
  unfold plAdd at hm
  split at hm
  · exact .inl hm
  · rcases List.mem_append.1 hm with hm | hm
    · exact .inl hm
    · exact .inr (List.mem_singleton.1 hm)
theorem modA_eq {l : List Ha} {i : Nat} (hi : i < l.length) (f : Ha → Ha) : modA l i f = l.set i (f l[i]) := by
  unfold modA
  rw [List.getD_eq_getElem?_getD, List.getElem?_eq_getElem hi, Option.getD_some]
section
variable {l : List Ha} {t u : Tg} {f : Ha → Ha}
theorem upd_mem (hf : ∀ h, (f h).tag = h.tag) {h : Ha} (hm : h ∈ modA (plAdd l t) (plIdx l t) f) : h ∈ l ∨ h = ⟨t, false, false, []⟩ ∨ (h.tag = t ∧ ∃ h', (h' ∈ l ∨ h' = ⟨t, false, false, []⟩) ∧ h = f h') := by
  rw [modA_eq (plAdd_idx l t).2] at hm
  rcases List.mem_or_eq_of_mem_set hm with hm | rfl
  · rcases plAdd_of hm with hm | hm
    · exact .inl hm
    · exact .inr (.inl hm)
  · exact .inr (.inr ⟨by rw [hf]; exact plAdd_tag l t, _, plAdd_of (List.getElem_mem _), rfl⟩)
theorem upd_len : (modA (plAdd l t) (plIdx l t) f).length ≤ l.length + 1 := by
  unfold modA plAdd
  rw [List.length_set]
  split
  · omega
  · rw [List.length_append, List.length_singleton]; omega
theorem upd_idx (hf : ∀ h, (f h).tag = h.tag) : plIdx (modA (plAdd l t) (plIdx l t) f) u = plIdx (plAdd l t) u := by
  rw [modA_eq (plAdd_idx l t).2]
  refine plIdx_tags ?_ u
  rw [List.map_set, hf]
  have := @List.set_getElem_self _ ((plAdd l t).map (·.tag)) (plIdx l t) (by rw [List.length_map]; exact (plAdd_idx l t).2)
  rw [List.getElem_map] at this
  exact this
theorem has_lt (h : hasB l u = true) : ∃ hi : plIdx l u < l.length, l[plIdx l u].has = true := by
  unfold hasB at h
  by_cases hi : plIdx l u < l.length
  · rw [List.getD_eq_getElem?_getD, List.getElem?_eq_getElem hi, Option.getD_some] at h
    exact ⟨hi, h⟩
  · rw [List.getD_eq_getElem?_getD, List.getElem?_eq_none (by omega), Option.getD_none] at h
    exact nomatch h
theorem upd_has (hf : ∀ h, (f h).tag = h.tag) (hh : ∀ h, h.has = true → (f h).has = true) (h : hasB l u = true) : hasB (modA (plAdd l t) (plIdx l t) f) u = true := by
  obtain ⟨hi, h⟩ := has_lt h
  have e1 : plIdx (plAdd l t) u = plIdx l u := by
    unfold plAdd
    split
    · rfl
    · exact plIdx_app _ hi
  have e2 : (plAdd l t)[plIdx l u]? = some l[plIdx l u] := by
    unfold plAdd
    split
    · exact List.getElem?_eq_getElem hi
    · rw [List.getElem?_append_left hi, List.getElem?_eq_getElem hi]
  unfold hasB
  rw [upd_idx hf, e1, modA_eq (plAdd_idx l t).2, List.getD_eq_getElem?_getD, List.getElem?_set]
  split
  · rename_i e
    rw [if_pos (plAdd_idx l t).2, Option.getD_some]
    apply hh
    have e3 : (plAdd l t)[plIdx l t]? = some l[plIdx l u] := by rw [e]; exact e2
    rw [List.getElem?_eq_getElem (plAdd_idx l t).2] at e3
    injection e3 with e3
    rw [e3]
    exact h
  · rw [e2, Option.getD_some]
    exact h
theorem upd_has_at (hf : ∀ h, (f h).tag = h.tag) (hh : ∀ h, (f h).has = true) : hasB (modA (plAdd l t) (plIdx l t) f) t = true := by
  unfold hasB
  rw [upd_idx hf, (plAdd_idx l t).1, modA_eq (plAdd_idx l t).2, List.getD_eq_getElem?_getD, List.getElem?_set, if_pos rfl, if_pos (plAdd_idx l t).2, Option.getD_some]
  exact hh _
theorem upd_fin (hf : ∀ h, (f h).tag = h.tag) (hh : ∀ h, h.fin = true → (f h).fin = true) (h : finB l u = true) : finB (modA (plAdd l t) (plIdx l t) f) u = true := by
  unfold finB at *
  obtain ⟨x, hx, h⟩ := List.any_eq_true.1 h
  simp only [Bool.and_eq_true, decide_eq_true_eq] at h
  have hx2 : x ∈ plAdd l t := by
    unfold plAdd
    split
    · exact hx
    · exact List.mem_append_left _ hx
  rw [modA_eq (plAdd_idx l t).2]
  obtain ⟨i, hi, rfl⟩ := List.getElem_of_mem hx2
  by_cases e : plIdx l t = i
  · subst e
    exact List.any_eq_true.2 ⟨_, List.mem_set (plAdd_idx l t).2 _, by rw [hf, h.1, hh _ h.2]; simp⟩
  · refine List.any_eq_true.2 ⟨(plAdd l t)[i], ?_, by rw [h.1, h.2]; simp⟩
    have : ((plAdd l t).set (plIdx l t) (f ((plAdd l t)[plIdx l t]'(plAdd_idx l t).2)))[i]'(by rw [List.length_set]; exact hi) = (plAdd l t)[i] := List.getElem_set_ne e _
    rw [← this]
    exact List.getElem_mem _
theorem upd_fin_at (hf : ∀ h, (f h).tag = h.tag) (hh : ∀ h, (f h).fin = true) : finB (modA (plAdd l t) (plIdx l t) f) t = true := by
  rw [modA_eq (plAdd_idx l t).2]
  exact List.any_eq_true.2 ⟨_, List.mem_set (plAdd_idx l t).2 _, by rw [hf, hh, plAdd_tag]; simp⟩
end
theorem give_tag (bs : List UInt8) (h : Ha) : (h.give bs).tag = h.tag ∧ (h.give bs).has = true ∧ (h.give bs).fin = h.fin ∧ ((h.give bs).bs = h.bs ∧ h.has = true ∨ (h.give bs).bs = bs) := by
  unfold Ha.give
  split
  · rename_i hh
    exact ⟨rfl, hh, rfl, .inl ⟨rfl, hh⟩⟩
  · exact ⟨rfl, rfl, rfl, .inr rfl⟩
end Go.Vc

namespace Go.Vc
open Go.Gf
abbrev partM (R : List (List UInt8)) (bs : List UInt8) (k : Nat) (i : Int) : List UInt8 := lin (R.getD i.toNat []) (cutV bs k) (sizeN bs.length k)
structure Srv (n k : Nat) (R : List (List UInt8)) (T : List Tg) (V : Tg → List UInt8) (B : Nat) (xa : List (List Ha)) : Prop where
  len : xa.length = n
  sz : ∀ l ∈ xa, l.length ≤ B
  ent : ∀ (j : Nat) l, xa[j]? = some l → ∀ h ∈ l, h.tag ∈ T ∧ (h.has = true → h.bs = partM R (V h.tag) k j) ∧ h.bs.length ≤ 65536
def Mono (xa xb : List (List Ha)) : Prop := ∀ (j : Nat) l, xa[j]? = some l → ∃ l', xb[j]? = some l' ∧ ∀ t, (finB l t = true → finB l' t = true) ∧ (hasB l t = true → hasB l' t = true)
theorem Mono.refl (xa : List (List Ha)) : Mono xa xa := fun _ l h => ⟨l, h, fun _ => ⟨id, id⟩⟩
theorem Mono.trans {a b c : List (List Ha)} (h : Mono a b) (k : Mono b c) : Mono a c := fun j l hl => by
  obtain ⟨l1, h1, e1⟩ := h j l hl
  obtain ⟨l2, h2, e2⟩ := k j l1 h1
  exact ⟨l2, h2, fun t => ⟨fun x => (e2 t).1 ((e1 t).1 x), fun x => (e2 t).2 ((e1 t).2 x)⟩⟩
structure Rq (n k : Nat) (R : List (List UInt8)) (T : List Tg) (V : Tg → List UInt8) (m : Am) : Prop where
  s0 : 0 ≤ m.sv
  s1 : m.sv < (n : Int)
  k1 : 1 ≤ m.k
  k7 : m.k ≤ 7
  bs : m.bs.length ≤ 65536
  tag : m.k ≠ 1 → m.tag ∈ T
  part : m.k = 3 → m.bs = partM R (V m.tag) k m.sv
def effA (m : Am) : Ha → Ha := if m.k = 3 then Ha.give m.bs else Ha.end
theorem eff_tag (m : Am) (h : Ha) : (effA m h).tag = h.tag ∧ (h.has = true → (effA m h).has = true) ∧ (h.fin = true → (effA m h).fin = true) := by
  unfold effA
  split
  · obtain ⟨h1, h2, h3, _⟩ := give_tag m.bs h
    exact ⟨h1, fun _ => h2, fun h => by rw [h3]; exact h⟩
  · exact ⟨rfl, id, fun _ => rfl⟩
theorem plAns_fst (l : List Ha) (m : Am) : (plAns l m).1 = if m.k = 1 then l else modA (plAdd l m.tag) (plIdx l m.tag) (effA m) := by
  unfold plAns effA
  by_cases h1 : m.k = 1
  · rw [if_pos h1, if_pos h1]
  · rw [if_neg h1, if_neg h1]
    by_cases h3 : m.k = 3
    · rw [if_pos h3, if_pos h3]
    · rw [if_neg h3, if_neg h3]
      dsimp only
      split <;> rfl
section
variable {n k q B : Nat} {R : List (List UInt8)} {T : List Tg} {V : Tg → List UInt8} {xa xb : List (List Ha)} {m : Am} {K K' : List Int}
theorem pl_mono (l : List Ha) (m : Am) (t : Tg) : (finB l t = true → finB (plAns l m).1 t = true) ∧ (hasB l t = true → hasB (plAns l m).1 t = true) := by
  rw [plAns_fst]
  split
  · exact ⟨id, id⟩
  · exact ⟨upd_fin (fun h => (eff_tag m h).1) fun h => (eff_tag m h).2.2, upd_has (fun h => (eff_tag m h).1) fun h => (eff_tag m h).2.1⟩
theorem srv_step (S : Srv n k R T V B xa) (hm : Rq n k R T V m) {j : Nat} (hj : m.sv = (j : Int)) (hx : j < xa.length) : Srv n k R T V (B + 1) (xa.set j (plAns xa[j] m).1) ∧ Mono xa (xa.set j (plAns xa[j] m).1) := by
  have hxj : xa[j]? = some xa[j] := List.getElem?_eq_getElem hx
  have hlen : (plAns xa[j] m).1.length ≤ xa[j].length + 1 := by
    rw [plAns_fst]
    split
    · omega
    · exact upd_len
  refine ⟨⟨by rw [List.length_set]; exact S.len, fun l hl => ?_, fun i l hl h hh => ?_⟩, fun i l hl => ?_⟩
  · rcases List.mem_or_eq_of_mem_set hl with hl | rfl
    · have := S.sz l hl; omega
    · have := S.sz _ (List.getElem_mem hx); omega
  · rw [List.getElem?_set] at hl
    split at hl
    · rename_i e
      subst e
      injection hl with hl
      subst hl
      rw [plAns_fst] at hh
      split at hh
      · exact S.ent j _ hxj h hh
      · rename_i h1
        rcases upd_mem (fun h => (eff_tag m h).1) hh with hh | rfl | ⟨ht, h', hh', rfl⟩
        · exact S.ent j _ hxj h hh
        · exact ⟨hm.tag h1, fun h => (nomatch h), Nat.zero_le _⟩
        · have hold : h'.tag ∈ T ∧ (h'.has = true → h'.bs = partM R (V h'.tag) k j) ∧ h'.bs.length ≤ 65536 := by
            rcases hh' with hh' | rfl
            · exact S.ent j _ hxj h' hh'
            · exact ⟨hm.tag h1, fun h => (nomatch h), Nat.zero_le _⟩
          rw [(eff_tag m h').1] at ht ⊢
          refine ⟨hold.1, ?_⟩
          unfold effA
          split
          · rename_i h3
            obtain ⟨_, g2, _, g4⟩ := give_tag m.bs h'
            rcases g4 with ⟨e, hh⟩ | e
            · rw [e]; exact ⟨fun _ => hold.2.1 hh, hold.2.2⟩
            · rw [e]; exact ⟨fun _ => by rw [hm.part h3, ht, hj], hm.bs⟩
          · exact hold.2
    · exact S.ent i l hl h hh
  · rw [List.getElem?_set]
    by_cases e : j = i
    · subst e
      rw [if_pos rfl, if_pos hx]
      rw [hxj] at hl
      injection hl with hl
      subst hl
      exact ⟨_, rfl, pl_mono _ m⟩
    · rw [if_neg e]
      exact ⟨l, hl, fun _ => ⟨id, id⟩⟩
theorem Mono.getD (h : Mono xa xb) (i : Nat) (t : Tg) : (finB (xa.getD i []) t = true → finB (xb.getD i []) t = true) ∧ (hasB (xa.getD i []) t = true → hasB (xb.getD i []) t = true) := by
  rw [List.getD_eq_getElem?_getD, List.getD_eq_getElem?_getD]
  cases hx : xa[i]? with
  | none => exact ⟨fun h => (nomatch h), fun h => nomatch h⟩
  | some l =>
    obtain ⟨l', h', e⟩ := h i l hx
    rw [h']
    exact e t
theorem cnt_all {α : Type} (d : α) (p : α → Bool) {xs : List α} (hx : xs.length = n) : xs.countP p = ((List.range n).map fun i : Nat => (i : Int)).countP fun j => p (xs.getD j.toNat d) := by
  have e : xs = (List.range n).map fun i => xs.getD i d := by
    refine List.ext_getElem (by simp [hx]) fun i h1 h2 => ?_
    rw [List.getElem_map, List.getElem_range, List.getD_eq_getElem?_getD, List.getElem?_eq_getElem h1, Option.getD_some]
  conv => lhs; rw [e]
  rw [List.countP_map, List.countP_map]
  rfl
end
end Go.Vc
namespace Go.Proofs.YtabifopphhpciaaGreatDoor
open Go Go.Vc Go.Vc.Asn Go.Gf
section
variable {n k q B : Nat} {R : List (List UInt8)} {T : List Tg} {V : Tg → List UInt8} {xa xb : List (List Ha)} {top : Tg} {K K' : List Int}
theorem quo {p : List Ha → Bool} (hp : (K ++ K').Perm (allOf n)) (hx : xa.length = n) : xa.countP p = K.countP (fun j => p (xa.getD j.toNat [])) + K'.countP fun j => p (xa.getD j.toNat []) := by
  rw [cnt_all [] p hx]
  show (allOf n).countP _ = _
  rw [← hp.countP_eq, List.countP_append]
theorem quo_len (hp : (K ++ K').Perm (allOf n)) : K.length + K'.length = n := by
  have := hp.length_eq
  rwa [List.length_append, allOf_len] at this
theorem quo_ge {p : List Ha → Bool} (hp : (K ++ K').Perm (allOf n)) (hx : xa.length = n) : xa.countP p + K.length ≤ n + K.countP fun j => p (xa.getD j.toNat []) := by
  have := quo (p := p) hp hx
  have := quo_len hp
  have : K'.countP (fun j => p (xa.getD j.toNat [])) ≤ K'.length := List.countP_le_length
  omega
theorem quo_all {p : List Ha → Bool} (hp : (K ++ K').Perm (allOf n)) (hx : xa.length = n) (h : ∀ j ∈ K, p (xa.getD j.toNat []) = true) : K.length ≤ xa.countP p := by
  have := quo (p := p) hp hx
  have : K.countP (fun j => p (xa.getD j.toNat [])) = K.length := List.countP_eq_length.2 h
  omega
theorem mono_cnt (h : Mono xa xb) (ha : xa.length = n) (hb : xb.length = n) (t : Tg) : xa.countP (finB · t) ≤ xb.countP (finB · t) ∧ xa.countP (hasB · t) ≤ xb.countP (hasB · t) := by
  rw [cnt_all [] (finB · t) ha, cnt_all [] (finB · t) hb, cnt_all [] (hasB · t) ha, cnt_all [] (hasB · t) hb]
  exact ⟨List.countP_mono_left fun j _ => (h.getD _ t).1, List.countP_mono_left fun j _ => (h.getD _ t).2⟩
structure Calm (n q k : Nat) (R : List (List UInt8)) (T : List Tg) (V : Tg → List UInt8) (top : Tg) (B : Nat) (xa : List (List Ha)) : Prop where
  srv : Srv n k R T V B xa
  le : ∀ t ∈ T, t.le top
  val : ∀ t ∈ T, t.valid = true
  fin : T ≠ [] → top ∈ T ∧ q ≤ xa.countP (finB · top) ∧ q ≤ xa.countP (hasB · top)
  zero : T = [] → top = Tg.zero
theorem Calm.vtop (C : Calm n q k R T V top B xa) : top.valid = true := by
  by_cases h : T = []
  · rw [C.zero h]; decide
  · exact C.val _ (C.fin h).1
theorem Calm.plTop (C : Calm n q k R T V top B xa) (j : Nat) : (plTop (xa.getD j [])).le top ∧ (plTop (xa.getD j [])).valid = true := by
  rw [List.getD_eq_getElem?_getD]
  cases hx : xa[j]? with
  | none => exact ⟨Tg.zero_le C.vtop, by decide⟩
  | some l =>
    have h := C.srv.ent j l hx
    exact ⟨plTop_le (Tg.zero_le C.vtop) fun x hx => C.le _ (h x hx).1, plTop_valid fun x hx => C.val _ (h x hx).1⟩
theorem topOf_mx (L : List (Int × Rp)) : topOf L L.length = mx ((keysOf L).map fun k => ((llook L k).getD Rp.no).top) Tg.zero := by
  unfold topOf mx
  rw [List.take_of_length_le (by rw [keysOf_len]; exact Nat.le_refl _), List.foldl_map]
theorem ask_top {L : List (Int × Rp)} (C : Calm n q k R T V top B xa) (hp : (L.map (·.1) ++ K').Perm (allOf n)) (hL : q ≤ L.length) (hq : n < q + q) (hQ : ∀ z ∈ L, z.2.top = Go.Vc.plTop (xa.getD z.1.toNat [])) : topOf L L.length = top := by
  rw [topOf_mx]
  have look : ∀ k ∈ L.map (·.1), ((llook L k).getD Rp.no).top = Go.Vc.plTop (xa.getD k.toNat []) := fun k hk => by
    obtain ⟨v, hv⟩ := llook_in hk
    rw [hv, Option.getD_some]
    exact hQ _ (llook_mem hv)
  have hle : (mx ((keysOf L).map fun k => ((llook L k).getD Rp.no).top) Tg.zero).le top := mx_le _ _ (Tg.zero_le C.vtop) fun t ht => by
    obtain ⟨k, hk, rfl⟩ := List.mem_map.1 ht
    rw [look k ((keysOf_perm L).mem_iff.1 hk)]
    exact (C.plTop _).1
  refine Tg.le_anti hle ?_
  by_cases h : T = []
  · rw [C.zero h]
    exact (mx_ge _ _).1
  · obtain ⟨_, hf, _⟩ := C.fin h
    have h1 := quo_ge (p := (finB · top)) hp C.srv.len
    rw [List.length_map] at h1
    obtain ⟨j, hj, hj2⟩ := List.countP_pos_iff.1 (show 0 < (L.map (·.1)).countP (fun j => finB (xa.getD j.toNat []) top) by omega)
    have h2 := plTop_ge hj2
    rw [← look j hj] at h2
    exact Tg.le_trans h2 ((mx_ge _ _).2 _ (List.mem_map.2 ⟨j, (keysOf_perm L).mem_iff.2 hj, rfl⟩))
theorem lkB_mem {L : Lb} {i : Int} {z : Rp × List UInt8} (h : lkB L i = some z) : (i, z) ∈ L := by
  unfold lkB at h
  cases hf : L.find? fun z => decide (z.1 = i) with
  | none => rw [hf] at h; exact nomatch h
  | some u =>
    rw [hf, Option.map_some] at h
    injection h with h
    have h1 := List.mem_of_find?_eq_some hf
    have h2 := List.find?_some hf
    simp only [decide_eq_true_eq] at h2
    rw [← h, ← h2]
    exact h1
theorem lkB_some {L : Lb} {i : Int} (h : i ∈ (lr L).map (·.1)) : ∃ z, lkB L i = some z := by
  obtain ⟨v, hv⟩ := llook_in h
  rw [llook_lr] at hv
  cases hl : lkB L i with
  | none => rw [hl] at hv; exact nomatch hv
  | some z => exact ⟨z, rfl⟩
theorem flat_cnt {α : Type} {f : Int → List α} {P : Int → Bool} : ∀ {l : List Int}, (∀ i ∈ l, P i = true → 1 ≤ (f i).length) → l.countP P ≤ (l.flatMap f).length
  | [], _ => Nat.le_refl _
  | i :: l, h => by
    rw [List.countP_cons, List.flatMap_cons, List.length_append]
    have := flat_cnt fun j hj => h j (List.mem_cons_of_mem _ hj)
    split
    · have := h i (List.mem_cons_self ..) (by assumption)
      omega
    · omega
theorem read_cnt {L : Lb} (hp : ((lr L).map (·.1) ++ K').Perm (allOf n)) (hx : xa.length = n) (hf : q ≤ xa.countP (hasB · top)) (hL : q ≤ L.length) (hq : n + k ≤ q + q) (hQ : ∀ z ∈ L, hasB (xa.getD z.1.toNat []) top = true → z.2.1.has = true) : k ≤ (psOf L L.length).length := by
  have h1 := quo_ge (p := (hasB · top)) hp hx
  rw [List.length_map] at h1
  have h2 : (lr L).length = L.length := List.length_map _
  rw [← (keysOf_perm (lr L)).countP_eq] at h1
  have h3 : (keysOf (lr L)).countP (fun j => hasB (xa.getD j.toNat []) top) ≤ ((keysOf (lr L)).flatMap (ptAt L)).length := flat_cnt fun i hi hh => by
    obtain ⟨z, hz⟩ := lkB_some ((keysOf_perm (lr L)).mem_iff.1 hi)
    unfold ptAt
    rw [hz]
    dsimp only
    rw [if_pos (hQ _ (lkB_mem hz) hh)]
    exact Nat.le_refl _
  have e : psOf L L.length = (keysOf (lr L)).flatMap (ptAt L) := by
    unfold psOf
    rw [List.take_of_length_le (by rw [keysOf_len, h2]; exact Nat.le_refl _)]
  rw [e]
  omega
theorem flat_sub {f : Int → List Pt} (hf : ∀ i, f i = [] ∨ ∃ p : Pt, f i = [p] ∧ p.ix = i) : ∀ l : List Int, ((l.flatMap f).map (·.ix)).Sublist l
  | [] => List.Sublist.refl _
  | i :: l => by
    rw [List.flatMap_cons, List.map_append]
    rcases hf i with e | ⟨p, e, rfl⟩
    · rw [e]
      exact (flat_sub hf l).cons _
    · rw [e]
      exact (flat_sub hf l).cons_cons _
theorem read_frags {L : Lb} {val : List UInt8} (hp : ((lr L).map (·.1) ++ K').Perm (allOf n)) (hB : ∀ z ∈ L, z.2.1.has = true → z.2.2 = partM R val k z.1) (i : Nat) : Frags n k R val (psOf L i) := by
  have hsub : ((psOf L i).map (·.ix)).Sublist (keysOf (lr L)) := (flat_sub (fun j => by
    unfold ptAt
    split
    · split
      · exact .inr ⟨_, rfl, rfl⟩
      · exact .inl rfl
    · exact .inl rfl) _).trans (List.take_sublist _ _)
  have hmem : ∀ p ∈ psOf L i, p.ix ∈ (lr L).map (·.1) := fun p h => (keysOf_perm _).mem_iff.1 (hsub.subset (List.mem_map.2 ⟨p, h, rfl⟩))
  refine ⟨⟨fun p h => allOf_mem.1 (hp.mem_iff.1 (List.mem_append_left _ (hmem p h))), ?_⟩, fun p h => ?_⟩
  · refine hsub.nodup ((keysOf_perm _).nodup_iff.2 ?_)
    exact (List.nodup_append.1 (hp.nodup_iff.2 (allOf_nodup n))).1
  · obtain ⟨j, _, hj⟩ := List.mem_flatMap.1 h
    unfold ptAt at hj
    split at hj
    · rename_i z hz
      split at hj
      · rename_i hh
        rw [List.mem_singleton.1 hj]
        exact hB _ (lkB_mem hz) hh
      · exact nomatch hj
    · exact nomatch hj
end
end Go.Proofs.YtabifopphhpciaaGreatDoor

namespace Go.Proofs.YtabifopphhpciaaGreatDoor
open Go Go.Vc Go.Vc.Asn Go.Gf
structure WE where
  n : Nat
  q : Nat
  k : Nat
  c : Cfg
  p : Nat
  cd : Nat
  g : Nat
  sc : Slc
  rs : Rws
  x : Cl
  o : Nat
  val : Slc
  key : ByteArray
  bs : List UInt8
  put : Bool
  T : List Tg
  V : Tg → List UInt8
  top : Tg
  nt : Tg
  B : Nat
  xa : List (List Ha)
def WE.stg (E : WE) (f : Nat) : Phs := if E.put then stgOf f else if f = 0 then .ask else .read
def WE.kd (E : WE) (f : Nat) : Int := if E.put then 2 * (f : Int) + 1 else if f = 0 then 1 else 7
def WE.cl (E : WE) (f : Nat) : Cl := if E.put = true ∧ f ≠ 0 then { E.x with used := lput E.x.used E.key E.nt.n } else E.x
def WE.y (E : WE) (f ph : Nat) : Opn := ⟨E.x.ops, E.put, E.key, E.val, E.bs, E.stg f, if f = 0 then Tg.zero else E.nt, ph⟩
def WE.req (E : WE) (f : Nat) : Int → Am := reqOf E.x.id (E.y f 0) (partOf E.rs E.bs E.k)
def WE.rd (E : WE) (f : Nat) (L : Lb) : Asn := if E.put = false ∧ f = 1 then all rdD L else emp
abbrev WE.Cd (E : WE) : Asn := codeA E.cd E.g E.sc E.rs E.n E.k
abbrev WE.R (E : WE) : List (List UInt8) := mt E.rs
abbrev WE.A (E : WE) (f ph : Nat) (L : Lb) : Asn := star (cliA E.p (E.cl f)) (star (opnA E.o (E.y f ph)) (star (phA ph (E.c, lr L)) (star E.Cd (E.rd f L))))
def WE.last (E : WE) : Nat := if E.put then 2 else 1
structure WEok (E : WE) (w0 : World) : Prop where
  hC : ∀ {w' : World} {A' : Asn}, Hp w0 w' (star E.Cd A') → RdCode w' E.cd E.g E.sc E.rs E.n E.k
  G : ErrG w0
  ok : E.c.Ok
  cfg : E.x.cfg = E.c
  now : E.x.now = some E.o
  cd_ : E.x.cd = E.cd
  hn : E.c.N = (E.n : Int)
  hk : E.c.K = (E.k : Int)
  n7 : E.n ≤ 7
  q_ : (E.c.N + E.c.K + 1) / 2 = (E.q : Int)
  id1 : 1 ≤ E.x.id
  id2 : E.x.id ≤ 65535
  bs : E.bs.length ≤ 300
  B_ : E.B ≤ 900000
  T0 : ∃ T0, (∀ t ∈ T0, t ∈ E.T) ∧ Calm E.n E.q E.k E.R T0 E.V E.top E.B E.xa ∧ (E.put = false → T0 = E.T)
  val : ∀ t ∈ E.T, t.valid = true ∧ t.le E.nt
  put_ : E.put = true → E.nt ∈ E.T ∧ E.V E.nt = E.bs ∧ E.nt = E.top.next (usedOf E.x E.key) E.x.id ∧ 0 ≤ usedOf E.x E.key ∧ usedOf E.x E.key ≤ 4611686018427387903 ∧ E.nt.n ≤ 4611686018427387903
  get_ : E.put = false → E.nt = E.top ∧ (E.V E.nt).length ≤ 65536
  nz : E.T ≠ [] → E.nt ≠ Tg.zero
def Pend (E : WE) (f : Nat) (qa : List Am) (K : List Int) : Prop :=
  (∀ m ∈ qa, Rq E.n E.k E.R E.T E.V m) ∧ ∃ st K', qa.Perm (st ++ K'.map (E.req f)) ∧ (K ++ K').Perm (allOf E.n) ∧ ∀ m ∈ st, m.k < E.kd f
section
variable {E : WE} {w0 : World} {f i : Nat} {qa : List Am} {K : List Int}
theorem WEok.nums (h : WEok E w0) : 1 ≤ E.k ∧ E.k ≤ E.n ∧ 1 ≤ E.q ∧ E.q ≤ E.n ∧ E.n < E.q + E.q ∧ E.n + E.k ≤ E.q + E.q := by
  obtain ⟨h1, h2, _, _, _⟩ := h.ok
  have := h.q_
  have := h.hn
  have := h.hk
  omega
theorem req_at (hf : f ≤ E.last) (j : Int) : (E.req f j).k = E.kd f ∧ (E.req f j).cl = E.x.id ∧ (E.req f j).sv = j ∧ (E.req f j).op = E.x.ops ∧ (E.req f j).key = E.key ∧ (f ≠ 0 → (E.req f j).tag = E.nt) ∧ (E.req f j).bs = (if E.put = true ∧ f = 1 then partM E.R E.bs E.k j else []) := by
  unfold WE.req reqOf WE.kd WE.y WE.stg
  unfold WE.last at hf
  by_cases hp : E.put = true
  · rw [if_pos hp] at hf
    have hf3 : f = 0 ∨ f = 1 ∨ f = 2 := by omega
    rcases hf3 with rfl | rfl | rfl <;> simp [hp, stgOf]
    rfl
  · rw [if_neg hp] at hf
    have hf3 : f = 0 ∨ f = 1 := by omega
    rcases hf3 with rfl | rfl <;> simp [hp]
theorem kd_vals (hf : f ≤ E.last) : 1 ≤ E.kd f ∧ E.kd f ≤ 7 ∧ (E.kd f = 1 ↔ f = 0) ∧ (E.kd f = 3 → E.put = true ∧ f = 1) ∧ (E.kd f = 7 ↔ E.put = false ∧ f = 1) ∧ (f + 1 ≤ E.last → E.kd f < E.kd (f + 1)) := by
  unfold WE.kd
  unfold WE.last at hf ⊢
  by_cases hp : E.put = true
  · rw [if_pos hp] at hf
    have hf3 : f = 0 ∨ f = 1 ∨ f = 2 := by omega
    rcases hf3 with rfl | rfl | rfl <;> simp [hp]
  · rw [if_neg hp] at hf
    have hf3 : f = 0 ∨ f = 1 := by omega
    rcases hf3 with rfl | rfl <;> simp [hp]
theorem req_ok (h : WEok E w0) (hf : f ≤ E.last) (hT : f ≠ 0 → E.nt ∈ E.T) {j : Int} (hj : j ∈ allOf E.n) : Rq E.n E.k E.R E.T E.V (E.req f j) := by
  obtain ⟨r1, r2, r3, r4, r5, r6, r7⟩ := req_at (E := E) hf j
  obtain ⟨k1, k2, k3, k4, k5, _⟩ := kd_vals (E := E) hf
  have hjm := allOf_mem.1 hj
  obtain ⟨n1, n2, _⟩ := h.nums
  refine ⟨by omega, by omega, by omega, by omega, ?_, fun hk => ?_, fun hk => ?_⟩
  · rw [r7]
    split
    · rw [lin_len]
      have := size_bound (n := E.bs.length) n1
      have := h.bs
      omega
    · exact Nat.zero_le _
  · have hf0 : f ≠ 0 := fun e => hk (by rw [r1]; exact k3.2 e)
    rw [r6 hf0]
    exact hT hf0
  · obtain ⟨hp, hf1⟩ := k4 (by omega)
    rw [r6 (by omega), r3, (h.put_ hp).2.1]
    rw [r7, if_pos ⟨hp, hf1⟩]
theorem Pend.start (h : ∀ j ∈ allOf E.n, Rq E.n E.k E.R E.T E.V (E.req f j)) : Pend E f ((allOf E.n).map (E.req f)) [] := by
  refine ⟨fun m hm => ?_, [], allOf E.n, List.Perm.refl _, List.Perm.refl _, fun _ h => (nomatch h)⟩
  obtain ⟨j, hj, rfl⟩ := List.mem_map.1 hm
  exact h j hj
theorem Pend.next (P : Pend E f qa K) (hf : f + 1 ≤ E.last) (h : ∀ j ∈ allOf E.n, Rq E.n E.k E.R E.T E.V (E.req (f + 1) j)) : Pend E (f + 1) (qa ++ (allOf E.n).map (E.req (f + 1))) [] := by
  obtain ⟨ok, st, K', hq, hK, hs⟩ := P
  have hlt := (kd_vals (E := E) (f := f) (by omega)).2.2.2.2.2 hf
  refine ⟨fun m hm => ?_, qa, allOf E.n, List.Perm.refl _, List.Perm.refl _, fun m hm => ?_⟩
  · rcases List.mem_append.1 hm with hm | hm
    · exact ok m hm
    · obtain ⟨j, hj, rfl⟩ := List.mem_map.1 hm
      exact h j hj
  · rcases List.mem_append.1 (hq.mem_iff.1 hm) with hm | hm
    · have := hs m hm; omega
    · obtain ⟨j, hj, rfl⟩ := List.mem_map.1 hm
      rw [(req_at (by omega) j).1]
      exact hlt
theorem Pend.pick (P : Pend E f qa K) (hi : i < qa.length) : (qa[i].k < E.kd f ∧ Pend E f (qa.eraseIdx i) K) ∨ ∃ j, qa[i] = E.req f j ∧ Pend E f (qa.eraseIdx i) (K ++ [j]) := by
  obtain ⟨ok, st, K', hq, hK, hs⟩ := P
  have he : (qa[i] :: qa.eraseIdx i).Perm qa := by
    rw [List.eraseIdx_eq_take_drop_succ]
    refine List.perm_middle.symm.trans ?_
    rw [List.getElem_cons_drop, List.take_append_drop]
  have ok' : ∀ m ∈ qa.eraseIdx i, Rq E.n E.k E.R E.T E.V m := fun m hm => ok m (List.mem_of_mem_eraseIdx hm)
  rcases List.mem_append.1 (hq.mem_iff.1 (List.getElem_mem hi)) with hm | hm
  · refine .inl ⟨hs _ hm, ok', ?_⟩
    obtain ⟨s1, s2, e⟩ := List.append_of_mem hm
    refine ⟨s1 ++ s2, K', ?_, hK, fun m hm => hs m ?_⟩
    · have h2 := he.trans hq
      rw [e, List.append_assoc, List.cons_append] at h2
      have h3 := (h2.trans List.perm_middle).cons_inv
      rwa [← List.append_assoc] at h3
    · rw [e]
      rcases List.mem_append.1 hm with hm | hm
      · exact List.mem_append_left _ hm
      · exact List.mem_append_right _ (List.mem_cons_of_mem _ hm)
  · obtain ⟨j, hj, ej⟩ := List.mem_map.1 hm
    refine .inr ⟨j, ej.symm, ok', ?_⟩
    obtain ⟨s1, s2, e⟩ := List.append_of_mem hj
    refine ⟨st, s1 ++ s2, ?_, ?_, hs⟩
    · have h2 := he.trans hq
      rw [e, List.map_append, List.map_cons, ej, ← List.append_assoc] at h2
      have h3 := (h2.trans List.perm_middle).cons_inv
      rwa [List.append_assoc, ← List.map_append] at h3
    · rw [e] at hK
      refine List.Perm.trans ?_ hK
      rw [List.append_assoc]
      exact List.Perm.append_left _ (show (j :: (s1 ++ s2)).Perm _ from List.perm_middle.symm)
theorem Pend.ne (P : Pend E f qa K) (h : K.length < E.n) : qa ≠ [] := by
  rintro rfl
  obtain ⟨_, st, K', hq, hK, _⟩ := P
  have h1 := hq.length_eq
  have h2 := quo_len hK
  rw [List.length_append, List.length_map] at h1
  simp at h1
  omega
end
end Go.Proofs.YtabifopphhpciaaGreatDoor

namespace Go.Proofs.YtabifopphhpciaaGreatDoor
open Go Go.Vc Go.Vc.Asn Go.Gf
def WE.fact (E : WE) (f : Nat) (xa : List (List Ha)) (z : Int × Rp × List UInt8) : Prop :=
  if f = 0 then z.2.1.top = plTop (xa.getD z.1.toNat [])
  else if E.put then (if f = 1 then hasB (xa.getD z.1.toNat []) E.nt = true else finB (xa.getD z.1.toNat []) E.nt = true)
  else (hasB (E.xa.getD z.1.toNat []) E.nt = true → z.2.1.has = true) ∧ (z.2.1.has = true → z.2.2 = partM E.R (E.V E.nt) E.k z.1)
structure WSt (E : WE) (f : Nat) (L : Lb) (qa : List Am) (xa : List (List Ha)) (cnt : Nat) : Prop where
  hf : f ≤ E.last
  cnt_ : cnt + qa.length + E.n * (E.last - f) ≤ E.n * (E.last + 1)
  pend : Pend E f qa ((lr L).map (·.1))
  hL : L.length < E.q
  srv : Srv E.n E.k E.R E.T E.V (E.B + cnt) xa
  same : f = 0 → xa = E.xa
  mono : Mono E.xa xa
  fact : ∀ z ∈ L, E.fact f xa z
  has : E.put = true → f = 2 → E.q ≤ xa.countP (hasB · E.nt)
  nt : f ≠ 0 → E.nt ∈ E.T
def WE.fin (E : WE) : Cl := { E.cl E.last with now := none }
def WE.st (E : WE) : Int := if E.put = false ∧ E.T = [] then 76 else 0
def WE.out (E : WE) : List UInt8 := if E.put = false ∧ E.T ≠ [] then E.V E.nt else []
def WE.J (E : WE) : JT := fun qa xa A cnt => ∃ f ph L, WSt E f L qa xa cnt ∧ A = E.A f ph L
def WE.Post (E : WE) : PT := fun R vb xa A => ∃ o2, R = ⟨E.x.ops, E.put, E.st, E.nt, o2⟩ ∧ vb = E.out ∧ Calm E.n E.q E.k E.R E.T E.V E.nt (E.B + 22) xa ∧ A = star (cliA E.p E.fin) E.Cd
section
variable {E : WE} {w0 : World} {f i j cnt : Nat} {qa : List Am} {xa : List (List Ha)} {L : Lb} {a : Ms}
theorem lr_len (L : Lb) : (lr L).length = L.length := List.length_map _
theorem WSt.oks (h : WEok E w0) (S : WSt E f L qa xa cnt) : qa ≠ [] ∧ qa.length ≤ 700 ∧ cnt ≤ 22 ∧ (∀ m ∈ qa, 0 ≤ m.sv ∧ m.sv < (xa.length : Int) ∧ 1 ≤ m.k ∧ m.k ≤ 7 ∧ m.bs.length ≤ 65536) ∧ ∀ l ∈ xa, l.length ≤ 999999 ∧ ∀ h ∈ l, h.bs.length ≤ 65536 := by
  obtain ⟨n1, n2, n3, n4, n5, n6⟩ := h.nums
  have hl : E.last + 1 ≤ 3 := by unfold WE.last; split <;> omega
  have := Nat.mul_le_mul h.n7 hl
  have := S.cnt_
  have := S.hL
  have := h.B_
  refine ⟨S.pend.ne (by rw [List.length_map, lr_len]; omega), by omega, by omega, fun m hm => ?_, fun l hl => ⟨by have := S.srv.sz l hl; omega, fun x hx => ?_⟩⟩
  · have r := S.pend.1 m hm
    exact ⟨r.s0, by rw [S.srv.len]; exact r.s1, r.k1, r.k7, r.bs⟩
  · obtain ⟨t, ht, rfl⟩ := List.getElem_of_mem hl
    exact (S.srv.ent t _ (List.getElem?_eq_getElem ht) x hx).2.2
theorem fact_up {xb : List (List Ha)} (h0 : f = 0 → xb = xa) (hm : Mono xa xb) {z : Int × Rp × List UInt8} (h : E.fact f xa z) : E.fact f xb z := by
  unfold WE.fact at *
  split at h
  · rename_i e
    rw [if_pos e, h0 e]; exact h
  · rename_i e
    rw [if_neg e]
    split at h
    · rename_i e2
      rw [if_pos e2]
      split at h
      · rename_i e3
        rw [if_pos e3]; exact (hm.getD _ _).2 h
      · rename_i e3
        rw [if_neg e3]; exact (hm.getD _ _).1 h
    · rename_i e2
      rw [if_neg e2]; exact h
structure WPre (E : WE) (f : Nat) (L : Lb) (xb : List (List Ha)) (cnt : Nat) : Prop where
  srv : Srv E.n E.k E.R E.T E.V (E.B + (cnt + 1)) xb
  mono : Mono E.xa xb
  same : f = 0 → xb = E.xa
  fact : ∀ z ∈ L, E.fact f xb z
  has : E.put = true → f = 2 → E.q ≤ xb.countP (hasB · E.nt)
theorem kd_one (hf : f ≤ E.last) (S : WSt E f L qa xa cnt) (hi : i < qa.length) (h0 : f = 0) : qa[i].k = 1 := by
  subst h0
  have k1 := (S.pend.1 _ (List.getElem_mem hi)).k1
  have e := (kd_vals (E := E) hf).2.2.1.2 rfl
  rcases S.pend.pick hi with ⟨h, _⟩ | ⟨j, h, _⟩
  · omega
  · rw [h, (req_at hf j).1, e]
theorem WSt.pre (S : WSt E f L qa xa cnt) (hi : i < qa.length) (hj : qa[i].sv = (j : Int)) (hx : j < xa.length) : WPre E f L (xa.set j (plAns xa[j] qa[i]).1) cnt := by
  obtain ⟨s1, m1⟩ := srv_step S.srv (S.pend.1 _ (List.getElem_mem hi)) hj hx
  have e0 : f = 0 → xa.set j (plAns xa[j] qa[i]).1 = xa := fun h0 => by
    rw [plAns_fst, if_pos (kd_one S.hf S hi h0), List.set_getElem_self]
  exact ⟨s1, S.mono.trans m1, fun h => (e0 h).trans (S.same h), fun z hz => fact_up e0 m1 (S.fact z hz), fun hp h2 => Nat.le_trans (S.has hp h2) (mono_cnt m1 S.srv.len s1.len _).2⟩
theorem era_len (hi : i < qa.length) : (qa.eraseIdx i).length + 1 = qa.length := by
  rw [List.length_eraseIdx_of_lt hi]; omega
theorem WSt.stale {xb : List (List Ha)} (S : WSt E f L qa xa cnt) (hi : i < qa.length) (P : WPre E f L xb cnt) (h : Pend E f (qa.eraseIdx i) ((lr L).map (·.1))) : WSt E f L (qa.eraseIdx i) xb (cnt + 1) :=
  ⟨S.hf, by have := S.cnt_; have := era_len hi; omega, h, S.hL, P.srv, P.same, P.mono, P.fact, P.has, S.nt⟩
theorem WSt.more {xb : List (List Ha)} {z : Int × Rp × List UInt8} (S : WSt E f L qa xa cnt) (hi : i < qa.length) (P : WPre E f L xb cnt) (h : Pend E f (qa.eraseIdx i) ((lr (L ++ [z])).map (·.1))) (hz : E.fact f xb z) (hq : L.length + 1 < E.q) : WSt E f (L ++ [z]) (qa.eraseIdx i) xb (cnt + 1) :=
  ⟨S.hf, by have := S.cnt_; have := era_len hi; omega, h, by rw [List.length_append]; exact hq, P.srv, P.same, P.mono, fun y hy => by
    rcases List.mem_append.1 hy with hy | hy
    · exact P.fact y hy
    · rw [List.mem_singleton.1 hy]; exact hz, P.has, S.nt⟩
theorem fact_all {xb : List (List Ha)} {z : Int × Rp × List UInt8} (P : WPre E f L xb cnt) (hz : E.fact f xb z) : ∀ y ∈ L ++ [z], E.fact f xb y := fun y hy => by
  rcases List.mem_append.1 hy with hy | hy
  · exact P.fact y hy
  · rw [List.mem_singleton.1 hy]; exact hz
theorem WSt.next {xb : List (List Ha)} {z : Int × Rp × List UInt8} (hE : WEok E w0) (S : WSt E f L qa xa cnt) (hi : i < qa.length) (P : WPre E f L xb cnt) (h : Pend E f (qa.eraseIdx i) ((lr (L ++ [z])).map (·.1))) (hz : E.fact f xb z) (hq : E.q ≤ L.length + 1) (hf : f + 1 ≤ E.last) (hT : E.nt ∈ E.T) :
    WSt E (f + 1) [] (qa.eraseIdx i ++ (allOf E.n).map (E.req (f + 1))) xb (cnt + 1) := by
  obtain ⟨n1, n2, n3, n4, n5, n6⟩ := hE.nums
  refine ⟨hf, ?_, h.next hf fun j hj => req_ok hE hf (fun _ => hT) hj, by show 0 < E.q; omega, P.srv, fun h => absurd h (by omega), P.mono, fun _ h => (nomatch h), fun hp h2 => ?_, fun _ => hT⟩
  · have := era_len hi
    have := S.cnt_
    have e : E.last - f = (E.last - (f + 1)) + 1 := by omega
    rw [e, Nat.mul_succ] at this
    rw [List.length_append, List.length_map, allOf_len]
    omega
  · obtain ⟨_, K, R', _, hK, _⟩ := h
    have hall := quo_all (p := (hasB · E.nt)) hK P.srv.len fun j hj => by
      rw [List.map_map] at hj
      obtain ⟨y, hy, rfl⟩ := List.mem_map.1 hj
      have := fact_all P hz y hy
      unfold WE.fact at this
      rw [if_neg (by omega), if_pos hp, if_pos (by omega)] at this
      exact this
    rw [List.length_map, lr_len, List.length_append] at hall
    exact Nat.le_trans hq hall
theorem Calm.up {n q k B : Nat} {R : List (List UInt8)} {T : List Tg} {V : Tg → List UInt8} {top : Tg} (C : Calm n q k R T V top B xa) {xb : List (List Ha)} {B' : Nat} (hm : Mono xa xb) (S : Srv n k R T V B' xb) : Calm n q k R T V top B' xb :=
  ⟨S, C.le, C.val, fun h => ⟨(C.fin h).1, Nat.le_trans (C.fin h).2.1 (mono_cnt hm C.srv.len S.len _).1, Nat.le_trans (C.fin h).2.2 (mono_cnt hm C.srv.len S.len _).2⟩, C.zero⟩
theorem Srv.more {n k B B' : Nat} {R : List (List UInt8)} {T : List Tg} {V : Tg → List UInt8} (S : Srv n k R T V B xa) (h : B ≤ B') : Srv n k R T V B' xa :=
  ⟨S.len, fun l hl => Nat.le_trans (S.sz l hl) h, S.ent⟩
theorem wdone {xb : List (List Ha)} {z : Int × Rp × List UInt8} (hE : WEok E w0) (P : WPre E f L xb cnt) (h : Pend E f (qa.eraseIdx i) ((lr (L ++ [z])).map (·.1))) (hz : E.fact f xb z) (hq : E.q ≤ L.length + 1) (hf : E.put = true → f = 2) (hcnt : cnt + 1 ≤ 22) : Calm E.n E.q E.k E.R E.T E.V E.nt (E.B + 22) xb := by
  have hS := Srv.more P.srv (B' := E.B + 22) (by omega)
  obtain ⟨T0, hT0, C, hT⟩ := hE.T0
  by_cases hp : E.put = true
  · have h2 := hf hp
    refine ⟨hS, fun t ht => (hE.val t ht).2, fun t ht => (hE.val t ht).1, fun _ => ⟨(hE.put_ hp).1, ?_, P.has hp h2⟩, fun e => ?_⟩
    · obtain ⟨_, K, R', _, hK, _⟩ := h
      have hall := quo_all (p := (finB · E.nt)) hK P.srv.len fun j hj => by
        rw [List.map_map] at hj
        obtain ⟨y, hy, rfl⟩ := List.mem_map.1 hj
        have := fact_all P hz y hy
        unfold WE.fact at this
        rw [if_neg (by omega), if_pos hp, if_neg (by omega)] at this
        exact this
      rw [List.length_map, lr_len, List.length_append] at hall
      exact Nat.le_trans hq hall
    · have := (hE.put_ hp).1
      rw [e] at this
      exact nomatch this
  · have hp : E.put = false := by simpa using hp
    rw [(hE.get_ hp).1]
    rw [hT hp] at C
    exact C.up P.mono hS
theorem wtop {z : Int × Rp × List UInt8} {xb : List (List Ha)} (hE : WEok E w0) (P : WPre E 0 L xb cnt) (h : Pend E 0 (qa.eraseIdx i) ((lr (L ++ [z])).map (·.1))) (hz : E.fact 0 xb z) (hq : E.q ≤ L.length + 1) : topOf (lr (L ++ [z])) (lr (L ++ [z])).length = E.top := by
  obtain ⟨n1, n2, n3, n4, n5, n6⟩ := hE.nums
  obtain ⟨T0, hT0, C, hT⟩ := hE.T0
  obtain ⟨_, K, R', _, hK, _⟩ := h
  refine ask_top C hK (by rw [lr_len, List.length_append]; exact hq) (by omega) fun y hy => ?_
  obtain ⟨u, hu, rfl⟩ := List.mem_map.1 hy
  have := fact_all P hz u hu
  unfold WE.fact at this
  rw [if_pos rfl, P.same rfl] at this
  exact this
end
end Go.Proofs.YtabifopphhpciaaGreatDoor

namespace Go.Proofs.YtabifopphhpciaaGreatDoor
open Go Go.Vc Go.Vc.Asn Go.Gf
section
variable {E : WE} {w0 w : World} {f i j cnt : Nat} {qa : List Am} {xa : List (List Ha)} {L : Lb} {a : Ms} {m : Am} {l : List Ha}
theorem set_getD (hx : j < xa.length) (l : List Ha) : (xa.set j l).getD ((j : Int).toNat) [] = l := by
  rw [Int.toNat_natCast, List.getD_eq_getElem?_getD, List.getElem?_set, if_pos rfl, if_pos hx, Option.getD_some]
theorem fact_new (hf : f ≤ E.last) (hnr : E.put = true ∨ f = 0) (hx : j < xa.length) {r : Rp} {bs : List UInt8} (hr : f = 0 → r.top = plTop xa[j]) : E.fact f (xa.set j (plAns xa[j] (E.req f (j : Int))).1) ((j : Int), r, bs) := by
  obtain ⟨r1, r2, r3, r4, r5, r6, r7⟩ := req_at hf (j : Int)
  unfold WE.fact
  rw [set_getD hx, plAns_fst, r1]
  split
  · rename_i h0
    rw [if_pos ((kd_vals hf).2.2.1.2 h0)]
    exact hr h0
  · rename_i h0
    have hp : E.put = true := hnr.resolve_right h0
    rw [if_neg fun e => h0 ((kd_vals (E := E) hf).2.2.1.1 e), if_pos hp, r6 h0]
    have hkd : E.kd f = 2 * (f : Int) + 1 := by unfold WE.kd; rw [if_pos hp]
    split
    · rename_i h1
      refine upd_has_at (fun h => (eff_tag _ h).1) fun h => ?_
      unfold effA
      rw [r1, hkd, if_pos (by omega)]
      exact (give_tag _ h).2.1
    · rename_i h1
      refine upd_fin_at (fun h => (eff_tag _ h).1) fun h => ?_
      unfold effA
      rw [r1, hkd, if_neg (by omega)]
      rfl
theorem ans7 (hk : m.k = 7) : (plAns l m).2.top = plTop (plAns l m).1 ∧ (plAns l m).2.has = hasB (plAns l m).1 m.tag ∧ ∃ h ∈ (plAns l m).1, h.tag = m.tag ∧ (plAns l m).2.has = h.has ∧ (plAns l m).2.bs = h.bs := by
  have e1 : (plAns l m).1 = modA (plAdd l m.tag) (plIdx l m.tag) Ha.end := by
    rw [plAns_fst, if_neg (by omega)]
    unfold effA
    rw [if_neg (by omega)]
  have e2 : (plAns l m).2 = ⟨m.k + 1, m.cl, m.sv, m.op, m.key, m.tag, plTop (plAns l m).1, ((plAns l m).1.getD (plIdx l m.tag) ⟨Tg.zero, false, false, []⟩).has, ((plAns l m).1.getD (plIdx l m.tag) ⟨Tg.zero, false, false, []⟩).bs⟩ := by
    rw [e1]
    unfold plAns
    rw [if_neg (by omega), if_neg (by omega)]
    dsimp only
    rw [if_pos hk]
  have hlt : plIdx l m.tag < (plAns l m).1.length := by rw [e1, modA_eq (plAdd_idx l m.tag).2, List.length_set]; exact (plAdd_idx l m.tag).2
  have e3 : (plAns l m).1.getD (plIdx l m.tag) ⟨Tg.zero, false, false, []⟩ = (plAns l m).1[plIdx l m.tag] := by rw [List.getD_eq_getElem?_getD, List.getElem?_eq_getElem hlt, Option.getD_some]
  have e4 : plIdx (plAns l m).1 m.tag = plIdx l m.tag := by rw [e1, upd_idx (f := Ha.end) (fun _ => rfl), (plAdd_idx l m.tag).1]
  refine ⟨by rw [e2], ?_, _, List.getElem_mem hlt, ?_, by rw [e2, e3], by rw [e2, e3]⟩
  · unfold hasB
    rw [e4, e2]
  · have e5 := modA_eq (plAdd_idx l m.tag).2 Ha.end
    rw [← e1] at e5
    simp only [e5, List.getElem_set_self]
    exact plAdd_tag l m.tag
theorem fact_read {xb : List (List Ha)} (hf : f ≤ E.last) (hp : E.put = false) (h1 : f = 1) (hx : j < xa.length) (he : xb = xa.set j (plAns xa[j] (E.req f (j : Int))).1) (P : WPre E f L xb cnt) (hab : a.abs = (plAns xa[j] (E.req f (j : Int))).2) (s : Slc) : E.fact f xb (rdR' a s) ∧ a.top = plTop (plAns xa[j] (E.req f (j : Int))).1 := by
  obtain ⟨r1, r2, r3, r4, r5, r6, r7⟩ := req_at hf (j : Int)
  have hk7 : (E.req f (j : Int)).k = 7 := by rw [r1]; exact (kd_vals hf).2.2.2.2.1.2 ⟨hp, h1⟩
  obtain ⟨t1, t2, h, hm, ht, hh, hb⟩ := ans7 (l := xa[j]) hk7
  obtain ⟨g1, g2, g3, g4, g5, g6⟩ := plAns_a xa[j] (E.req f (j : Int))
  rw [← hab] at t1 t2 hh hb g3
  have g3 : a.sv = (j : Int) := g3.trans r3
  have hxb : xb[j]? = some (plAns xa[j] (E.req f (j : Int))).1 := by rw [he, List.getElem?_set, if_pos rfl, if_pos hx]
  have he2 := P.srv.ent j _ hxb h hm
  refine ⟨?_, t1⟩
  unfold WE.fact
  rw [if_neg (by omega), if_neg (by rw [hp]; decide)]
  show (hasB (E.xa.getD a.sv.toNat []) E.nt = true → a.has = true) ∧ (a.has = true → (if a.has = true then a.bs else []) = partM E.R (E.V E.nt) E.k a.sv)
  rw [g3]
  refine ⟨fun hx => ?_, fun hx => ?_⟩
  · have h2 := (P.mono.getD ((j : Int).toNat) E.nt).2 hx
    rw [Int.toNat_natCast, List.getD_eq_getElem?_getD, hxb, Option.getD_some] at h2
    have t2 : a.has = hasB (plAns xa[j] (E.req f (j : Int))).1 (E.req f (j : Int)).tag := t2
    rw [t2, r6 (by omega)]
    exact h2
  · rw [if_pos hx]
    have hb : a.bs = h.bs := hb
    have hh : a.has = h.has := hh
    rw [hb, he2.2.1 (by rw [← hh]; exact hx), ht, r6 (by omega)]
theorem cur_counts {ph : Nat} (hE : WEok E w0) (hf : f ≤ E.last) (hj : (j : Int) ∈ allOf E.n) (hab : a.abs = (plAns l (E.req f (j : Int))).2) (ht : f = 0 ∨ E.put = false → a.top.valid = true) : countsB (E.cl f) (E.y f ph) a = true := by
  obtain ⟨r1, r2, r3, r4, r5, r6, r7⟩ := req_at hf (j : Int)
  obtain ⟨g1, g2, g3, g4, g5, g6⟩ := plAns_a l (E.req f (j : Int))
  rw [← hab] at g1 g2 g3 g4 g5 g6
  have g1 : a.k = E.kd f + 1 := by rw [← r1]; exact g1
  have g2 : a.cl = E.x.id := g2.trans r2
  have g3 : a.sv = (j : Int) := g3.trans r3
  have g4 : a.op = E.x.ops := g4.trans r4
  have g5 : a.key = E.key := g5.trans r5
  have g6 : f ≠ 0 → a.tag = E.nt := fun h => g6.trans (r6 h)
  have hjm := allOf_mem.1 hj
  have e1 : (E.cl f).id = E.x.id := by unfold WE.cl; split <;> rfl
  have e2 : (E.cl f).cfg = E.c := by unfold WE.cl; split <;> exact hE.cfg
  have hbad : badB (E.cl f) (E.y f ph) a = false := by
    unfold badB WE.y
    rw [e1, e2, hE.hn, g2, g3, g4, g5]
    simp
    omega
  unfold countsB goodB
  rw [hbad]
  unfold WE.kd at g1
  unfold WE.last at hf
  show (!false && _) = true
  unfold WE.y WE.stg
  by_cases hp : E.put = true
  · rw [if_pos hp] at g1 hf
    simp only [hp, if_true]
    have hf3 : f = 0 ∨ f = 1 ∨ f = 2 := by omega
    rcases hf3 with rfl | rfl | rfl
    · simp [stgOf, g1, ht (.inl rfl)]
    · simp [stgOf, g1, g6]
    · simp [stgOf, g1, g6]
  · have hp : E.put = false := by simpa using hp
    rw [hp, if_neg (by decide)] at g1 hf
    simp only [hp]
    have hf3 : f = 0 ∨ f = 1 := by omega
    rcases hf3 with rfl | rfl
    · simp [g1, ht (.inl rfl)]
    · simp [g1, g6, ht (.inr hp)]
theorem old_counts {ph : Nat} (hk : a.k ≠ E.kd f + 1) (hf : f ≤ E.last) : countsB (E.cl f) (E.y f ph) a = false := by
  unfold countsB goodB WE.y WE.stg
  unfold WE.kd at hk
  unfold WE.last at hf
  by_cases hp : E.put = true
  · rw [if_pos hp] at hk hf
    simp only [hp, if_true]
    have hf3 : f = 0 ∨ f = 1 ∨ f = 2 := by omega
    rcases hf3 with rfl | rfl | rfl
    · have hk : a.k ≠ 2 := by omega
      simp [stgOf, hk]
    · have hk : a.k ≠ 4 := by omega
      simp [stgOf, hk]
    · have hk : a.k ≠ 6 := by omega
      simp [stgOf, hk]
  · have hp : E.put = false := by simpa using hp
    rw [hp, if_neg (by decide)] at hk hf
    simp only [hp]
    have hf3 : f = 0 ∨ f = 1 := by omega
    rcases hf3 with rfl | rfl
    · have hk : a.k ≠ 2 := by rw [if_pos rfl] at hk; omega
      simp [hk]
    · have hk : a.k ≠ 8 := by rw [if_neg (by decide)] at hk; omega
      simp [hk]
end
end Go.Proofs.YtabifopphhpciaaGreatDoor

namespace Go.Proofs.YtabifopphhpciaaGreatDoor
open Go Go.Vc Go.Vc.Asn Go.Gf
def WE.Pm (E : WE) (qa : List Am) (xb : List (List Ha)) (cnt : Nat) (r : Slc) (R : Rs) (e : Bool) (A' : Asn) : Prop :=
  (∃ ms A2, R = Rs.no ∧ e = false ∧ E.J (qa ++ ms.map Ms.abs) xb A2 cnt ∧ ms.length ≤ 255 ∧ A' = star (msgsA r ms) A2) ∨
  (∃ vb A2, e = true ∧ E.Post R vb xb A2 ∧ A' = star (own Ty_uint8 1 R.val (vb.map u8v)) A2)
theorem to4 {A B C D G : Asn} : Ent (star A (star B (star C (star D G)))) (star (star A (star B (star C (star D emp)))) G) :=
  (Ent.star (Ent.refl _) (Ent.star (Ent.refl _) (Ent.star (Ent.refl _) (Ent.star emp_r (Ent.refl _))))).trans to3
theorem un5 {A B C D E G : Asn} : Ent (star (star A (star B (star C (star D E)))) G) (star A (star B (star C (star D (star E G))))) :=
  assoc.trans (Ent.star (Ent.refl _) (assoc.trans (Ent.star (Ent.refl _) (assoc.trans (Ent.star (Ent.refl _) assoc)))))
theorem to2 {A B C F : Asn} : Ent (star A (star B (star C F))) (star (star A (star B C)) F) := (Ent.star (Ent.refl _) assoc').trans assoc'
section
variable {E : WE} {w0 w : World} {F : Asn} {f ph i j cnt : Nat} {qa : List Am} {xa xb : List (List Ha)} {L : Lb} {a : Ms} {z : Int × Rp × List UInt8}
theorem rd_no (h : E.put = true ∨ f ≠ 1) (L : Lb) : E.rd f L = emp := by
  unfold WE.rd
  rw [if_neg]
  rintro ⟨h1, h2⟩
  rcases h with h | h
  · rw [h1] at h; exact nomatch h
  · exact h h2
theorem rd_yes (h : E.put = false) (L : Lb) : E.rd 1 L = all rdD L := by
  unfold WE.rd
  rw [if_pos ⟨h, rfl⟩]
theorem cl_cfg (hE : WEok E w0) : (E.cl f).cfg = E.c := by unfold WE.cl; split <;> exact hE.cfg
theorem cl_id : (E.cl f).id = E.x.id := by unfold WE.cl; split <;> rfl
theorem cl_now (hE : WEok E w0) : (E.cl f).now = some E.o := by unfold WE.cl; split <;> exact hE.now
theorem cl_cd (hE : WEok E w0) : (E.cl f).cd = E.cd := by unfold WE.cl; split <;> exact hE.cd_
theorem pm_next {r : Slc} {ms : List Ms} {F' : Asn} (hn : E.n ≤ 255) (hms : ms.map Ms.abs = (allOf E.n).map (E.req (f + 1))) (S : WSt E (f + 1) [] (qa ++ (allOf E.n).map (E.req (f + 1))) xb cnt)
    (H : Hp w0 w (star (msgsA r ms) (star (cliA E.p (E.cl (f + 1))) (star (opnA E.o (E.y (f + 1) ph)) (star (phA ph (E.c, [])) (star E.Cd F')))))) : E.Pm qa xb cnt r Rs.no false (star (msgsA r ms) (E.A (f + 1) ph [])) ∧ Hp w0 w (star (star (msgsA r ms) (E.A (f + 1) ph [])) F') := by
  refine ⟨.inl ⟨ms, _, rfl, rfl, ⟨f + 1, ph, [], by rw [hms]; exact S, rfl⟩, ?_, rfl⟩, ?_⟩
  · have := congrArg List.length hms
    rw [List.length_map, List.length_map, allOf_len] at this
    omega
  · have e : E.rd (f + 1) [] = emp := by unfold WE.rd; split <;> rfl
    have H2 := (H.ent (Ent.star (Ent.refl _) to4)).assoc'
    unfold WE.A
    rw [e]
    exact H2
theorem pm_end {R : Rs} {vb : List UInt8} {F' : Asn} {r : Slc} (hR : ∃ o2, R = ⟨E.x.ops, E.put, E.st, E.nt, o2⟩) (hv : vb = E.out) (C : Calm E.n E.q E.k E.R E.T E.V E.nt (E.B + 22) xb) (H : Hp w0 w (star (own Ty_uint8 1 R.val (vb.map u8v)) (star (cliA E.p E.fin) (star E.Cd F')))) :
    E.Pm qa xb cnt r R true (star (own Ty_uint8 1 R.val (vb.map u8v)) (star (cliA E.p E.fin) E.Cd)) ∧ Hp w0 w (star (star (own Ty_uint8 1 R.val (vb.map u8v)) (star (cliA E.p E.fin) E.Cd)) F') := by
  obtain ⟨o2, hR⟩ := hR
  exact ⟨.inr ⟨vb, _, rfl, ⟨o2, hR, hv, C, rfl⟩, rfl⟩, H.ent to2⟩
theorem metN_c (hE : WEok E w0) (S : WSt E f L qa xa cnt) (hi : i < qa.length) (P : WPre E f L xb cnt) (h : Pend E f (qa.eraseIdx i) ((lr (L ++ [z])).map (·.1))) (hz : E.fact f xb z) (hq : E.q ≤ L.length + 1) (hnr : E.put = true ∨ f = 0)
    (H : Hp w0 w (star (cliA E.p (E.cl f)) (star (opnA E.o (E.y f ph)) (star (phA ph (E.c, lr (L ++ [z]))) (star E.Cd F))))) :
    Calls PP F_client_Client_met #[.pointer (some (blk E.p))] w (Rt fun v w' => ∃ r R e A', v = .tuple #[Slc.v r, Rs.v R, .bool e] ∧ E.Pm (qa.eraseIdx i) xb (cnt + 1) r R e A' ∧ Hp w0 w' (star A' F)) := by
  obtain ⟨n1, n2, n3, n4, n5, n6⟩ := hE.nums
  have n7 := hE.n7
  have hbs := hE.bs
  have hLq := S.hL
  have hl : (lr (L ++ [z])).length ≤ 255 := by rw [lr_len, List.length_append]; simp only [List.length_singleton]; omega
  have hcnt : cnt + 1 ≤ 22 := by
    have hl3 : E.last + 1 ≤ 3 := by unfold WE.last; split <;> omega
    have := Nat.mul_le_mul n7 hl3
    have := S.cnt_
    omega
  have hCd : ∀ {w' : World} {A' : Asn}, Hp w0 w' (star E.Cd A') → RdCode w' (E.cl f).cd E.g E.sc E.rs E.n E.k := fun H => by rw [cl_cd hE]; exact hE.hC H
  have hok : (E.cl f).cfg.Ok := by rw [cl_cfg hE]; exact hE.ok
  have hN : (E.cl f).cfg.N = (E.n : Int) := by rw [cl_cfg hE]; exact hE.hn
  have hnow := cl_now (f := f) hE
  have hf := S.hf
  by_cases hp : E.put = true
  · obtain ⟨p1, p2, p3, p4, p5, p6⟩ := hE.put_ hp
    have hlast : E.last = 2 := by unfold WE.last; rw [if_pos hp]
    have hf3 : f = 0 ∨ f = 1 ∨ f = 2 := by omega
    rcases hf3 with rfl | rfl | rfl
    · have hst : (E.y 0 ph).stg = .ask := by show E.stg 0 = _; unfold WE.stg; rw [if_pos hp]; rfl
      have hc0 : E.cl 0 = E.x := by unfold WE.cl; rw [if_neg (by simp)]
      obtain ⟨T0, hT0, C, hT⟩ := hE.T0
      have hu : usedOf (E.cl 0) (E.y 0 ph).key = usedOf E.x E.key := by rw [hc0]; rfl
      refine Rt.mono (metAsk_c (t := E.top) hCd hok hN (by omega) (by show E.bs.length ≤ _; omega) hnow hst hl (wtop hE P h hz hq) hp C.vtop (by rw [hu]; exact p4) (by rw [hu]; exact p5) (by rw [cl_id]; exact hE.id1) (by rw [cl_id]; exact hE.id2) (by rw [hu, cl_id, ← p3]; exact p6) H) ?_
      rintro _ w' ⟨ph', r, ms, rfl, hms, H⟩
      rw [hu, cl_id, ← p3] at hms H
      rw [hc0] at H
      have hy : ({ E.y 0 ph with stg := .write, tag := E.nt, ph := ph' } : Opn) = E.y 1 ph' := by
        unfold WE.y WE.stg
        simp only [hp, if_true, stgOf]
        rfl
      have hx : Cl.mk E.x.cfg E.x.id E.x.cd E.x.ops (lput E.x.used (E.y 0 ph).key E.nt.n) E.x.now = E.cl 1 := by
        unfold WE.cl
        rw [if_pos ⟨hp, by decide⟩]
        rfl
      rw [hy] at hms H
      rw [hx, hE.cfg] at H
      have H := ((((((H.take (phA (E.y 0 ph).ph (E.c, lr (L ++ [z])))).drop.take E.Cd).take (phA ph' (E.c, []))).take (opnA E.o (E.y 1 ph'))).take (cliA E.p (E.cl 1))).take (msgsA r ms))
      obtain ⟨h1, h2⟩ := pm_next (by omega) hms (S.next hE hi P h hz hq (by omega) p1) H
      exact ⟨_, _, _, _, rfl, h1, h2⟩
    · have hst : (E.y 1 ph).stg = .write := by show E.stg 1 = _; unfold WE.stg; rw [if_pos hp]; rfl
      have H := ((((H.take (phA ph (E.c, lr (L ++ [z])))).drop.take E.Cd).take (opnA E.o (E.y 1 ph))).take (cliA E.p (E.cl 1)))
      refine Rt.mono (metWrite_c hCd hok hN (by omega) (by show E.bs.length ≤ _; omega) hnow hst H) ?_
      rintro _ w' ⟨ph', r, ms, rfl, hms, H⟩
      have hy : ({ E.y 1 ph with stg := .fin, ph := ph' } : Opn) = E.y 2 ph' := by
        unfold WE.y WE.stg
        simp only [hp, if_true, stgOf]
        rfl
      have hx : E.cl 1 = E.cl 2 := by
        unfold WE.cl
        rw [if_pos ⟨hp, by decide⟩, if_pos ⟨hp, by decide⟩]
      rw [hy, cl_id] at hms
      rw [hy, cl_cfg hE, hx] at H
      obtain ⟨h1, h2⟩ := pm_next (by omega) hms (S.next hE hi P h hz hq (by omega) p1) H
      exact ⟨_, _, _, _, rfl, h1, h2⟩
    · have hst : (E.y 2 ph).stg = .fin := by show E.stg 2 = _; unfold WE.stg; rw [if_pos hp]; rfl
      refine Rt.mono (metFin_c hnow hst H) ?_
      rintro _ w' ⟨rfl, H⟩
      have hx : ({ E.cl 2 with now := none } : Cl) = E.fin := by unfold WE.fin; rw [hlast]
      rw [hx] at H
      have H := ((((H.take (phA ph (E.c, lr (L ++ [z])))).drop.take (opnA E.o (E.y 2 ph))).drop.take E.Cd).take (cliA E.p E.fin)).nilRow Ty_uint8 1
      obtain ⟨h1, h2⟩ := pm_end (qa := qa.eraseIdx i) (cnt := cnt + 1) (r := Slc.nil) (R := ⟨(E.y 2 ph).op, (E.y 2 ph).put, 0, (E.y 2 ph).tag, Slc.nil⟩) (vb := []) ⟨Slc.nil, by unfold WE.st; rw [if_neg (by rw [hp]; simp)]; rfl⟩ (by unfold WE.out; rw [if_neg (by rw [hp]; simp)]) (wdone hE P h hz hq (fun _ => rfl) hcnt) H
      exact ⟨_, _, _, _, rfl, h1, h2⟩
  · have hp : E.put = false := by simpa using hp
    obtain rfl : f = 0 := hnr.resolve_left (by rw [hp]; simp)
    obtain ⟨g1, g2⟩ := hE.get_ hp
    have hlast : E.last = 1 := by unfold WE.last; rw [if_neg (by rw [hp]; simp)]
    have hst : (E.y 0 ph).stg = .ask := by show E.stg 0 = _; unfold WE.stg; rw [if_neg (by rw [hp]; simp), if_pos rfl]
    have hc1 : ∀ f, E.cl f = E.x := fun f => by unfold WE.cl; rw [if_neg (by rw [hp]; simp)]
    obtain ⟨T0, hT0, C, hT⟩ := hE.T0
    have hT := hT hp
    subst hT
    have hw := wtop hE P h hz hq
    by_cases hT : E.T = []
    · have ht0 := C.zero hT
      rw [ht0] at hw
      refine Rt.mono (metNo_c hnow hst hl hw hp H) ?_
      rintro _ w' ⟨rfl, H⟩
      have hx : ({ E.cl 0 with now := none } : Cl) = E.fin := by unfold WE.fin; rw [hc1, hc1]
      rw [hx] at H
      have H := ((((H.take (phA (E.y 0 ph).ph (E.c, lr (L ++ [z])))).drop.take (opnA E.o (E.y 0 ph))).drop.take E.Cd).take (cliA E.p E.fin)).nilRow Ty_uint8 1
      obtain ⟨h1, h2⟩ := pm_end (qa := qa.eraseIdx i) (cnt := cnt + 1) (r := Slc.nil) (R := Rs.absent (E.y 0 ph).op) (vb := []) ⟨Slc.nil, by unfold WE.st Rs.absent; rw [if_pos ⟨hp, hT⟩, hp, g1, ht0]; rfl⟩ (by unfold WE.out; rw [if_neg (by rw [hT]; simp)]) (wdone hE P h hz hq (by rw [hp]; intro e; exact nomatch e) hcnt) H
      exact ⟨_, _, _, _, rfl, h1, h2⟩
    · have hnz := hE.nz hT
      refine Rt.mono (metAskGet_c (t := E.top) hCd hok hN (by omega) (by show E.bs.length ≤ _; omega) hnow hst hl hw hp (by rw [← g1]; exact hnz) H) ?_
      rintro _ w' ⟨ph', r, ms, rfl, hms, H⟩
      have hy : ({ E.y 0 ph with stg := .read, tag := E.top, ph := ph' } : Opn) = E.y 1 ph' := by
        unfold WE.y WE.stg
        rw [g1]
        simp only [hp, Bool.false_eq_true, if_false]
        rfl
      rw [hy, cl_id] at hms
      rw [hy, cl_cfg hE, hc1 0, ← hc1 1] at H
      have H := ((((((H.take (phA (E.y 0 ph).ph (E.c, lr (L ++ [z])))).drop.take E.Cd).take (phA ph' (E.c, []))).take (opnA E.o (E.y 1 ph'))).take (cliA E.p (E.cl 1))).take (msgsA r ms))
      obtain ⟨h1, h2⟩ := pm_next (by omega) hms (S.next hE hi P h hz hq (by omega) (by rw [g1]; exact (C.fin hT).1)) H
      exact ⟨_, _, _, _, rfl, h1, h2⟩
end
end Go.Proofs.YtabifopphhpciaaGreatDoor

namespace Go.Proofs.YtabifopphhpciaaGreatDoor
open Go Go.Vc Go.Vc.Asn Go.Gf
section
variable {E : WE} {w0 w w' : World} {F A : Asn} {f ph i j cnt : Nat} {qa : List Am} {xa xb : List (List Ha)} {L : Lb} {a : Ms} {z : Int × Rp × List UInt8} {r : Slc} {R : Rs} {e : Bool} {A' : Asn} {v : Value}
theorem metR_c (hE : WEok E w0) (S : WSt E 1 L qa xa cnt) (P : WPre E 1 L xb cnt) (h : Pend E 1 (qa.eraseIdx i) ((lr (L ++ [z])).map (·.1))) (hz : E.fact 1 xb z) (hq : E.q ≤ L.length + 1) (hp : E.put = false)
    (H : Hp w0 w (star (cliA E.p (E.cl 1)) (star (opnA E.o (E.y 1 ph)) (star (phA ph (E.c, lr (L ++ [z]))) (star (all rdD (L ++ [z])) (star E.Cd F)))))) :
    Calls PP F_client_Client_met #[.pointer (some (blk E.p))] w (Rt fun v w' => ∃ r R e A', v = .tuple #[Slc.v r, Rs.v R, .bool e] ∧ E.Pm (qa.eraseIdx i) xb (cnt + 1) r R e A' ∧ Hp w0 w' (star A' F)) := by
  obtain ⟨n1, n2, n3, n4, n5, n6⟩ := hE.nums
  have n7 := hE.n7
  have hLq := S.hL
  have hl : (L ++ [z]).length ≤ 255 := by rw [List.length_append]; simp only [List.length_singleton]; omega
  obtain ⟨g1, g2⟩ := hE.get_ hp
  have hlast : E.last = 1 := by unfold WE.last; rw [if_neg (by rw [hp]; simp)]
  have hcnt : cnt + 1 ≤ 22 := by
    have := Nat.mul_le_mul n7 (Nat.le_refl (E.last + 1))
    have := S.cnt_
    rw [hlast] at *
    omega
  have hst : (E.y 1 ph).stg = .read := by show E.stg 1 = _; unfold WE.stg; rw [if_neg (by rw [hp]; simp), if_neg (by decide)]
  obtain ⟨T0, hT0, C, hT⟩ := hE.T0
  have hT := hT hp
  subst hT
  have hne : E.T ≠ [] := fun e => by have := S.nt (by decide); rw [e] at this; exact nomatch this
  obtain ⟨c1, c2, c3⟩ := C.fin hne
  obtain ⟨_, K, R', _, hK, _⟩ := id h
  have hall := fact_all P hz
  have hfr : ∀ i, Frags E.n E.k (mt E.rs) (E.V E.nt) (psOf (L ++ [z]) i) := read_frags hK fun y hy => by
    have := hall y hy
    unfold WE.fact at this
    rw [if_neg (by decide), if_neg (by rw [hp]; simp)] at this
    exact this.2
  have hfull : E.k ≤ (psOf (L ++ [z]) (L ++ [z]).length).length := read_cnt (xa := E.xa) (top := E.nt) (q := E.q) hK C.srv.len (by rw [g1]; exact c3) (by rw [List.length_append]; exact hq) n6 fun y hy => by
    have := hall y hy
    unfold WE.fact at this
    rw [if_neg (by decide), if_neg (by rw [hp]; simp)] at this
    exact this.1
  refine Rt.mono (metRead_c (x := E.cl 1) (y := E.y 1 ph) (k := E.k) (n := E.n) hE.G (fun H => by rw [cl_cd hE]; exact hE.hC H) (by rw [cl_cfg hE]; exact hE.hk) (cl_now hE) hst hl hfull hfr g2 H) ?_
  rintro _ w' ⟨o2, rfl, H⟩
  have hx : Cl.mk (E.cl 1).cfg (E.cl 1).id (E.cl 1).cd (E.cl 1).ops (E.cl 1).used none = E.fin := by unfold WE.fin; rw [hlast]
  rw [hx] at H
  obtain ⟨h1, h2⟩ := pm_end (qa := qa.eraseIdx i) (cnt := cnt + 1) (r := Slc.nil) (R := ⟨(E.y 1 ph).op, (E.y 1 ph).put, 0, (E.y 1 ph).tag, o2⟩) (vb := E.V E.nt) ⟨o2, by unfold WE.st; rw [if_neg (by rintro ⟨-, e⟩; exact hne e)]; rfl⟩ (by unfold WE.out; rw [if_pos ⟨hp, hne⟩]) (wdone hE P h hz hq (by rw [hp]; intro e; exact nomatch e) hcnt) H
  exact ⟨_, _, _, _, rfl, h1, h2⟩
def WE.Out (E : WE) (w0 : World) (qa : List Am) (xb : List (List Ha)) (cnt : Nat) (F : Asn) (v : Value) (w' : World) : Prop :=
  (∃ r ms A2, v = .tuple #[Slc.v r, Rs.no.v, .bool false] ∧ E.J (qa ++ ms.map Ms.abs) xb A2 cnt ∧ ms.length ≤ 255 ∧ Hp w0 w' (star (msgsA r ms) (star A2 F))) ∨
  (∃ r R vb A2, v = .tuple #[Slc.v r, Rs.v R, .bool true] ∧ E.Post R vb xb A2 ∧ Hp w0 w' (star (own Ty_uint8 1 R.val (vb.map u8v)) (star A2 F)))
theorem out_pm (h : E.Pm qa xb cnt r R e A') (H : Hp w0 w' (star A' (star (mdA a) F))) : E.Out w0 qa xb cnt F (.tuple #[Slc.v r, Rs.v R, .bool e]) w' := by
  have H := (H.take (mdA a)).drop
  rcases h with ⟨ms, A2, rfl, rfl, hJ, hl, rfl⟩ | ⟨vb, A2, rfl, hP, rfl⟩
  · exact .inl ⟨_, ms, A2, rfl, hJ, hl, H.assoc⟩
  · exact .inr ⟨_, _, vb, A2, rfl, hP, H.assoc⟩
theorem out_more {A2 : Asn} (hJ : E.J qa xb A2 cnt) (H : Hp w0 w' (star A2 (star (mdA a) F))) : E.Out w0 qa xb cnt F (.tuple #[Slc.v Slc.nil, Rs.no.v, .bool false]) w' := by
  have H := ((H.take (mdA a)).drop.nilRow Ty_api_Message 11).ent (Ent.star emp_r (Ent.refl _))
  exact .inl ⟨_, [], A2, rfl, by rw [List.map_nil, List.append_nil]; exact hJ, by simp, H⟩
theorem ans1 {l : List Ha} {m : Am} (hk : m.k = 1) : (plAns l m).2.top = plTop l := by
  unfold plAns
  rw [if_pos hk]
theorem whandle_c (hE : WEok E w0) (hi : i < qa.length) (hj : j < xa.length) (hsv : qa[i].sv = (j : Int)) (hJ : E.J qa xa A cnt) (ha : a.abs = (plAns xa[j] qa[i]).2) (H : Hp w0 w (star A (star (mdA a) F))) :
    Calls PP F_client_Client_Handle #[.pointer (some (blk E.p)), .agg a.c.toArray] w (Rt fun v w' => E.Out w0 (qa.eraseIdx i) (xa.set j (plAns xa[j] qa[i]).1) (cnt + 1) F v w') := by
  obtain ⟨f, ph, L, S, rfl⟩ := hJ
  have H := H.ent un5
  have hnow := cl_now (f := f) hE
  have hok : (E.cl f).cfg.Ok := by rw [cl_cfg hE]; exact hE.ok
  have hqq : ((E.cl f).cfg.N + (E.cl f).cfg.K + 1) / 2 = (E.q : Int) := by rw [cl_cfg hE]; exact hE.q_
  obtain ⟨g1, g2, g3, g4, g5, g6⟩ := plAns_a xa[j] qa[i]
  rw [← ha] at g1 g2 g3 g4 g5 g6
  have P := S.pre hi hsv hj
  rcases S.pend.pick hi with ⟨hk, hp'⟩ | ⟨j', hq, hp'⟩
  · -- one that came too late
    have hcount := old_counts (E := E) (f := f) (ph := ph) (a := a) (by have : a.k = qa[i].k + 1 := g1; omega) S.hf
    refine Rt.mono (handleNo_c (x := E.cl f) (y := E.y f ph) hnow hcount H) ?_
    rintro _ w' ⟨rfl, fr⟩
    exact out_more ⟨f, ph, L, S.stale hi P hp', rfl⟩ ((H.fr0 fr).ent as4)
  · obtain ⟨r1, r2, r3, r4, r5, r6, r7⟩ := req_at S.hf j'
    have hjj : j' = (j : Int) := by rw [← r3, ← hq, hsv]
    subst hjj
    have hmem : (j : Int) ∈ allOf E.n ∧ (j : Int) ∉ (lr L).map (·.1) := by
      obtain ⟨_, _, K', _, hK, _⟩ := id hp'
      refine ⟨hK.mem_iff.1 (by simp), fun hm => ?_⟩
      have := (List.nodup_append.1 (hK.nodup_iff.2 (allOf_nodup E.n))).1
      exact (List.nodup_append.1 this).2.2 _ hm _ (List.mem_singleton.2 rfl) rfl
    have hasv : a.sv = (j : Int) := (g3 : a.sv = qa[i].sv).trans hsv
    rw [hq] at P ha ⊢
    have hkey : ∀ z : Int × Rp × List UInt8, z.1 = (j : Int) → (lr L).map (·.1) ++ [(j : Int)] = (lr (L ++ [z])).map (·.1) := fun z hz => by
      unfold lr
      rw [List.map_append, List.map_append, List.map_singleton, List.map_singleton, hz]
    by_cases hnr : E.put = true ∨ f = 0
    · -- where nothing is read
      have htop0 : f = 0 → a.top = plTop xa[j] ∧ a.top.valid = true := fun h0 => by
        have e : a.top = plTop xa[j] := by
          have := congrArg Am.top ha
          rw [ans1 (by rw [r1]; exact (kd_vals S.hf).2.2.1.2 h0)] at this
          exact this
        refine ⟨e, ?_⟩
        rw [e]
        exact plTop_valid fun x hx => (hE.val _ (S.srv.ent j xa[j] (List.getElem?_eq_getElem hj) x hx).1).1
      have hcount := cur_counts (ph := ph) hE S.hf hmem.1 ha fun h => (htop0 (h.elim id fun hp => hnr.resolve_left (by rw [hp]; simp))).2
      have hst : f = 0 → (E.y f ph).stg = .ask := fun h0 => by
        subst h0
        show E.stg 0 = _
        unfold WE.stg
        split <;> rfl
      have hnread : (E.y f ph).stg ≠ .read := by
        show E.stg f ≠ _
        have hf := S.hf
        unfold WE.stg
        unfold WE.last at hf
        split
        · rename_i hp
          rw [if_pos hp] at hf
          have hf3 : f = 0 ∨ f = 1 ∨ f = 2 := by omega
          rcases hf3 with rfl | rfl | rfl <;> simp [stgOf]
        · rename_i hp
          rw [if_pos (hnr.resolve_left hp)]
          simp
      have hnew : a.sv ∉ (lr L).map (·.1) := by rw [hasv]; exact hmem.2
      have hpl : lput (lr L) a.sv (repl (E.y f ph) (lr L) a) = lr (L ++ [((j : Int), repl (E.y f ph) (lr L) a, [])]) := by
        rw [lput_new hnew, hasv]
        unfold lr
        rw [List.map_append]
        rfl
      have hz : E.fact f (xa.set j (plAns xa[j] (E.req f (j : Int))).1) ((j : Int), repl (E.y f ph) (lr L) a, []) := fact_new S.hf hnr hj fun h0 => by
        unfold repl
        rw [if_pos (hst h0), llook_notin hnew]
        show Tg.zero.max a.top = _
        rw [Tg.max_zero (htop0 h0).2]
        exact (htop0 h0).1
      rw [hkey ((j : Int), repl (E.y f ph) (lr L) a, []) rfl] at hp'
      rw [rd_no (hnr.imp id fun h => by omega)] at H
      have H := H.ent (Ent.star (Ent.refl _) (Ent.star (Ent.refl _) (Ent.star (Ent.refl _) (Ent.star (Ent.refl _) emp_l'))))
      rw [← cl_cfg (f := f) hE] at H
      refine Rt.mono (handle_c (x := E.cl f) (y := E.y f ph) (L := lr L) (m := a) (Cd := E.Cd) (Pm := E.Pm (qa.eraseIdx i) (xa.set j (plAns xa[j] (E.req f (j : Int))).1) (cnt + 1)) hok hnow hcount hnread (fun hq w F H => ?_) H) ?_
      · rw [hpl, cl_cfg hE] at H
        rw [hpl, hqq, lr_len, List.length_append, List.length_singleton] at hq
        exact metN_c hE S hi P hp' hz (by omega) hnr H
      · rw [hpl]
        rintro _ w' (⟨hlt, rfl, H⟩ | ⟨_, r, R, e, A', rfl, hPm, H⟩)
        · rw [hqq, lr_len, List.length_append, List.length_singleton] at hlt
          rw [cl_cfg hE] at H
          refine out_more (a := a) ⟨f, ph, _, S.more hi P hp' hz (by omega), rfl⟩ ?_
          unfold WE.A
          rw [rd_no (hnr.imp id fun h => by omega)]
          exact H.ent to4
        · exact out_pm hPm H
    · -- where it is read
      have hp : E.put = false := by
        cases hb : E.put with
        | false => rfl
        | true => exact absurd (.inl hb) hnr
      have hf1 : f = 1 := by
        have hf := S.hf
        unfold WE.last at hf
        rw [if_neg (by rw [hp]; simp)] at hf
        have : f ≠ 0 := fun e => hnr (.inr e)
        omega
      subst hf1
      have hk7 : (E.req 1 (j : Int)).k = 7 := by rw [r1]; exact (kd_vals S.hf).2.2.2.2.1.2 ⟨hp, rfl⟩
      obtain ⟨t1, t2, h, hm, ht, hh, hb⟩ := ans7 (l := xa[j]) hk7
      have hxb : (xa.set j (plAns xa[j] (E.req 1 (j : Int))).1)[j]? = some (plAns xa[j] (E.req 1 (j : Int))).1 := by rw [List.getElem?_set, if_pos rfl, if_pos hj]
      have hz := fun s => fact_read S.hf hp rfl hj rfl P ha s
      have hbs : a.bs.length ≤ 65536 := by
        have e : a.bs = h.bs := (congrArg Am.bs ha).trans hb
        rw [e]
        exact (P.srv.ent j _ hxb h hm).2.2
      have hcount := cur_counts (ph := ph) hE S.hf hmem.1 ha fun _ => by
        rw [(hz Slc.nil).2]
        exact plTop_valid fun x hx => (hE.val _ (P.srv.ent j _ hxb x hx).1).1
      have hst : (E.y 1 ph).stg = .read := by show E.stg 1 = _; unfold WE.stg; rw [if_neg (by rw [hp]; simp), if_neg (by decide)]
      have hnew : a.sv ∉ (lr L).map (·.1) := by rw [hasv]; exact hmem.2
      rw [rd_yes hp] at H
      have H := (((((H.take E.Cd).take (mdA a)).take (all rdD L)).take (phA ph (E.c, lr L))).take (opnA E.o (E.y 1 ph))).take (cliA E.p (E.cl 1))
      rw [← cl_cfg (f := 1) hE] at H
      refine Rt.mono (handleR_c (x := E.cl 1) (y := E.y 1 ph) (L := L) (m := a) (Vp := mdA a) (Cd := E.Cd) (Pm := E.Pm (qa.eraseIdx i) (xa.set j (plAns xa[j] (E.req 1 (j : Int))).1) (cnt + 1)) (fun {w' A2} H => (by have H : Hp w0 w' (star (own Ty_uint8 1 a.data (a.bs.map u8v)) A2) := H; exact H.cel (s := a.data))) (by omega) hok hnow hcount hst hnew (fun hq s w F H => ?_) H) ?_
      · rw [cl_cfg hE] at H
        rw [hqq] at hq
        refine metR_c hE S P (by rw [← hkey (rdR' a s) hasv]; exact hp') (hz s).1 (by omega) hp H
      · rintro _ w' (⟨hlt, rfl, s, H⟩ | ⟨_, r, R, e, A', rfl, hPm, H⟩)
        · rw [hqq] at hlt
          rw [cl_cfg hE] at H
          refine out_more (a := a) ⟨1, ph, _, S.more hi P (by rw [← hkey (rdR' a s) hasv]; exact hp') (hz s).1 (by omega), rfl⟩ ?_
          unfold WE.A
          rw [rd_yes hp]
          have H := (((((H.take (all rdD (L ++ [rdR' a s]))).take E.Cd).take (phA (E.y 1 ph).ph (E.c, lr (L ++ [rdR' a s])))).take (opnA E.o (E.y 1 ph))).take (cliA E.p (E.cl 1)))
          exact H.ent as4
        · exact out_pm hPm H
theorem wquiet_c {tp : Nat} {l P sv : Slc} {ql : List Ms} {xs : List Pl} {ps : List Int} {N K D : Int} (hE : WEok E w0) (hP : Cel w0 P 1 (ps.map iK)) (S : E.J (ql.map Ms.abs) (xs.map Pl.abs) A 0) (H : Hp w0 w (star (msgsA l ql) (tnA tp sv xs N K D (star A F)))) :
    Calls PP F_sherdlaw18_Town_quiet #[.pointer (some (blk tp)), .pointer (some (blk E.p)), l.v, P.v] w (Rt fun v w' => ∃ R vb xs' A2, v = .tuple #[Rs.v R, .bool true] ∧ E.Post R vb (xs'.map Pl.abs) A2 ∧ Hp w0 w' (star (own Ty_uint8 1 R.val (vb.map u8v)) (tnA tp sv xs' N K D (star A2 F)))) :=
  quiet_c (J := E.J) (Post := E.Post) (fun qa xa A cnt h => by
    obtain ⟨f, ph, L, S, -⟩ := h
    obtain ⟨h1, h2, h3, h4, h5⟩ := S.oks hE
    exact ⟨h1, h2, by omega, h4, h5⟩) (fun qa xa A cnt i j hi hj a hsv hJ ha {w F} H => whandle_c hE hi hj hsv hJ ha H) hP S H
end
end Go.Proofs.YtabifopphhpciaaGreatDoor

namespace Go.Proofs.YtabifopphhpciaaGreatDoor
open Go Go.Vc Go.Vc.Asn Go.Gf
def idN (is : List Int) (i : Nat) : Int := match is[i]? with | some k => modI k 5 + 1 | none => 1
theorem idN_bounds (is : List Int) (i : Nat) : 1 ≤ idN is i ∧ idN is i ≤ 5 := by
  unfold idN
  split
  · rename_i k _
    have := modI_bounds (k := k) (n := 5) (by decide)
    omega
  · decide
section
variable {w0 w : World} {F Vp : Asn} {s : Slc} {is : List Int} {p i : Nat} {x : Cl}
theorem idN_c {a b : Int} {V Pk : Slc} (hI : Cel w s 1 (is.map iK)) : Calls PP F_sherdlaw18_Tale_id #[.agg #[.int .i64 a, .int .i64 b, V.v, s.v, Pk.v], .int .i64 (i : Int)] w (Rt fun v w' => v = .int .i64 (idN is i) ∧ Fr [] w w') := by
  refine sim_sherdlaw18_Tale_id _ _ _ _ _ _ _ _ ?_
  unfold vc_sherdlaw18_Tale_id
  have hl := hI.len
  simp only [List.length_map] at hl
  refine nw fun b w1 _ f1 => ⟨fun h => ?_, fun h => ?_⟩
  · have h := of_decide_eq_true h
    have hlt : i < is.length := by omega
    obtain ⟨a, ha, hc⟩ := (hI.fr0 f1).at_ i (iK is[i]) (by simp [List.getElem?_eq_getElem hlt])
    refine ⟨a, ha, by omega, by omega, _, by rw [Int.toNat_natCast, Nat.mul_one]; exact hc, call (mod_c (by decide) (by decide)) ?_⟩
    rintro _ _ ⟨rfl, rfl⟩
    have := modI_bounds (k := is[i]) (n := 5) (by decide)
    refine ⟨_, rfl, Rt.ok ⟨?_, f1⟩⟩
    rw [wr64 (by omega) (by omega)]
    unfold idN
    rw [List.getElem?_eq_getElem hlt]
  · have h := of_decide_eq_false h
    refine Rt.ok ⟨?_, f1⟩
    unfold idN
    rw [List.getElem?_eq_none (by omega)]
theorem tickNo_c (hnow : x.now = none) (H : Hp w0 w (star (cliA p x) F)) : Calls PP F_client_Client_Tick #[.pointer (some (blk p))] w (Rt fun v w' => v = Slc.v Slc.nil ∧ Fr [] w w') := by
  obtain ⟨gm, H⟩ := cl_open H
  refine sim_client_Client_Tick _ _ _ ?_
  unfold vc_client_Client_Tick
  exact ⟨true, fun _ => ⟨_, rfl, _, H.cell (b := p) (i := 7) rfl, by rw [hnow]; rfl⟩, fun _ => rfl, fun _ => Rt.ok ⟨rfl, .refl _ _⟩, fun h => by simp at h⟩
end
structure CS where
  p : Nat
  cd : Nat
  g : Nat
  sc : Slc
  rs : Rws
  x : Cl
abbrev kK : ByteArray := ByteArray.mk #[107]
def csA (n k : Nat) (c : CS) : Asn := star (cliA c.p c.x) (codeA c.cd c.g c.sc c.rs n k)
structure CsOk (n k : Nat) (cfg : Cfg) (id : Int) (b m : Int) (c : CS) : Prop where
  gen : Gen n k (mt c.rs)
  cfg_ : c.x.cfg = cfg
  id_ : c.x.id = id
  cd_ : c.x.cd = c.cd
  now : c.x.now = none
  o0 : 0 ≤ c.x.ops
  o1 : c.x.ops ≤ m
  u0 : 0 ≤ usedOf c.x kK
  u1 : usedOf c.x kK ≤ b
def weG (n q k : Nat) (cfg : Cfg) (c : CS) (o : Nat) (val : Slc) (T : List Tg) (V : Tg → List UInt8) (top : Tg) (B : Nat) (xa : List (List Ha)) : WE :=
  ⟨n, q, k, cfg, c.p, c.cd, c.g, c.sc, c.rs, ⟨c.x.cfg, c.x.id, c.x.cd, c.x.ops + 1, c.x.used, some o⟩, o, val, kK, [], false, T, V, top, top, B, xa⟩
def wePT (c : CS) (top : Tg) : Tg := top.next (usedOf c.x kK) c.x.id
def weP (n q k : Nat) (cfg : Cfg) (c : CS) (o : Nat) (val : Slc) (bs : List UInt8) (T : List Tg) (V : Tg → List UInt8) (top : Tg) (B : Nat) (xa : List (List Ha)) : WE :=
  ⟨n, q, k, cfg, c.p, c.cd, c.g, c.sc, c.rs, ⟨c.x.cfg, c.x.id, c.x.cd, c.x.ops + 1, c.x.used, some o⟩, o, val, kK, bs, true, wePT c top :: T, (fun t => if t = wePT c top then bs else V t), top, wePT c top, B, xa⟩
theorem Calm.congr {n q k B : Nat} {R : List (List UInt8)} {T : List Tg} {V V' : Tg → List UInt8} {top : Tg} {xa : List (List Ha)} (C : Calm n q k R T V top B xa) (h : ∀ t ∈ T, V' t = V t) : Calm n q k R T V' top B xa :=
  ⟨⟨C.srv.len, C.srv.sz, fun j l hl x hx => by
    obtain ⟨h1, h2, h3⟩ := C.srv.ent j l hl x hx
    exact ⟨h1, by rw [h _ h1]; exact h2, h3⟩⟩, C.le, C.val, C.fin, C.zero⟩
theorem Srv.sub {n k B : Nat} {R : List (List UInt8)} {T T' : List Tg} {V : Tg → List UInt8} {xa : List (List Ha)} (S : Srv n k R T V B xa) (h : ∀ t ∈ T, t ∈ T') : Srv n k R T' V B xa :=
  ⟨S.len, S.sz, fun j l hl x hx => by
    obtain ⟨h1, h2, h3⟩ := S.ent j l hl x hx
    exact ⟨h _ h1, h2, h3⟩⟩
theorem Calm.start {n q k : Nat} {R : List (List UInt8)} {V : Tg → List UInt8} {xa : List (List Ha)} (hl : xa.length = n) (h0 : ∀ l ∈ xa, l = []) : Calm n q k R [] V Tg.zero 0 xa :=
  ⟨⟨hl, fun l h => by rw [h0 l h]; exact Nat.le_refl _, fun j l hl x hx => by rw [h0 l (List.mem_of_getElem? hl)] at hx; exact (nomatch hx)⟩, fun _ h => (nomatch h), fun _ h => (nomatch h), fun h => absurd rfl h, fun _ => rfl⟩
section
variable {E : WE} {w0 w : World} {F : Asn} {ph : Nat}
theorem J_start (hE : WEok E w0) {ms : List Ms} (hms : ms.map Ms.abs = (allOf E.n).map (E.req 0)) : E.J (ms.map Ms.abs) E.xa (E.A 0 ph []) 0 := by
  obtain ⟨n1, n2, n3, n4, n5, n6⟩ := hE.nums
  obtain ⟨T0, hT0, C, hT⟩ := hE.T0
  refine ⟨0, ph, [], ⟨Nat.zero_le _, ?_, ?_, by show 0 < E.q; omega, Srv.more (Srv.sub C.srv hT0) (Nat.le_refl _), fun _ => rfl, .refl _, fun _ h => (nomatch h), fun _ h => (nomatch h), fun h => absurd rfl h⟩, rfl⟩
  · rw [hms, List.length_map, allOf_len, Nat.mul_succ, Nat.sub_zero]
    omega
  · rw [hms]
    exact Pend.start fun j hj => req_ok hE (Nat.zero_le _) (fun h => absurd rfl h) hj
end
theorem next_lt (t : Tg) (u c : Int) : t.n < (t.next u c).n ∨ (t.n = (t.next u c).n ∧ t.c < (t.next u c).c) := by
  unfold Tg.next
  dsimp only
  split <;> split <;> omega
theorem next_n {t : Tg} {u c b : Int} (h0 : 0 ≤ u) (h1 : t.n ≤ b) (h2 : u ≤ b) : 1 ≤ (t.next u c).n ∧ (t.next u c).n ≤ b + 1 := by
  unfold Tg.next
  dsimp only
  split <;> split <;> omega
theorem wePT_le {c : CS} {top t : Tg} (h : t.le top) : t.le (wePT c top) ∧ t ≠ wePT c top := by
  have := next_lt top (usedOf c.x kK) c.x.id
  unfold Tg.le at h ⊢
  unfold wePT
  refine ⟨by omega, fun e => ?_⟩
  rw [← e] at this
  omega
section
variable {w0 w : World} {F Vp : Asn} {n q k B : Nat} {cfg : Cfg} {id b m : Int} {c : CS} {T : List Tg} {V : Tg → List UInt8} {top : Tg} {xa : List (List Ha)} {bs : List UInt8} {s : Slc}
structure LwOk (w0 : World) (n q k : Nat) (cfg : Cfg) : Prop where
  G : ErrG w0
  ok : cfg.Ok
  hn : cfg.N = (n : Int)
  hk : cfg.K = (k : Int)
  n7 : n ≤ 7
  k1 : 1 ≤ k
  kn : k ≤ n
  q_ : (cfg.N + cfg.K + 1) / 2 = (q : Int)
theorem weG_ok {o : Nat} {val : Slc} (hL : LwOk w0 n q k cfg) (hc : CsOk n k cfg id b m c) (hid : 1 ≤ id) (hid2 : id ≤ 65535) (C : Calm n q k (mt c.rs) T V top B xa) (hB : B ≤ 900000) (hnz : T ≠ [] → top ≠ Tg.zero) (hV : (V top).length ≤ 65536) : WEok (weG n q k cfg c o val T V top B xa) w0 :=
  ⟨fun H => rdCode hc.gen hL.k1 hL.kn (Nat.le_trans hL.n7 (by decide)) H, hL.G, hL.ok, hc.cfg_, rfl, hc.cd_, hL.hn, hL.hk, hL.n7, hL.q_, by show 1 ≤ c.x.id; rw [hc.id_]; exact hid, by show c.x.id ≤ 65535; rw [hc.id_]; exact hid2, Nat.zero_le _, hB, ⟨T, fun _ h => h, C, fun _ => rfl⟩, fun t ht => ⟨C.val t ht, C.le t ht⟩, fun h => (nomatch h), fun _ => ⟨rfl, hV⟩, hnz⟩
theorem weP_ok {o : Nat} {val : Slc} (hL : LwOk w0 n q k cfg) (hc : CsOk n k cfg id b m c) (hid : 1 ≤ id) (hid2 : id ≤ 65535) (C : Calm n q k (mt c.rs) T V top B xa) (hB : B ≤ 900000) (hb : bs.length ≤ 300) (ht : top.n ≤ b) (hb2 : b ≤ 1000) : WEok (weP n q k cfg c o val bs T V top B xa) w0 := by
  have hn := next_n (c := c.x.id) hc.u0 ht hc.u1
  have hu0 := hc.u0
  have hu1 := hc.u1
  have hnv : (wePT c top).valid = true := by
    show (top.next (usedOf c.x kK) c.x.id).valid = true
    unfold Tg.valid Tg.proper
    have e : (top.next (usedOf c.x kK) c.x.id).c = id := hc.id_
    rw [e]
    simp only [Bool.or_eq_true, Bool.and_eq_true, decide_eq_true_eq]
    right
    omega
  refine ⟨fun H => rdCode hc.gen hL.k1 hL.kn (Nat.le_trans hL.n7 (by decide)) H, hL.G, hL.ok, hc.cfg_, rfl, hc.cd_, hL.hn, hL.hk, hL.n7, hL.q_, by show 1 ≤ c.x.id; rw [hc.id_]; exact hid, by show c.x.id ≤ 65535; rw [hc.id_]; exact hid2, hb, hB, ⟨T, fun _ h => List.mem_cons_of_mem _ h, C.congr fun t ht => if_neg (wePT_le (C.le t ht)).2, fun h => (nomatch h)⟩, fun t ht => ?_, fun _ => ⟨List.mem_cons_self .., if_pos rfl, rfl, hu0, by show usedOf c.x kK ≤ _; omega, by show (top.next (usedOf c.x kK) c.x.id).n ≤ _; omega⟩, fun h => (nomatch h), fun _ e => ?_⟩
  · rcases List.mem_cons.1 ht with rfl | ht
    · exact ⟨hnv, Tg.le_refl _⟩
    · exact ⟨C.val t ht, (wePT_le (C.le t ht)).1⟩
  · have e : wePT c top = Tg.zero := e
    have : (top.next (usedOf c.x kK) c.x.id).n = 0 := by
      show (wePT c top).n = 0
      rw [e]; rfl
    omega
theorem getS_c (hL : LwOk w0 n q k cfg) (hc : CsOk n k cfg id b m c) (hm : m ≤ 1000) (hid : 1 ≤ id) (hid2 : id ≤ 65535) (C : Calm n q k (mt c.rs) T V top B xa) (hB : B ≤ 900000) (hnz : T ≠ [] → top ≠ Tg.zero) (hV : (V top).length ≤ 65536) (H : Hp w0 w (star (csA n k c) F)) :
    Calls PP F_client_Client_Get #[.pointer (some (blk c.p)), .string kK] w (Rt fun z w' => ∃ (o : Nat) (val r : Slc) (ms : List Ms) (A : Asn), z = .tuple #[.int .i64 (c.x.ops + 1), Slc.v r, .int .i64 0] ∧ WEok (weG n q k cfg c o val T V top B xa) w0 ∧
      (weG n q k cfg c o val T V top B xa).J (ms.map Ms.abs) xa A 0 ∧ Hp w0 w' (star (msgsA r ms) (star A F))) := by
  have h1 := hc.o1
  have n7 := hL.n7
  have hok := hL.ok
  have hhn := hL.hn
  rw [← hc.cfg_] at hok hhn
  refine Rt.mono (get_c (x := c.x) (n := n) (k := k) (g := c.g) (sc := c.sc) (rs := c.rs) (Cd := codeA c.cd c.g c.sc c.rs n k) (fun H => by rw [hc.cd_]; exact rdCode hc.gen hL.k1 hL.kn (by omega) H) hok hhn (by omega) hc.now hc.o0 (by omega) (by decide) (by decide) H.assoc) ?_
  rintro _ w' ⟨o, val, ph, r, ms, rfl, hms, H⟩
  have hE := weG_ok (o := o) (val := val) hL hc hid hid2 C hB hnz hV
  refine ⟨o, val, r, ms, _, rfl, hE, J_start (ph := ph) hE hms, ?_⟩
  rw [hc.cfg_] at H
  have H2 := (H.ent (Ent.star (Ent.refl _) to4))
  unfold WE.A
  rw [rd_no (.inr (by decide))]
  unfold weG
  rw [hc.cfg_]
  exact H2
theorem putS_c (hV : ∀ {w' : World} {A' : Asn}, Hp w0 w' (star Vp A') → Byt w' s bs) (hL : LwOk w0 n q k cfg) (hc : CsOk n k cfg id b m c) (hm : m ≤ 1000) (hid : 1 ≤ id) (hid2 : id ≤ 65535) (C : Calm n q k (mt c.rs) T V top B xa) (hB : B ≤ 900000) (hb : bs.length ≤ 300) (ht : top.n ≤ b) (hb2 : b ≤ 1000) (H : Hp w0 w (star (csA n k c) (star Vp F))) :
    Calls PP F_client_Client_Put #[.pointer (some (blk c.p)), .string kK, s.v] w (Rt fun z w' => ∃ (o : Nat) (val r : Slc) (ms : List Ms) (A : Asn), z = .tuple #[.int .i64 (c.x.ops + 1), Slc.v r, .int .i64 0] ∧ WEok (weP n q k cfg c o val bs T V top B xa) w0 ∧
      (weP n q k cfg c o val bs T V top B xa).J (ms.map Ms.abs) xa A 0 ∧ Hp w0 w' (star (msgsA r ms) (star A F))) := by
  have h1 := hc.o1
  have n7 := hL.n7
  have hok := hL.ok
  have hhn := hL.hn
  rw [← hc.cfg_] at hok hhn
  refine Rt.mono (put_c (x := c.x) (n := n) (k := k) (g := c.g) (sc := c.sc) (rs := c.rs) (Vp := Vp) (Cd := codeA c.cd c.g c.sc c.rs n k) (fun H => by rw [hc.cd_]; exact rdCode hc.gen hL.k1 hL.kn (by omega) H) hV hok hhn (by omega) hc.now hc.o0 (by omega) (by decide) (by decide) (by omega) ((H.assoc.take Vp).take (cliA c.p c.x) |>.swap |> fun H => (((H.take (codeA c.cd c.g c.sc c.rs n k)).take Vp).take (cliA c.p c.x)))) ?_
  rintro _ w' ⟨o, val, ph, r, ms, rfl, hms, H⟩
  have hE := weP_ok (o := o) (val := val) (bs := bs) hL hc hid hid2 C hB hb ht hb2
  refine ⟨o, val, r, ms, _, rfl, hE, J_start (ph := ph) hE hms, ?_⟩
  have H := (H.take Vp).drop
  rw [hc.cfg_] at H
  have H2 := (H.ent (Ent.star (Ent.refl _) to4))
  unfold WE.A
  rw [rd_no (.inr (by decide))]
  unfold weP
  rw [hc.cfg_]
  exact H2
end
end Go.Proofs.YtabifopphhpciaaGreatDoor

namespace Go.Proofs.YtabifopphhpciaaGreatDoor
open Go Go.Vc Go.Vc.Asn Go.Gf
section
variable {w0 w : World} {F A : Asn} {n q k B o tp : Nat} {cfg : Cfg} {id b m N K D : Int} {c : CS} {T : List Tg} {V : Tg → List UInt8} {top : Tg} {xa xb : List (List Ha)} {xs : List Pl} {bs vb : List UInt8} {val l P sv : Slc} {ql : List Ms} {ps : List Int} {R : Rs}
structure Rest (n q k : Nat) (cfg : Cfg) (id b m : Int) (c c' : CS) (T : List Tg) (V : Tg → List UInt8) (top : Tg) (B : Nat) (xb : List (List Ha)) : Prop where
  cs : CsOk n k cfg id b m c'
  p : c'.p = c.p
  rs : c'.rs = c.rs
  calm : Calm n q k (mt c.rs) T V top B xb
theorem postG (hc : CsOk n k cfg id b m c) (h : (weG n q k cfg c o val T V top B xa).Post R vb xb A) : ∃ c', Rest n q k cfg id b (m + 1) c c' T V top (B + 22) xb ∧ A = csA n k c' ∧ R.put = false ∧ R.status = (if T = [] then 76 else 0) ∧ R.tag = top ∧ vb = (if T = [] then [] else V top) := by
  obtain ⟨o2, rfl, hv, C, rfl⟩ := h
  have h0 := hc.o0
  have h1 := hc.o1
  refine ⟨⟨c.p, c.cd, c.g, c.sc, c.rs, ⟨c.x.cfg, c.x.id, c.x.cd, c.x.ops + 1, c.x.used, none⟩⟩, ⟨⟨hc.gen, hc.cfg_, hc.id_, hc.cd_, rfl, by show 0 ≤ c.x.ops + 1; omega, by show c.x.ops + 1 ≤ _; omega, hc.u0, hc.u1⟩, rfl, rfl, C⟩, rfl, rfl, ?_, rfl, ?_⟩
  · show (if false = false ∧ T = [] then (76 : Int) else 0) = _
    by_cases hT : T = [] <;> simp [hT]
  · rw [hv]
    show (if false = false ∧ T ≠ [] then V top else []) = _
    by_cases hT : T = [] <;> simp [hT]
theorem postP (hc : CsOk n k cfg id b m c) (ht : top.n ≤ b) (h : (weP n q k cfg c o val bs T V top B xa).Post R vb xb A) : ∃ c', Rest n q k cfg id (b + 1) (m + 1) c c' (wePT c top :: T) (fun t => if t = wePT c top then bs else V t) (wePT c top) (B + 22) xb ∧ A = csA n k c' ∧ R.put = true ∧ R.status = 0 ∧ R.tag = wePT c top ∧ vb = [] := by
  obtain ⟨o2, rfl, hv, C, rfl⟩ := h
  have h0 := hc.o0
  have h1 := hc.o1
  have hn := next_n (c := c.x.id) hc.u0 ht hc.u1
  have e : usedOf ⟨c.x.cfg, c.x.id, c.x.cd, c.x.ops + 1, lput c.x.used kK (wePT c top).n, none⟩ kK = (wePT c top).n := by
    unfold usedOf
    show (llook (lput c.x.used kK (wePT c top).n) kK).getD 0 = _
    rw [llook_put, if_pos rfl]
    rfl
  refine ⟨⟨c.p, c.cd, c.g, c.sc, c.rs, ⟨c.x.cfg, c.x.id, c.x.cd, c.x.ops + 1, lput c.x.used kK (wePT c top).n, none⟩⟩, ⟨⟨hc.gen, hc.cfg_, hc.id_, hc.cd_, rfl, by show 0 ≤ c.x.ops + 1; omega, by show c.x.ops + 1 ≤ _; omega, by rw [e]; show 0 ≤ (top.next (usedOf c.x kK) c.x.id).n; omega, by rw [e]; exact hn.2⟩, rfl, rfl, C⟩, rfl, rfl, rfl, rfl, ?_⟩
  rw [hv]
  rfl
theorem quietG_c (hc : CsOk n k cfg id b m c) (hE : WEok (weG n q k cfg c o val T V top B (xs.map Pl.abs)) w0) (hP : Cel w0 P 1 (ps.map iK)) (S : (weG n q k cfg c o val T V top B (xs.map Pl.abs)).J (ql.map Ms.abs) (xs.map Pl.abs) A 0) (H : Hp w0 w (star (msgsA l ql) (tnA tp sv xs N K D (star A F)))) :
    Calls PP F_sherdlaw18_Town_quiet #[.pointer (some (blk tp)), .pointer (some (blk c.p)), l.v, P.v] w (Rt fun v w' => ∃ R xs' c', v = .tuple #[Rs.v R, .bool true] ∧ Rest n q k cfg id b (m + 1) c c' T V top (B + 22) (xs'.map Pl.abs) ∧ R.put = false ∧ R.status = (if T = [] then 76 else 0) ∧ R.tag = top ∧
      Hp w0 w' (star (own Ty_uint8 1 R.val ((if T = [] then [] else V top).map u8v)) (tnA tp sv xs' N K D (star (csA n k c') F)))) := by
  have h := wquiet_c (E := weG n q k cfg c o val T V top B (xs.map Pl.abs)) hE hP S H
  refine Rt.mono h ?_
  rintro _ w' ⟨R, vb, xs', A2, rfl, hPo, H⟩
  obtain ⟨c', h1, rfl, h2, h3, h4, rfl⟩ := postG hc hPo
  exact ⟨R, xs', c', rfl, h1, h2, h3, h4, H⟩
theorem quietP_c (hc : CsOk n k cfg id b m c) (ht : top.n ≤ b) (hE : WEok (weP n q k cfg c o val bs T V top B (xs.map Pl.abs)) w0) (hP : Cel w0 P 1 (ps.map iK)) (S : (weP n q k cfg c o val bs T V top B (xs.map Pl.abs)).J (ql.map Ms.abs) (xs.map Pl.abs) A 0) (H : Hp w0 w (star (msgsA l ql) (tnA tp sv xs N K D (star A F)))) :
    Calls PP F_sherdlaw18_Town_quiet #[.pointer (some (blk tp)), .pointer (some (blk c.p)), l.v, P.v] w (Rt fun v w' => ∃ R xs' c', v = .tuple #[Rs.v R, .bool true] ∧ Rest n q k cfg id (b + 1) (m + 1) c c' (wePT c top :: T) (fun t => if t = wePT c top then bs else V t) (wePT c top) (B + 22) (xs'.map Pl.abs) ∧ R.put = true ∧ R.status = 0 ∧ R.tag = wePT c top ∧
      Hp w0 w' (star (own Ty_uint8 1 R.val []) (tnA tp sv xs' N K D (star (csA n k c') F)))) := by
  have h := wquiet_c (E := weP n q k cfg c o val bs T V top B (xs.map Pl.abs)) hE hP S H
  refine Rt.mono h ?_
  rintro _ w' ⟨R, vb, xs', A2, rfl, hPo, H⟩
  obtain ⟨c', h1, rfl, h2, h3, h4, rfl⟩ := postP hc ht hPo
  exact ⟨R, xs', c', rfl, h1, h2, h3, h4, H⟩
def csV (c : CS) : Value := .pointer (some (blk c.p))
structure CsAll (n k : Nat) (cfg : Cfg) (b m : Int) (l : List CS) : Prop where
  each : ∀ j (h : j < l.length), CsOk n k cfg ((j : Int) + 1) b m l[j]
theorem CsOk.mono {b' m' : Int} (h : CsOk n k cfg id b m c) (hb : b ≤ b') (hm : m ≤ m') : CsOk n k cfg id b' m' c :=
  ⟨h.gen, h.cfg_, h.id_, h.cd_, h.now, h.o0, Int.le_trans h.o1 hm, h.u0, Int.le_trans h.u1 hb⟩
theorem CsAll.set {b' m' : Int} {l : List CS} (h : CsAll n k cfg b m l) (hb : b ≤ b') (hm : m ≤ m') {j : Nat} {c' : CS} (hc : CsOk n k cfg ((j : Int) + 1) b' m' c') : CsAll n k cfg b' m' (l.set j c') := by
  refine ⟨fun i hi => ?_⟩
  rw [List.length_set] at hi
  by_cases e : j = i
  · subst e
    rw [List.getElem_set_self]
    exact hc
  · rw [List.getElem_set_ne e]
    exact (h.each i hi).mono hb hm
theorem csV_set {l : List CS} {j : Nat} (hj : j < l.length) {c' : CS} (hp : c'.p = l[j].p) : (l.set j c').map csV = l.map csV := by
  refine List.ext_getElem (by simp) fun i h1 h2 => ?_
  rw [List.getElem_map, List.getElem_map]
  by_cases e : j = i
  · subst e
    rw [List.getElem_set_self]
    unfold csV
    rw [hp]
  · rw [List.getElem_set_ne e]
structure LwSt (n q k : Nat) (cfg : Cfg) (R : List (List UInt8)) (T : List Tg) (V : Tg → List UInt8) (top : Tg) (B : Nat) (b m : Int) (cs : List CS) (xs : List Pl) : Prop where
  all_ : CsAll n k cfg b m cs
  len : cs.length = 6
  calm : Calm n q k R T V top B (xs.map Pl.abs)
  gen : Gen n k R
  nz : T ≠ [] → top ≠ Tg.zero
  tn : top.n ≤ b
  vl : (V top).length ≤ 300
abbrev lxA (b7 tp : Nat) (a b : Int) (V I P cl sv : Slc) (n k : Nat) (cs : List CS) (xs : List Pl) (N K D : Int) (F : Asn) : Asn :=
  star (bk b7 Ty_sherdlaw18_Tale #[.int .i64 a, .int .i64 b, V.v, I.v, P.v]) (star (own Ty_p_client_Client 1 cl (cs.map csV)) (tnA tp sv xs N K D (star (all (csA n k) cs) F)))
end
end Go.Proofs.YtabifopphhpciaaGreatDoor

namespace Go.Proofs.YtabifopphhpciaaGreatDoor
open Go Go.Vc Go.Vc.Asn Go.Gf
def wrGC (c22 : Slc) (b7 : Nat) (t12 : Option Addr) (b116 b178 : Nat) (i121 : Int) (w194 : World) (Q : Ending → World → Prop) (K : World → Prop) : Prop :=
  ∃ a196 : Addr, c22.a = some a196 ∧ (0 : Int) ≤ 5 ∧ (5 : Int) < c22.l ∧ ∃ l200, cP w194 (a196.add (Int.toNat (5) * 1)) l200 ∧ Calls PP F_client_Client_Get #[(.pointer l200), (.string (ByteArray.mk #[107]))] w194 (CallK (fun v275 w202 => ∃ G203 : Int, ∃ G204 : Slc, ∃ G205 : Int, v275 = (.tuple #[(.int .i64 G203), (Slc.v G204), (.int .i64 G205)]) ∧ ∃ a207 : Addr, c22.a = some a207 ∧ (0 : Int) ≤ 5 ∧ (5 : Int) < c22.l ∧ ∃ l211, cP (w202.drewN 1) (a207.add (Int.toNat (5) * 1)) l211 ∧ ∃ l213, cS (w202.drewN 1) ((blk b7).add 4) l213 ∧ Calls PP F_sherdlaw18_Town_quiet #[(.pointer t12), (.pointer l211), (Slc.v G204), (Slc.v l213)] (w202.drewN 1) (CallK (fun v271 w215 => ∃ O216 : Int, ∃ P217 : Bool, ∃ S218 : Int, ∃ C219 : Int, ∃ C220 : Int, ∃ V221 : Slc, ∃ q222 : Bool, v271 = (.tuple #[(.agg #[(.int .i64 O216), (.bool P217), (.int .i64 S218), (.int .i64 C219), (.int .i64 C220), (Slc.v V221)]), (.bool q222)]) ∧ StoN (blk b178) 0 [(.int .i64 O216), (.bool P217), (.int .i64 S218), (.int .i64 C219), (.int .i64 C220), (Slc.v V221)] w215 fun w223 => ∃ R226 : Bool → World → Prop, ((((decide (G205 ≠ 0)) = true → R226 true (w223.drewN 1)) ∧ ((decide (G205 ≠ 0)) = false → (((!q222) = true → R226 true (w223.drewN 1)) ∧ ((!q222) = false → ∃ l233, cI (w223.drewN 1) ((blk b178).add 2) l233 ∧ (((decide (l233 ≠ 0)) = true → R226 true (w223.drewN 1)) ∧ ((decide (l233 ≠ 0)) = false → ∃ l236, cB (w223.drewN 1) ((blk b178).add 1) l236 ∧ ((l236 = true → R226 true (w223.drewN 1)) ∧ (l236 = false → ∃ C239, cI (w223.drewN 1) (((blk b178).add 3).add 0) C239 ∧ ∃ C241, cI (w223.drewN 1) (((blk b178).add 3).add 1) C241 ∧ ∃ C243, cI (w223.drewN 1) ((blk b116).add 0) C243 ∧ ∃ C245, cI (w223.drewN 1) ((blk b116).add 1) C245 ∧ (((!(decide (C239 = C243) && (decide (C241 = C245)))) = true → R226 true (w223.drewN 1)) ∧ ((!(decide (C239 = C243) && (decide (C241 = C245)))) = false → ∃ l248, cS (w223.drewN 1) ((blk b178).add 5) l248 ∧ ToStr PP Ty_sl_uint8 Ty_string (w223.drewN 1) (Slc.v l248) fun s250 => ∃ l252, cS (w223.drewN 1) ((blk b7).add 2) l252 ∧ ∃ a254 : Addr, l252.a = some a254 ∧ (0 : Int) ≤ i121 ∧ (i121 : Int) < l252.l ∧ ∃ l258, cS (w223.drewN 1) (a254.add (Int.toNat (i121) * 1)) l258 ∧ Calls PP F_sherdlaw18_value #[(Slc.v l258)] (w223.drewN 1) (CallK (fun v266 w260 => ∃ v261 : Slc, v266 = (Slc.v v261) ∧ cS w260 ((blk b178).add 5) l248 ∧ ToStrAt PP Ty_sl_uint8 Ty_string w260 (Slc.v l248) s250 ∧ ToStr PP Ty_sl_uint8 Ty_string w260 (Slc.v v261) fun s264 => R226 (decide (s250.toList ≠ s264.toList)) w260) (pn Q))))))))))))) ∧ ∀ (s225 : Bool) (w227 : World), R226 s225 w227 → (s225 = true → Q (.returned (.bool false)) w227) ∧ (s225 = false → K w227)) (pn Q))) (pn Q))
theorem _root_.Go.Vc.ToStr.at {P : Program} {t1 t2 : TypeId} {w : World} {x : Value} {s : ByteArray} (h : ToStr P t1 t2 w x fun u => u = s) : ToStrAt P t1 t2 w x s := by
  obtain ⟨_, h1, rfl⟩ := h
  exact h1
section
variable {w0 w : World} {F : Asn} {n q k B tp b7 b116 b178 i : Nat} {cfg : Cfg} {a0 b0 b m N K D : Int} {T : List Tg} {V : Tg → List UInt8} {top : Tg} {cs : List CS} {xs : List Pl} {cl sv Vs Is Ps : Slc} {vs : Rws} {is ps : List Int} {R : List (List UInt8)} {Q : Ending → World → Prop} {K0 : World → Prop}
theorem getG_c (hL : LwOk w0 n q k cfg) (hV : RdR w0 Vs vs) (hvl : ∀ r ∈ vs, r.2.length ≤ 1099511627776) (hP : Cel w0 Ps 1 (ps.map iK)) (hi : i < vs.length) (S : LwSt n q k cfg R T V top B b m cs xs) (hm : m ≤ 1000) (hB : B ≤ 900000) (hT : T ≠ []) (hv : V top = vs[i].2.take 300)
    {op st c1 c2 : Int} {pu : Bool} {va : Slc}
    (H : Hp w0 w (star (bk b178 Ty_api_Result #[.int .i64 op, .bool pu, .int .i64 st, .int .i64 c1, .int .i64 c2, va.v]) (star (bk b116 Ty_api_Tag #[.int .i64 top.n, .int .i64 top.c]) (lxA b7 tp a0 b0 Vs Is Ps cl sv n k cs xs N K D F))))
    (hK : ∀ (cs' : List CS) (xs' : List Pl) (F' : Asn) (w' : World), LwSt n q k cfg R T V top (B + 22) b (m + 1) cs' xs' → Hp w0 w' (star (bk b116 Ty_api_Tag #[.int .i64 top.n, .int .i64 top.c]) (lxA b7 tp a0 b0 Vs Is Ps cl sv n k cs' xs' N K D F')) → K0 w') :
    wrGC cl b7 (some (blk tp)) b116 b178 (i : Int) w Q K0 := by
  have h5 : 5 < cs.length := by rw [S.len]; decide
  have hc := S.all_.each 5 h5
  have hcp : (cs.map csV)[5]? = some (csV cs[5]) := by rw [List.getElem?_map, List.getElem?_eq_getElem h5]; rfl
  have hcl := (H.cel (s := cl)).len
  rw [List.length_map, S.len] at hcl
  obtain ⟨ca, hca, hcc⟩ := (H.cel (s := cl)).at_ 5 (csV cs[5]) hcp
  have hR := hc.gen.uniq S.gen
  have C := S.calm
  rw [← hR] at C
  have n7 := hL.n7
  have H2 := ((H.take (all (csA n k) cs)).ent (Ent.star (all_at (csA n k) cs 5 h5) (Ent.refl _))).assoc
  refine ⟨ca, hca, by decide, by omega, _, hcc, call (getS_c hL hc hm (by decide) (by decide) C hB S.nz (by have := S.vl; omega) H2) ?_⟩
  clear H H2
  rintro _ w1 ⟨o, val, r, ms, A, rfl, hE, hJ, H⟩
  have H := H.drew 1
  obtain ⟨ca2, hca2, hcc2⟩ := (H.cel (s := cl)).at_ 5 (csV cs[5]) hcp
  refine ⟨_, _, _, rfl, ca2, hca2, by decide, by omega, _, hcc2, _, H.cell (b := b7) (i := 4) rfl, ?_⟩
  have hq := quietG_c (ql := ms) (tp := tp) (sv := sv) (xs := xs) (N := N) (K := K) (D := D) (l := r) hc hE hP hJ (((((H.take A).take (all plA xs)).own sv).blk tp).take (msgsA r ms))
  refine call hq ?_
  clear H hq
  rintro _ w2 ⟨Rr, xs', c', rfl, hRe, hpu, hst, htg, H⟩
  rw [if_neg hT] at H hst
  have hcs : (cs.set 5 c').map csV = cs.map csV := csV_set h5 hRe.p
  refine ⟨_, _, _, _, _, _, _, rfl, H.stoAll (b := b178) (by rfl) fun w3 H => ?_⟩
  have H := H.drew 1
  rw [htg] at H
  have H := ((H.take (all (csA n k) (cs.take 5 ++ cs.drop 6))).take (csA n k c')).assoc'.ent (Ent.star (all_put (csA n k) c' cs 5 h5) (Ent.refl _))
  rw [← hcs] at H
  have S' : LwSt n q k cfg R T V top (B + 22) b (m + 1) (cs.set 5 c') xs' := ⟨S.all_.set (Int.le_refl _) (by omega) hRe.cs, by rw [List.length_set]; exact S.len, by rw [← hR]; exact hRe.calm, S.gen, S.nz, S.tn, S.vl⟩
  have H := ((((((((H.own Rr.val).take (all (csA n k) (cs.set 5 c'))).take (all plA xs')).own sv).blk tp).own cl).blk b7).blk b116).blk b178
  refine ⟨fun x w' => x = false ∧ ∃ F', Hp w0 w' (star (bk b178 Ty_api_Result #[.int .i64 Rr.op, .bool Rr.put, .int .i64 Rr.status, .int .i64 top.n, .int .i64 top.c, Rr.val.v]) (star (bk b116 Ty_api_Tag #[.int .i64 top.n, .int .i64 top.c]) (lxA b7 tp a0 b0 Vs Is Ps cl sv n k (cs.set 5 c') xs' N K D F'))), ⟨fun h => absurd h (by decide), fun _ => ⟨fun h => absurd h (by decide), fun _ => ⟨_, H.cell (b := b178) (i := 2) rfl, fun h => ?_, fun _ => ⟨_, H.cell (b := b178) (i := 1) rfl, fun h => ?_, fun _ => ?_⟩⟩⟩⟩, ?_⟩
  · rw [hst] at h
    exact absurd h (by decide)
  · rw [hpu] at h
    exact nomatch h
  · refine ⟨_, H.cell2 (b := b178) (i := 3) (j := 0) rfl, _, H.cell2 (b := b178) (i := 3) (j := 1) rfl, _, H.cell (b := b116) (i := 0) rfl, _, H.cell (b := b116) (i := 1) rfl, fun h => by simp at h, fun _ => ⟨_, H.cell (b := b178) (i := 5) rfl, ToStr.rule slT_sl_uint8.ut und_string und_uint8 (H.cel (s := Rr.val)) ?_⟩⟩
    refine ⟨_, H.cell (b := b7) (i := 2) rfl, (hV.fr0 H.fr).cel.rdS (i := i) hi fun a2 ha2 => ?_⟩
    refine call (value_c ((hV.fr0 H.fr).at_ hi) (hvl _ (List.getElem_mem hi))) ?_
    rintro _ w4 ⟨o2, rfl, J⟩
    have H := H.join J
    refine ⟨_, rfl, H.cell (b := b178) (i := 5) rfl, ToStr.at (ToStr.rule slT_sl_uint8.ut und_string und_uint8 (H.cel (s := Rr.val)) rfl), ToStr.rule slT_sl_uint8.ut und_string und_uint8 (H.cel (s := o2)) ⟨?_, _, H.drop⟩⟩
    rw [hv]
    simp
  · rintro _ w4 ⟨rfl, F', H⟩
    exact ⟨fun h => (nomatch h), fun _ => hK _ _ _ _ S' ((H.blk b178).drop)⟩
end
end Go.Proofs.YtabifopphhpciaaGreatDoor

namespace Go.Proofs.YtabifopphhpciaaGreatDoor
open Go Go.Vc Go.Vc.Asn Go.Gf
def wrPC (c22 : Slc) (b7 : Nat) (t12 : Option Addr) (b116 : Nat) (i121 : Int) (w122 : World) (Q : Ending → World → Prop) (K : World → Prop) : Prop :=
  ∃ N134, cI w122 ((blk b7).add 0) N134 ∧ ∃ K136, cI w122 ((blk b7).add 1) K136 ∧ ∃ V138, cS w122 ((blk b7).add 2) V138 ∧ ∃ I140, cS w122 ((blk b7).add 3) I140 ∧ ∃ P142, cS w122 ((blk b7).add 4) P142 ∧ Calls PP F_sherdlaw18_Tale_id #[(.agg #[(.int .i64 N134), (.int .i64 K136), (Slc.v V138), (Slc.v I140), (Slc.v P142)]), (.int .i64 i121)] w122 (CallK (fun v335 w144 => ∃ i145 : Int, v335 = (.int .i64 i145) ∧ ∃ a146 : Addr, c22.a = some a146 ∧ (0 : Int) ≤ wr .i64 (i145 - 1) ∧ (wr .i64 (i145 - 1) : Int) < c22.l ∧ ∃ l150, cP w144 (a146.add (Int.toNat (wr .i64 (i145 - 1)) * 1)) l150 ∧ ∃ l153, cS w144 ((blk b7).add 2) l153 ∧ ∃ a155 : Addr, l153.a = some a155 ∧ (0 : Int) ≤ i121 ∧ (i121 : Int) < l153.l ∧ ∃ l159, cS w144 (a155.add (Int.toNat (i121) * 1)) l159 ∧ Calls PP F_sherdlaw18_value #[(Slc.v l159)] w144 (CallK (fun v331 w161 => ∃ v162 : Slc, v331 = (Slc.v v162) ∧ Calls PP F_client_Client_Put #[(.pointer l150), (.string (ByteArray.mk #[107])), (Slc.v v162)] w161 (CallK (fun v327 w163 => ∃ P164 : Int, ∃ P165 : Slc, ∃ P166 : Int, v327 = (.tuple #[(.int .i64 P164), (Slc.v P165), (.int .i64 P166)]) ∧ ∃ l168, cS w163 ((blk b7).add 4) l168 ∧ Calls PP F_sherdlaw18_Town_quiet #[(.pointer t12), (.pointer l150), (Slc.v P165), (Slc.v l168)] w163 (CallK (fun v323 w170 => ∃ O171 : Int, ∃ P172 : Bool, ∃ S173 : Int, ∃ C174 : Int, ∃ C175 : Int, ∃ V176 : Slc, ∃ q177 : Bool, v323 = (.tuple #[(.agg #[(.int .i64 O171), (.bool P172), (.int .i64 S173), (.int .i64 C174), (.int .i64 C175), (Slc.v V176)]), (.bool q177)]) ∧ New w170 #[(.int .i64 0), (.bool false), (.int .i64 0), (.int .i64 0), (.int .i64 0), (Slc.v Slc.nil)] Ty_api_Result fun b178 w179 => StoN (blk b178) 0 [(.int .i64 O171), (.bool P172), (.int .i64 S173), (.int .i64 C174), (.int .i64 C175), (Slc.v V176)] w179 fun w181 => ∃ R185 : Bool → World → Prop, ((((decide (P166 ≠ 0)) = true → R185 true (w181.drewN 1)) ∧ ((decide (P166 ≠ 0)) = false → (((!q177) = true → R185 true (w181.drewN 1)) ∧ ((!q177) = false → ∃ l282, cI (w181.drewN 1) ((blk b178).add 2) l282 ∧ (((decide (l282 ≠ 0)) = true → R185 true (w181.drewN 1)) ∧ ((decide (l282 ≠ 0)) = false → ∃ l285, cB (w181.drewN 1) ((blk b178).add 1) l285 ∧ (((!l285) = true → R185 true (w181.drewN 1)) ∧ ((!l285) = false → ∃ C288, cI (w181.drewN 1) (((blk b178).add 3).add 0) C288 ∧ ∃ C290, cI (w181.drewN 1) (((blk b178).add 3).add 1) C290 ∧ ∃ C292, cI (w181.drewN 1) ((blk b116).add 0) C292 ∧ ∃ C294, cI (w181.drewN 1) ((blk b116).add 1) C294 ∧ Calls PP F_tag_Compare #[(.agg #[(.int .i64 C288), (.int .i64 C290)]), (.agg #[(.int .i64 C292), (.int .i64 C294)])] (w181.drewN 1) (CallK (fun v318 w296 => ∃ C297 : Int, v318 = (.int .i64 C297) ∧ (((decide (C297 ≠ 1)) = true → R185 true w296) ∧ ((decide (C297 ≠ 1)) = false → ∃ l299, cI w296 (((blk b178).add 3).add 1) l299 ∧ ∃ N301, cI w296 ((blk b7).add 0) N301 ∧ ∃ K303, cI w296 ((blk b7).add 1) K303 ∧ ∃ V305, cS w296 ((blk b7).add 2) V305 ∧ ∃ I307, cS w296 ((blk b7).add 3) I307 ∧ ∃ P309, cS w296 ((blk b7).add 4) P309 ∧ Calls PP F_sherdlaw18_Tale_id #[(.agg #[(.int .i64 N301), (.int .i64 K303), (Slc.v V305), (Slc.v I307), (Slc.v P309)]), (.int .i64 i121)] w296 (CallK (fun v314 w311 => ∃ i312 : Int, v314 = (.int .i64 i312) ∧ cI w311 (((blk b178).add 3).add 1) l299 ∧ R185 (decide (l299 ≠ i312)) w311) (pn Q))))) (pn Q))))))))))) ∧ ∀ (s184 : Bool) (w186 : World), R185 s184 w186 → (s184 = true → Q (.returned (.bool false)) w186) ∧ (s184 = false → ∃ C190, cI w186 (((blk b178).add 3).add 0) C190 ∧ ∃ C192, cI w186 (((blk b178).add 3).add 1) C192 ∧ StoN (blk b116) 0 [(.int .i64 C190), (.int .i64 C192)] w186 fun w194 => wrGC c22 b7 t12 b116 b178 i121 w194 Q K)) (pn Q))) (pn Q))) (pn Q))) (pn Q))
section
variable {w0 w : World} {F : Asn} {n q k B tp b7 b116 i : Nat} {cfg : Cfg} {a0 b0 b m N K D : Int} {T : List Tg} {V : Tg → List UInt8} {top : Tg} {cs : List CS} {xs : List Pl} {cl sv Vs Is Ps : Slc} {vs : Rws} {is ps : List Int} {R : List (List UInt8)} {Q : Ending → World → Prop} {K0 : World → Prop}
theorem putG_c (hL : LwOk w0 n q k cfg) (hV : RdR w0 Vs vs) (hvl : ∀ r ∈ vs, r.2.length ≤ 1099511627776) (hI : Cel w0 Is 1 (is.map iK)) (hP : Cel w0 Ps 1 (ps.map iK)) (hi : i < vs.length) (S : LwSt n q k cfg R T V top B b m cs xs) (hm : m ≤ 900) (hB : B ≤ 800000) (hb : b ≤ 900)
    (H : Hp w0 w (star (bk b116 Ty_api_Tag #[.int .i64 top.n, .int .i64 top.c]) (lxA b7 tp a0 b0 Vs Is Ps cl sv n k cs xs N K D F)))
    (hK : ∀ (T' : List Tg) (V' : Tg → List UInt8) (top' : Tg) (cs' : List CS) (xs' : List Pl) (F' : Asn) (w' : World), LwSt n q k cfg R T' V' top' (B + 22 + 22) (b + 1) (m + 1 + 1) cs' xs' → Hp w0 w' (star (bk b116 Ty_api_Tag #[.int .i64 top'.n, .int .i64 top'.c]) (lxA b7 tp a0 b0 Vs Is Ps cl sv n k cs' xs' N K D F')) → K0 w') :
    wrPC cl b7 (some (blk tp)) b116 (i : Int) w Q K0 := by
  have hib := idN_bounds is i
  obtain ⟨jj, hjj, hj5⟩ : ∃ jj : Nat, idN is i = (jj : Int) + 1 ∧ jj < 5 := ⟨(idN is i - 1).toNat, by omega, by omega⟩
  have ej : wr .i64 (idN is i - 1) = (jj : Int) := by rw [wr64 (by omega) (by omega)]; omega
  have hj : jj < cs.length := by rw [S.len]; omega
  have hc := S.all_.each jj hj
  have hcp : (cs.map csV)[jj]? = some (csV cs[jj]) := by rw [List.getElem?_map, List.getElem?_eq_getElem hj]; rfl
  have hcl := (H.cel (s := cl)).len
  rw [List.length_map, S.len] at hcl
  have hR := hc.gen.uniq S.gen
  have C := S.calm
  rw [← hR] at C
  have n7 := hL.n7
  have hnn := next_n (c := cs[jj].x.id) hc.u0 S.tn hc.u1
  refine ⟨_, H.cell (b := b7) (i := 0) rfl, _, H.cell (b := b7) (i := 1) rfl, _, H.cell (b := b7) (i := 2) rfl, _, H.cell (b := b7) (i := 3) rfl, _, H.cell (b := b7) (i := 4) rfl, call (idN_c (hI.fr0 H.fr)) ?_⟩
  rintro _ w1 ⟨rfl, f1⟩
  have H := H.fr0 f1
  obtain ⟨ca, hca, hcc⟩ := (H.cel (s := cl)).at_ jj (csV cs[jj]) hcp
  refine ⟨_, rfl, ca, hca, by rw [ej]; omega, by rw [ej]; omega, _, by rw [ej, Int.toNat_natCast, Nat.mul_one]; exact hcc, _, H.cell (b := b7) (i := 2) rfl, (hV.fr0 H.fr).cel.rdS (i := i) hi fun a2 ha2 => ?_⟩
  refine call (value_c ((hV.fr0 H.fr).at_ hi) (hvl _ (List.getElem_mem hi))) ?_
  rintro _ w2 ⟨o2, rfl, J⟩
  have H := H.join J
  have H2 := ((H.take (all (csA n k) cs)).ent (Ent.star (all_at (csA n k) cs jj hj) (Ent.refl _))).assoc
  have H2 := (H2.own o2).take (csA n k cs[jj])
  have hbl : (vs[i].2.take 300).length ≤ 300 := by rw [List.length_take]; omega
  refine ⟨_, rfl, call (putS_c (Vp := own Ty_uint8 1 o2 ((vs[i].2.take 300).map u8v)) (fun H => H.cel (s := o2)) hL hc (by omega) (by omega) (by omega) C (by omega) hbl S.tn (by omega) H2) ?_⟩
  clear H H2
  rintro _ w3 ⟨o, val, r, ms, A, rfl, hE, hJ, H⟩
  refine ⟨_, _, _, rfl, _, H.cell (b := b7) (i := 4) rfl, ?_⟩
  have hq := quietP_c (ql := ms) (tp := tp) (sv := sv) (xs := xs) (N := N) (K := K) (D := D) (l := r) hc S.tn hE hP hJ (((((H.take A).take (all plA xs)).own sv).blk tp).take (msgsA r ms))
  refine call hq ?_
  clear H hq
  rintro _ w4 ⟨Rr, xs', c', rfl, hRe, hpu, hst, htg, H⟩
  have hcs : (cs.set jj c').map csV = cs.map csV := csV_set hj hRe.p
  refine ⟨_, _, _, _, _, _, _, rfl, H.new fun b178 w5 H => H.stoAll (b := b178) (by rfl) fun w6 H => ?_⟩
  have H := H.drew 1
  rw [htg] at H
  have H := ((H.take (all (csA n k) (cs.take jj ++ cs.drop (jj + 1)))).take (csA n k c')).assoc'.ent (Ent.star (all_put (csA n k) c' cs jj hj) (Ent.refl _))
  rw [← hcs] at H
  have S' : LwSt n q k cfg R (wePT cs[jj] top :: T) (fun t => if t = wePT cs[jj] top then vs[i].2.take 300 else V t) (wePT cs[jj] top) (B + 22) (b + 1) (m + 1) (cs.set jj c') xs' :=
    ⟨S.all_.set (by omega) (by omega) hRe.cs, by rw [List.length_set]; exact S.len, by rw [← hR]; exact hRe.calm, S.gen, fun _ e => by
      have : (wePT cs[jj] top).n = 0 := by rw [e]; rfl
      have h1 : 1 ≤ (wePT cs[jj] top).n := hnn.1
      omega, hnn.2, by rw [if_pos rfl]; exact hbl⟩
  generalize hnt : wePT cs[jj] top = nt at *
  have hnc : nt.c = (jj : Int) + 1 := by rw [← hnt]; exact hc.id_
  have hcmp : nt.cmp top = 1 := by rw [← hnt]; exact Tg.next_above _ _ _
  have H := (((((((H.take (all (csA n k) (cs.set jj c'))).take (all plA xs')).own sv).blk tp).own cl).blk b7).blk b116).blk b178
  refine ⟨fun x w' => x = false ∧ ∃ F', Hp w0 w' (star (bk b178 Ty_api_Result #[.int .i64 Rr.op, .bool Rr.put, .int .i64 Rr.status, .int .i64 nt.n, .int .i64 nt.c, Rr.val.v]) (star (bk b116 Ty_api_Tag #[.int .i64 top.n, .int .i64 top.c]) (lxA b7 tp a0 b0 Vs Is Ps cl sv n k (cs.set jj c') xs' N K D F'))), ⟨fun h => absurd h (by decide), fun _ => ⟨fun h => absurd h (by decide), fun _ => ⟨_, H.cell (b := b178) (i := 2) rfl, fun h => ?_, fun _ => ⟨_, H.cell (b := b178) (i := 1) rfl, fun h => ?_, fun _ => ?_⟩⟩⟩⟩, ?_⟩
  · rw [hst] at h
    exact absurd h (by decide)
  · rw [hpu] at h
    exact absurd h (by decide)
  · refine ⟨_, H.cell2 (b := b178) (i := 3) (j := 0) rfl, _, H.cell2 (b := b178) (i := 3) (j := 1) rfl, _, H.cell (b := b116) (i := 0) rfl, _, H.cell (b := b116) (i := 1) rfl, call (tcmp_c (t := nt) (u := top)) ?_⟩
    rintro _ w7 ⟨rfl, f7⟩
    have H := H.fr0 f7
    refine ⟨_, rfl, fun h => ?_, fun _ => ?_⟩
    · rw [hcmp] at h
      exact absurd h (by decide)
    · refine ⟨_, H.cell2 (b := b178) (i := 3) (j := 1) rfl, _, H.cell (b := b7) (i := 0) rfl, _, H.cell (b := b7) (i := 1) rfl, _, H.cell (b := b7) (i := 2) rfl, _, H.cell (b := b7) (i := 3) rfl, _, H.cell (b := b7) (i := 4) rfl, call (idN_c (hI.fr0 H.fr)) ?_⟩
      rintro _ w8 ⟨rfl, f8⟩
      have H := H.fr0 f8
      exact ⟨_, rfl, H.cell2 (b := b178) (i := 3) (j := 1) rfl, by rw [hnc, hjj]; simp, _, H⟩
  · rintro _ w7 ⟨rfl, F', H⟩
    refine ⟨fun h => (nomatch h), fun _ => ⟨_, H.cell2 (b := b178) (i := 3) (j := 0) rfl, _, H.cell2 (b := b178) (i := 3) (j := 1) rfl, H.stoAll (b := b116) (by rfl) fun w8 H => ?_⟩⟩
    refine getG_c hL hV hvl hP hi S' (by omega) (by omega) (fun h => (nomatch h)) (if_pos rfl) (H.blk b178) fun cs2 xs2 F2 w9 S2 H2 => hK _ _ _ cs2 xs2 F2 w9 S2 H2
end
end Go.Proofs.YtabifopphhpciaaGreatDoor
