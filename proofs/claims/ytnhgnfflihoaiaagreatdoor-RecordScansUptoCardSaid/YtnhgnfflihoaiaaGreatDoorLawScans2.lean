/-
  The law of Scan.
-/
import Derived.Test.YtnhgnfflihoaiaaGreatDoorLawScans
namespace Go.Proofs.YtnhgnfflihoaiaaGreatDoor
open Go Go.Vc Go.Vc.Asn
theorem Made.hp {w0 w : World} {s : Slc} {bs : List UInt8} (h : Made w0 w s bs) : Hp w0 w (Asn.own Ty_uint8 1 s (bs.map u8v)) := ⟨h.fr, fun k => k ∈ s.blks, h.new, fun _ => Iff.rfl, h.own⟩
theorem xor_1 (a : UInt8) : ∃ y : UInt8, xorI .u8 (a.toNat : Int) 1 = (y.toNat : Int) := by
  have : ∀ x : Fin 256, xorI .u8 (x.val : Int) 1 = ((x.val ^^^ 1 : Nat) : Int) ∧ (x.val ^^^ 1) < 256 := by decide +kernel
  obtain ⟨h1, h2⟩ := this a.toFin
  exact ⟨⟨⟨_, h2⟩⟩, h1⟩
theorem xor_64 (a : UInt8) : ∃ y : UInt8, xorI .u8 (a.toNat : Int) 64 = (y.toNat : Int) := by
  have : ∀ x : Fin 256, xorI .u8 (x.val : Int) 64 = ((x.val ^^^ 64 : Nat) : Int) ∧ (x.val ^^^ 64) < 256 := by decide +kernel
  obtain ⟨h1, h2⟩ := this a.toFin
  exact ⟨⟨⟨_, h2⟩⟩, h1⟩
theorem Hp.objNew {α : Type} {D : Nat → α → Asn} {p : Nat} {x : α} {w0 w : World} {F : Asn} (hD : ∀ w S, (D p x).p w S → S p) (H : Hp w0 w (star (obj D p x) F)) : w0.heap.size ≤ p := by
  obtain ⟨_, S, h1, S1, S2, g1, _, ha, _⟩ := H
  exact h1 p ((g1 p).2 (.inl (hD _ _ ha)))
theorem PW_at {p : Nat} {x : List UInt8 × Int} (w : World) (S : Nat → Prop) (h : (PW p x).p w S) : S p := by
  obtain ⟨s, S1, S2, h1, _, ⟨h3, _⟩, _⟩ := h
  exact (h1 p).2 (.inl ((h3 p).2 rfl))
theorem QW_at {p : Nat} {x : List UInt8 × Int} (w : World) (S : Nat → Prop) (h : (QW p x).p w S) : S p := by
  obtain ⟨s, S1, S2, h1, _, ⟨h3, _⟩, _⟩ := h
  exact (h1 p).2 (.inl ((h3 p).2 rfl))
theorem Hp.two {w0 w : World} {p q : Nat} {last : List UInt8} {n : Nat} {F : Asn} (h4 : last.length = 4) (H : Hp w0 w (star (obj PW p (last, (n : Int))) (star (obj QW q (last, (n : Int))) F))) : Two w p q last n := by
  obtain ⟨_, S, _, S1, S2, _, _, ⟨s, T1, T2, _, _, ⟨_, a1⟩, ⟨_, a2⟩⟩, S3, S4, _, _, ⟨t, T3, T4, _, _, ⟨_, b1⟩, ⟨_, b2⟩⟩, _⟩ := H
  exact ⟨h4, ⟨s, a1, a2⟩, ⟨t, b1, b2⟩⟩
def anQ (q : Option Nat) (x : List UInt8 × Int) : Asn := match q with | some q => obj QW q x | none => emp
theorem rscan_h {w : World} {s : Slc} {bs : List UInt8} (hb : Byt w s bs) (hm : bs.length ≤ 1099511627776) :
    Calls PP F_sherdref11_Scan #[s.v] w (Rt fun v w' => ∃ (N K D S why e : Int) (su se : Slc) (q : Option Nat) (last : List UInt8) (n : Nat), v = .tuple #[.agg #[.int .i64 N, .int .i64 K, .int .i64 D, .int .i64 S], su.v, se.v, .int .i64 why, .pointer (q.map blk), .int .i64 e] ∧
      (okH bs = true → last = (scanT bs).2.2.2.2 ∧ n = (scanT bs).1.length) ∧ q.isNone = !okH bs ∧ Hp w w' (anQ q (last, (n : Int)))) := by
  refine Rt.mono (rscan_c hb hm) ?_
  rintro v w' (⟨ho, f, rfl⟩ | ⟨ho, q, X, su, se, hX, rfl, K⟩)
  · exact ⟨0, 0, 0, 0, 0, 63, Slc.nil, Slc.nil, none, [], 0, rfl, fun h => by rw [ho] at h; simp at h, by rw [ho]; rfl, (Hp.start w).fr0 f⟩
  · refine ⟨_, _, _, _, _, _, su, se, some q, (scanT bs).2.2.2.2, X.length, rfl, fun _ => ⟨rfl, ?_⟩, by rw [ho]; rfl, ?_⟩
    · have := congrArg List.length hX
      simpa using this
    · unfold scanOut at K
      exact K.drop.drop.drop.ent Asn.emp_r'
theorem byte_set (bs : List UInt8) (i : Nat) (y : UInt8) : (bs.map u8v).set i (.int .u8 (y.toNat : Int)) = (bs.set i y).map u8v := by
  rw [List.map_set]
theorem An.of.pw_some {a : An} {bs : List UInt8} (h : a.of bs) {p : Nat} (hp : a.pw = some p) : okH bs = true := by
  have := h.pw
  rw [hp] at this
  simpa using this.symm
theorem all_in {α : Type} (f : α → Asn) (l m : List α) {G : Asn} : Ent (star (all f l) (star (all f m) G)) (star (all f (l ++ m)) G) := assoc'.trans (Ent.star (all_app f l m) (Ent.refl _))
theorem all_three {α : Type} (f : α → Asn) (x y z : α) {G : Asn} : Ent (star (f x) (star (f y) (star (f z) G))) (star (all f [x, y, z]) G) :=
  (Ent.star (Ent.refl _) ((Ent.star (Ent.refl _) (Ent.star emp_r (Ent.refl _))).trans assoc')).trans assoc'
theorem scanned_c {w : World} {s : Slc} {ds : List UInt8} {u : Upd} (hG : GT w) (hD : Byt w s ds) (hm : ds.length ≤ 1099511627770) (hu : Byt w u.data u.ds) (hum : u.ds.length ≤ 140737488355000) :
    Calls PP F_sherdlaw11_scanned #[s.v, u.v] w (Rt fun v w' => v = .bool true ∧ Fr [] w w') := by
  have hgp := hG.pos
  have hsl := hD.len
  refine sim_sherdlaw11_scanned _ _ _ _ _ _ _ _ _ _ ?_
  unfold vc_sherdlaw11_scanned
  refine (Hp.start w).new fun b10 w1 H => call (lent_c (hD.fr0 H.fr) (by omega)) ?_
  rintro _ w2 ⟨room, rfl, hM⟩
  have H := H.beside hM.hp
  refine ⟨room, rfl, call (rscan_h (hD.fr0 H.fr) (by omega)) ?_⟩
  rintro _ w3 ⟨N, K, D, S, why, e, su, se, q, last, n, rfl, hlast, hq, HQ⟩
  have H := H.beside HQ
  refine ⟨_, _, _, _, su, se, _, _, _, rfl, New.intro fun b27 w4 nb => nb.blk.stoAll (by rfl) fun w5 _ fB => ?_⟩
  have H := H.fr0 (nb.frS fB)
  refine H.newRow (e := Ty_uint8) (n := 0) (size := 1) [] rfl rfl (by decide) fun b32 w6 H => ?_
  refine H.app (s := ⟨some (blk b32), 0, 0⟩) slT_sl_uint8 (hD.fr0 H.fr) (one_u8 _) (by unfold maxLen; simp only; omega) (by simp only; omega) fun s35 w7 H hl35 => ?_
  rw [List.nil_append] at H
  simp only [Nat.zero_add] at hl35
  have hrl : room.l = ds.length + 1 := by have := (H.own room).cel (s := room) |>.len; simp at this; omega
  refine ⟨fun w' => ∃ os : List UInt8, os.length = ds.length ∧ Hp w w' (star (own Ty_uint8 1 s35 (os.map u8v)) (star (anQ q (last, (n : Int))) (star (own Ty_uint8 1 room ((ds ++ [77]).map u8v)) (star (bk b10 Ty_api_Update u.cells.toArray) emp)))), ⟨fun hlt => ?_, fun _ => ⟨ds, rfl, H⟩⟩, ?_⟩
  · simp only [decide_eq_true_eq] at hlt
    have e1 : wr .i64 ((s35.l : Int) - 1) = ((s35.l - 1 : Nat) : Int) := by rw [wr64 (by omega) (by omega)]; omega
    rw [e1]
    have hC : Byt w7 s35 ds := H.cel (s := s35)
    obtain ⟨p, hp, hc⟩ := hC.get (i := s35.l - 1) (by omega)
    obtain ⟨y, hy⟩ := xor_1 (ds[s35.l - 1]'(by omega))
    refine ⟨p, hp, by omega, by omega, _, by rw [Int.toNat_natCast, Nat.mul_one]; exact hc, p, hp, by omega, by omega, ?_⟩
    rw [Int.toNat_natCast, Nat.mul_one]
    refine H.stoS (s := s35) (by simp; omega) hp fun w8 H => ⟨ds.set (s35.l - 1) y, by simp, ?_⟩
    rw [hy, byte_set] at H
    exact H
  rintro w8 ⟨os, hol, H⟩
  have hol' : s35.l = os.length := by omega
  have hrc : room.l ≤ room.c := ((H.own room).cel (s := room)).cap
  refine ⟨by omega, by omega, by omega, by omega, by omega, by omega, ?_⟩
  have H := H.drew 1
  have cutr : ∀ {w' : World} {rs : List UInt8}, rs.length = ds.length + 1 → Byt w' room rs → Byt w' (room.cut 1 (Int.toNat 0) (Int.toNat (s.l : Int))) (rs.take ds.length) := fun hr h => cut_all h (by simp) (by omega) (by simp [hsl])
  have hroom : Byt (w8.drewN 1) room (ds ++ [77]) := (H.own room).cel (s := room)
  have ht0 : (ds ++ [77]).take ds.length = ds := by simp
  have hcut : Byt (w8.drewN 1) (room.cut 1 (Int.toNat 0) (Int.toNat (s.l : Int))) ds := by have := cutr (by simp) hroom; rwa [ht0] at this
  have hodd : Byt (w8.drewN 1) s35 os := H.cel (s := s35)
  refine call (ask_h (hG.fr0 H.fr) hcut (by omega)) ?_
  rintro _ w9 ⟨a1, o1, rfl, K1⟩
  have H := H.beside K1
  refine ⟨_, _, _, _, a1.l, a1.m, _, _, _, rfl, call (ask_h (hG.fr0 H.fr) (hodd.fr0 K1.fr) (by omega)) ?_⟩
  rintro _ w10 ⟨a2, o2, rfl, K2⟩
  have H := H.beside K2
  refine ⟨_, _, _, _, a2.l, a2.m, _, _, _, rfl, call (ask_h (hG.fr0 H.fr) ((hcut.fr0 K1.fr).fr0 K2.fr) (by omega)) ?_⟩
  rintro _ w11 ⟨a3, o3, rfl, K3⟩
  have H := H.beside K3
  have F3 := (K1.fr.then_ K2.fr).then_ K3.fr
  have r1 : AnR w11 a1 := (Hp.anR o1 K1).fr0 (K2.fr.then_ K3.fr)
  have r2 : AnR w11 a2 := (Hp.anR o2 K2).fr0 K3.fr
  have r3 : AnR w11 a3 := Hp.anR o3 K3
  refine ⟨_, _, _, _, a3.l, a3.m, _, _, _, rfl, New.intro fun b78 w12 nb => ?_⟩
  have H : Hp w w12 (star (own Ty_sherdlaw11_answer 9 ⟨some (blk b78), 3, 3⟩ ([a1, a2, a3].map An.cells).flatten) _) := H.row (l := ([a1, a2, a3].map An.cells).flatten) nb rfl rfl (by decide)
  have F12 := nb.fr
  -- in order
  have H := ((((H.own s35).drop).take (anW a3)).drop.take (anW a2)).drop
  have H := ((((H.take (all rowU a3.X)).take (all rowU a2.X)).take (all rowU a1.X)).ent (Ent.star (Ent.refl _) (all_in rowU a2.X a3.X))).ent (all_in rowU a1.X (a2.X ++ a3.X))
  have H := (((H.take (anU a3)).take (anU a2)).take (anU a1)).ent (all_three anU a1 a2 a3)
  have H : Hp w w12 (star (own Ty_sherdlaw11_answer 9 ⟨some (blk b78), 3, 3⟩ ([a1, a2, a3].map An.cells).flatten) (star (all anU [a1, a2, a3]) (star (all rowU (a1.X ++ (a2.X ++ a3.X))) (star (anW a1) (star (anQ q (last, (n : Int))) (star (own Ty_uint8 1 room ((ds ++ [77]).map u8v)) (star (bk b10 Ty_api_Update u.cells.toArray) emp))))))) := H.own ⟨some (blk b78), 3, 3⟩
  have rd : ∀ {w' : World} {F : Asn} (k : Nat) (hk : k < [a1, a2, a3].length), Hp w w' (star (own Ty_sherdlaw11_answer 9 ⟨some (blk b78), 3, 3⟩ ([a1, a2, a3].map An.cells).flatten) F) → ∀ (j : Nat) (v : Value), ([a1, a2, a3][k].cells)[j]? = some v → w'.cell? (((blk b78).add ((k : Int).toNat * 9)).add j) = some v := fun k hk H => by
    obtain ⟨p, hp, hpc⟩ := Cel.row An.nine (by decide) (H.cel (s := ⟨some (blk b78), 3, 3⟩)) hk
    injection hp with hp
    subst hp
    exact hpc
  have z0 := rd 0 (by simp) H
  refine ⟨blk b78, rfl, by omega, by simp, _, z0 0 _ rfl, _, z0 1 _ rfl, _, z0 2 _ rfl, _, z0 3 _ rfl, _, z0 4 _ rfl, _, z0 5 _ rfl, _, z0 6 _ rfl, _, z0 7 _ rfl, _, z0 8 _ rfl, call (right_c o1 (r1.fr0 F12) (hD.fr0 H.fr) (by omega)) ?_⟩
  rintro _ w13 ⟨rfl, f13⟩
  have H := H.fr0 f13
  have z1 := rd 1 (by simp) H
  refine ⟨true, rfl, fun b w' => b = false ∧ Fr [] w13 w', ⟨fun _ => ⟨blk b78, rfl, by omega, by simp, _, z1 0 _ rfl, _, z1 1 _ rfl, _, z1 2 _ rfl, _, z1 3 _ rfl, _, z1 4 _ rfl, _, z1 5 _ rfl, _, z1 6 _ rfl, _, z1 7 _ rfl, _, z1 8 _ rfl, call (right_c o2 (r2.fr0 (F12.then_ f13)) (hodd.fr0 ((F3.then_ F12).then_ f13)) (by omega)) ?_⟩, fun h => by simp at h⟩, ?_⟩
  · rintro _ w14 ⟨rfl, f14⟩
    exact ⟨true, rfl, rfl, f14⟩
  rintro _ w14 ⟨rfl, f14⟩
  have H := H.fr0 f14
  have z2 := rd 2 (by simp) H
  refine ⟨fun b w' => b = false ∧ Fr [] w14 w', ⟨fun _ => ⟨blk b78, rfl, by omega, by simp, _, z2 0 _ rfl, _, z2 1 _ rfl, _, z2 2 _ rfl, _, z2 3 _ rfl, _, z2 4 _ rfl, _, z2 5 _ rfl, _, z2 6 _ rfl, _, z2 7 _ rfl, _, z2 8 _ rfl, call (right_c o3 (r3.fr0 ((F12.then_ f13).then_ f14)) (hD.fr0 H.fr) (by omega)) ?_⟩, fun h => by simp at h⟩, ?_⟩
  · rintro _ w15 ⟨rfl, f15⟩
    exact ⟨true, rfl, rfl, f15⟩
  rintro _ w15 ⟨rfl, f15⟩
  have H := H.fr0 f15
  refine ⟨fun b w' => b = false ∧ Fr [] w15 w', ⟨fun _ => call (lent_c (hD.fr0 H.fr) (by omega)) ?_, fun h => by simp at h⟩, ?_⟩
  · rintro _ w16 ⟨y, rfl, hM⟩
    have hr : Byt w15 room (ds ++ [77]) := (H.own room).cel (s := room)
    refine ⟨y, rfl, call (same_c (hr.fr0 hM.fr) hM.byt) ?_⟩
    rintro _ w17 ⟨rfl, rfl⟩
    exact ⟨true, rfl, rfl, hM.fr⟩
  rintro _ w16 ⟨rfl, f16⟩
  have H := H.fr0 f16
  have Fr16 := (((F12.then_ f13).then_ f14).then_ f15).then_ f16
  obtain ⟨d1, l1⟩ := o1.ds
  obtain ⟨d2, l2⟩ := o2.ds
  obtain ⟨d3, l3⟩ := o3.ds
  have q1 := o1.ends
  have q2 := o2.ends
  have q3 := o3.ends
  refine ⟨fun h => by simp at h, fun _ => call (bytes_h (H.cel (s := ⟨some (blk b78), 3, 3⟩)) (fun a ha => ?_) (by simp) (fun a ha => ?_)) ?_⟩
  · simp at ha
    rcases ha with rfl | rfl | rfl
    · exact r1.fr0 Fr16
    · exact r2.fr0 Fr16
    · exact r3.fr0 Fr16
  · simp at ha
    rcases ha with rfl | rfl | rfl <;> omega
  rintro _ w17 ⟨y, rfl, K⟩
  have eX : ([a1, a2, a3].map An.X).flatten = a1.X ++ (a2.X ++ a3.X) := by simp
  rw [eX] at K
  have H := (((H.beside K).take (all rowU (a1.X ++ (a2.X ++ a3.X)))).own y)
  refine ⟨y, rfl, call (apart_h H (by simp; omega) fun v hv => ?_) ?_⟩
  · simp at hv
    rcases hv with h | h | h
    · have := d1 v h; omega
    · have := d2 v h; omega
    · have := d3 v h; omega
  rintro _ w18 ⟨rfl, H⟩
  refine ⟨true, rfl, fun b w' => b = false ∧ Hp w w' (star (own Ty_sherdlaw11_answer 9 ⟨some (blk b78), 3, 3⟩ ([a1, a2, a3].map An.cells).flatten) (star (anW a1) (star (anQ q (last, (n : Int))) (star (own Ty_uint8 1 room ((ds ++ [77]).map u8v)) (star (bk b10 Ty_api_Update u.cells.toArray) emp))))), ⟨fun _ => call (marked_h H (by simp) fun a ha => ?_) ?_, fun h => by simp at h⟩, ?_⟩
  · simp at ha
    rcases ha with rfl | rfl | rfl <;> omega
  · rintro _ w19 ⟨rfl, H⟩
    exact ⟨true, rfl, rfl, H⟩
  rintro _ w19 ⟨rfl, H⟩
  refine ⟨fun b w' => b = false ∧ Fr [] w19 w', ⟨fun _ => call (lent_c (hD.fr0 H.fr) (by omega)) ?_, fun h => by simp at h⟩, ?_⟩
  · rintro _ w20 ⟨y, rfl, hM⟩
    have hr : Byt w19 room (ds ++ [77]) := (H.own room).cel (s := room)
    refine ⟨y, rfl, call (same_c (hr.fr0 hM.fr) hM.byt) ?_⟩
    rintro _ w17 ⟨rfl, rfl⟩
    exact ⟨true, rfl, rfl, hM.fr⟩
  rintro _ w20 ⟨rfl, f20⟩
  have H := (H.fr0 f20).own room
  refine ⟨fun h => by simp at h, fun _ => ⟨fun i w' => ∃ (k : Nat) (rs : List UInt8), i = (k : Int) ∧ k ≤ ds.length ∧ rs.length = ds.length + 1 ∧ Hp w w' (star (own Ty_uint8 1 room (rs.map u8v)) (star (own Ty_sherdlaw11_answer 9 ⟨some (blk b78), 3, 3⟩ ([a1, a2, a3].map An.cells).flatten) (star (anW a1) (star (anQ q (last, (n : Int))) (star (bk b10 Ty_api_Update u.cells.toArray) emp))))), fun i _ => ds.length - i.toNat, ⟨0, _, rfl, by omega, by simp, H⟩, ?_⟩⟩
  rintro _ w21 ⟨k, rs, rfl, hk, hrs, H⟩
  have hC : Byt w21 room rs := H.cel (s := room)
  refine ⟨fun hlt => ?_, fun _ => ?_⟩
  · simp only [decide_eq_true_eq, hsl] at hlt
    obtain ⟨p, hp, hc⟩ := hC.get (i := k) (by omega)
    obtain ⟨y, hy⟩ := xor_64 (rs[k]'(by omega))
    refine ⟨p, hp, by omega, by omega, _, by rw [Int.toNat_natCast, Nat.mul_one]; exact hc, p, hp, by omega, by omega, ?_⟩
    rw [Int.toNat_natCast, Nat.mul_one, wr64 (by omega) (by omega)]
    refine H.stoS (s := room) (by simp; omega) hp fun w22 H => ⟨⟨k + 1, rs.set k y, rfl, by omega, by simpa using hrs, ?_⟩, by dsimp only; omega⟩
    rw [hy, byte_set] at H
    exact H
  refine New.intro fun b252 w22 nb2 => ⟨by omega, by omega, by omega, ?_⟩
  have H : Hp w w22 (star (own Ty_uint8 1 ⟨some (blk b252), 0, 0⟩ []) _) := H.row nb2 rfl (by simp) (by decide)
  have hcut2 := cutr hrs (hC.fr0 nb2.fr)
  have hcl := hcut2.len
  rw [List.length_take, Nat.min_eq_left (by omega)] at hcl
  refine H.app (s := ⟨some (blk b252), 0, 0⟩) slT_sl_uint8 hcut2 (one_u8 _) (by unfold maxLen; simp only; omega) (by simp only; omega) fun s258 w23 H _ => ?_
  rw [List.nil_append] at H
  refine ⟨by omega, by omega, by omega, call (ask_h (hG.fr0 H.fr) (cutr hrs ((H.own room).cel (s := room))) (by simp; omega)) ?_⟩
  rintro _ w24 ⟨a4, o4, rfl, K4⟩
  have hB4 : Byt w23 s258 (rs.take ds.length) := H.cel (s := s258)
  refine ⟨_, _, _, _, a4.l, a4.m, _, _, _, rfl, call (right_c o4 (Hp.anR o4 K4) (hB4.fr0 K4.fr) (by simp; omega)) ?_⟩
  rintro _ w25 ⟨rfl, f25⟩
  have H := ((H.fr0 (K4.fr.then_ f25)).drop.drop)
  have z3 := rd 0 (by simp) H
  refine ⟨true, rfl, fun h => by simp at h, fun _ => ⟨blk b78, rfl, by omega, by simp, a1.pw.map blk, z3 7 _ rfl, fun _ => Rt.ok ⟨rfl, H.fr⟩, fun hnn => ?_⟩⟩
  have H := H.drop
  obtain ⟨p, hp⟩ : ∃ p, a1.pw = some p := by
    cases hp : a1.pw with
    | none => rw [hp] at hnn; simp at hnn
    | some p => exact ⟨p, rfl⟩
  obtain ⟨q', rfl⟩ : ∃ q', q = some q' := by
    cases q with
    | none => simp at hnn
    | some q' => exact ⟨q', rfl⟩
  have hok := o1.pw_some hp
  obtain ⟨e1, e4⟩ := o1.last hok
  obtain ⟨e2, e3⟩ := hlast hok
  have eX1 : a1.X.length = n := by
    have h1 := congrArg List.length o1.X
    rw [if_pos hok, List.length_map] at h1
    rw [h1, e3]
  have H : Hp w w25 (star (obj PW p (last, (n : Int))) (star (obj QW q' (last, (n : Int))) (star (bk b10 Ty_api_Update u.cells.toArray) emp))) := by
    have e : anW a1 = obj PW p (last, (n : Int)) := by unfold anW; rw [hp, e1, e2, eX1]
    rw [← e]
    exact H
  rw [hp]
  have hn1 : n ≤ ds.length := by omega
  have hpn := Hp.objNew PW_at H
  have hqn := Hp.objNew QW_at H.swap
  have hT := Hp.two (by rw [e2, ← e1]; exact e4) H
  have hB := (H.blk b10).isBlk (b := b10)
  refine ⟨_, hB.cell (i := 0) rfl, _, hB.cell (i := 1) rfl, _, hB.cell (i := 2) rfl, _, hB.cell (i := 3) rfl, _, hB.cell (i := 4) rfl, _, hB.cell (i := 5) rfl, u.data, hB.cell (i := 6) rfl, call (putting_c (hG.fr0 H.fr) (by omega) (by omega) hT (by omega) (hu.fr0 H.fr) hum) ?_⟩
  rintro _ w26 ⟨y, bs, last', n', rfl, _, _, f26, hT2, _⟩
  refine ⟨y, true, rfl, fun b w' => b = true ∧ w26 = w', ⟨fun _ => call (count_c hT2.rw) ?_, fun h => by simp at h⟩, ?_⟩
  · rintro _ _ ⟨rfl, rfl⟩
    refine ⟨_, rfl, call (rcount_c hT2.qw) ?_⟩
    rintro _ _ ⟨rfl, rfl⟩
    exact ⟨_, rfl, by simp, rfl⟩
  rintro _ _ ⟨rfl, rfl⟩
  exact Rt.ok ⟨rfl, H.fr.local_ f26 fun x hx => .inr (by simp at hx; rcases hx with rfl | rfl <;> omega)⟩
theorem recordScans_c {w : World} {s : Slc} {ds : List UInt8} {u : Upd} (hG : GT w) (hD : Byt w s ds) (hm : ds.length ≤ 1048576) (hu : Byt w u.data u.ds) (hum : u.ds.length ≤ 1048576) :
    Calls PP F_sherdlaw11_RecordScans #[s.v, u.v] w (Rt fun v w' => v = .bool true ∧ Fr [] w w') := by
  refine sim_sherdlaw11_RecordScans _ _ _ _ _ _ _ _ _ _ ?_
  unfold vc_sherdlaw11_RecordScans
  refine (Hp.start w).new fun b10 w1 H => call (new_c (hG.fr0 H.fr)) ?_
  rintro _ w2 ⟨f2, h2⟩
  rcases h2 with ⟨hx, _⟩ | ⟨_, p, z, rfl, hz, _, _⟩
  · exact absurd (by decide) hx
  have H := H.fr0 f2
  have hh9 : (headBs (Int.toNat 3) (Int.toNat 1) (Int.toNat 0) (Int.toNat 2)).length = 9 := by decide +kernel
  have hh0 : (headBs (Int.toNat 3) (Int.toNat 1) (Int.toNat 0) (Int.toNat 2))[0]? = some 72 := by decide +kernel
  have hzl : z.l = 9 := by rw [hz.byt.len, hh9]
  obtain ⟨a, ha, hc⟩ := hz.byt.at_ 0 (u8v 72) (by rw [List.getElem?_map, hh0]; rfl)
  refine ⟨_, z, _, rfl, false, fun _ => ⟨a, ha, by omega, by omega, _, by simpa using hc, ?_⟩, fun h => by simp [hzl] at h, fun h => by simp at h, fun _ => ⟨_, H.cell (b := b10) (i := 0) rfl, _, H.cell (b := b10) (i := 1) rfl, _, H.cell (b := b10) (i := 2) rfl, _, H.cell (b := b10) (i := 3) rfl, _, H.cell (b := b10) (i := 4) rfl, _, H.cell (b := b10) (i := 5) rfl, u.data, H.cell (b := b10) (i := 6) rfl, call (scanned_c (hG.fr0 H.fr) (hD.fr0 H.fr) (by omega) (hu.fr0 H.fr) (by omega)) ?_⟩⟩
  · decide
  · rintro _ w3 ⟨rfl, f3⟩
    exact ⟨true, rfl, Rt.ok ⟨rfl, H.fr.then_ f3⟩⟩
end Go.Proofs.YtnhgnfflihoaiaaGreatDoor
