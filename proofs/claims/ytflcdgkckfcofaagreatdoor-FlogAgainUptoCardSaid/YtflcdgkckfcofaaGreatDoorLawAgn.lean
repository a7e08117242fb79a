/-
  FlogAgain's contract.
-/
import Derived.Test.YtflcdgkckfcofaaGreatDoorLawLasts
namespace Go.Proofs.YtflcdgkckfcofaaGreatDoor
open Go Go.Vc Go.Vc.Asn Go.Disk
section
variable {w : World} {x : LifeV} {ops : List OpV}
set_option maxHeartbeats 2000000 in
theorem flogAgain_c {ul : List Upd} {zs zs2 : List Int} (hG : GT w) (hE : ErrG w) (hS : Scr w x.sc ops) (hO : Ups w x.lu ul) (hul : (ops.map fun o => o.ul.length).sum + ul.length ≤ 1048576) (hz : Cel w x.l 1 (zs.map (Value.int .i64))) (hzl : zs.length ≤ 1048576)
    (hy : Cel w x.l2 1 (zs2.map (Value.int .i64))) (hyl : zs2.length ≤ 1048576) :
    Calls PP F_sherdlaw14_FlogAgain #[x.v] w (Rt fun v w' => v = .bool true ∧ Fr [] w w') := by
  refine sim_sherdlaw14_FlogAgain _ _ _ _ _ _ _ _ _ _ _ _ _ _ _ _ _ _ _ _ ?_
  unfold vc_sherdlaw14_FlogAgain
  refine (Hp.start w).new fun b20 w1 H => ?_
  refine call (played_c (x := x) hG hE hS H) ?_
  rintro _ w2 ⟨p, lp, h, q, L, D, rfl, hd, hq, hL, H⟩
  have hsl := hS.len
  refine ⟨_, _, _, _, rfl, fun h => (by cases h), fun _ => ?_⟩
  have H := H.drew 1
  refine ⟨_, H.cell (b := b20) (i := 0) rfl, _, H.cell (b := b20) (i := 1) rfl, _, H.cell (b := b20) (i := 2) rfl, _, H.cell (b := b20) (i := 3) rfl, _, H.cell (b := b20) (i := 4) rfl, _, H.cell (b := b20) (i := 5) rfl, _, H.cell (b := b20) (i := 6) rfl, _, H.cell (b := b20) (i := 7) rfl, _, H.cell (b := b20) (i := 8) rfl, _, H.cell (b := b20) (i := 9) rfl, _, H.cell (b := b20) (i := 10) rfl, _, H.cell (b := b20) (i := 11) rfl, _, H.cell (b := b20) (i := 12) rfl, _, H.cell (b := b20) (i := 13) rfl, _, H.cell (b := b20) (i := 14) rfl, _, H.cell (b := b20) (i := 15) rfl, _, H.cell (b := b20) (i := 16) rfl, _, H.cell (b := b20) (i := 17) rfl, x.lu, H.cell2 (b := b20) (i := 4) (j := 1) rfl, ?_⟩
  refine call (head_c (x := x)) ?_
  rintro _ w3 ⟨rfl, f3⟩
  have H := H.fr0 f3
  refine ⟨_, _, _, _, rfl, H.cell2 (b := b20) (i := 4) (j := 1) rfl, ?_⟩
  refine call (good_c hO (by omega) H) ?_
  rintro _ w4 ⟨g, rfl, H⟩
  have hgl := goodL_len ul
  have hgd := goodL_good hO
  have hgb := goodL_byt hO
  have hhl := hasOf_len ops []
  have hXl : (hasOf ops).length ≤ (ops.map fun o => o.ul.length).sum := by unfold hasOf; simpa using hhl
  have hXb : ∀ u ∈ hasOf ops, Byt w u.data u.ds := has_byt hS ops [] (fun o ho => ho) fun u hu => by simp at hu
  have hXg := hL.good
  generalize hG' : goodL ul = G at *
  generalize hasOf ops = X at *
  have H := H.drew 1
  refine ⟨g, rfl, x.at_, H.cell (b := b20) (i := 13) rfl, x.y, H.cell (b := b20) (i := 14) rfl, ?_⟩
  refine call (mod_c (by omega) (by omega)) ?_
  rintro _ _ ⟨rfl, rfl⟩
  refine ⟨_, rfl, H.cell (b := b20) (i := 14) rfl, ?_⟩
  refine call (dStop_c (H.take (diskA p D))) ?_
  rintro _ w5 ⟨rfl, D1, hD1, H⟩
  have hdd : ¬ D.dead = true := by have : D.dead = false := hL.calm.dead; rw [this]; decide
  rw [if_neg hdd] at hD1
  have hLs : LogSt x L D1.p X (4 + 4 * ops.length) := by rw [hD1]; exact hL.st (mod6 _) _
  have H : Hp w w5 (Can p lp q h g X G L (wrX x X) D1 (star (bk b20 Ty_sherdlaw14_Life x.c.toArray) emp)) := ((((H.take (diskA p D1)).take (PW q (wrX x X))).take (logA lp L)).own g).own h
  refine ⟨_, rfl, ?_⟩
  refine ⟨fun w' => ∃ e, LastI w x p lp h g X G x.lk (star (bk b20 Ty_sherdlaw14_Life x.c.toArray) emp) e w', ⟨x.lk, H.cell2 (b := b20) (i := 4) (j := 0) rfl, fun hk => ?_, fun hk => ⟨fun hk3 => ?_, fun hk3 => ?_⟩⟩, ?_⟩
  · have hk : x.lk = 2 := by simpa using hk
    refine call (last_append hk hG hE hd hLs hq (by omega) hgb hgd (by omega) H) ?_
    rintro _ w6 ⟨e, rfl, hI⟩
    exact ⟨_, rfl, ⟨e, hI⟩⟩
  · have hk3 : x.lk = 3 := by simpa using hk3
    refine call (last_compact hk3 hG hE hd hLs hq (by omega) hgb hgd (by omega) H) ?_
    rintro _ w6 ⟨e, rfl, hI⟩
    exact ⟨_, rfl, ⟨e, hI⟩⟩
  · have hk : ¬ x.lk = 2 := by simpa using hk
    have hk3 : ¬ x.lk = 3 := by simpa using hk3
    exact ⟨0, last_none hk hk3 hLs H⟩
  clear hLs hL hD1 H
  rintro w6 ⟨e, q', L', D', y, he, hgo, H⟩
  have hzc := hz.len
  have hyc := hy.len
  refine H.newRow (n := 0) (size := 1) [] rfl rfl (by decide) fun c1 w' H => ⟨x.l, H.cell (b := b20) (i := 15) rfl, ?_⟩
  refine Hp.app slT_sl_int (H.own ⟨some (blk c1), 0, 0⟩) (hz.fr0 H.fr) (one_ints _) (by unfold maxLen; simp at hzc ⊢; omega) (by simp at hzc ⊢; omega) fun s1 w' H _ => ?_
  rw [List.nil_append] at H
  refine call (dCrash_c (A := own Ty_int 1 s1 (zs.map (Value.int .i64))) zsOwn hgo.sz ((H.own s1).take (diskA p D'))) ?_
  rintro _ w9 ⟨qa, Ea, rfl, hEa, H⟩
  have hgo2 : ∀ i, i < 2 → Sized (({ D' with dead := true } : DiskM).p.sl i) := hgo.sz
  refine ⟨_, rfl, ?_⟩
  refine H.newRow (n := 0) (size := 1) [] rfl rfl (by decide) fun c2 w' H => ⟨x.l, H.cell (b := b20) (i := 15) rfl, ?_⟩
  refine Hp.app slT_sl_int (H.own ⟨some (blk c2), 0, 0⟩) (hz.fr0 H.fr) (one_ints _) (by unfold maxLen; simp at hzc ⊢; omega) (by simp at hzc ⊢; omega) fun s2 w' H _ => ?_
  rw [List.nil_append] at H
  refine call (dCrash_c (A := own Ty_int 1 s2 (zs.map (Value.int .i64))) zsOwn hgo2 ((H.own s2).take (diskA p { D' with dead := true }))) ?_
  rintro _ w12 ⟨qb, Eb, rfl, hEb, H⟩
  have hEb : Eb.p = crashP D'.p zs := hEb
  obtain ⟨c, b, Z, hr, hbl, hT, hZl, hP⟩ := hgo.cr zs
  have hra := hr
  rw [← hEa] at hra
  rw [← hEb] at hr
  refine ⟨_, rfl, _, H.cell (b := b20) (i := 0) rfl, _, H.cell (b := b20) (i := 1) rfl, _, H.cell (b := b20) (i := 2) rfl, _, H.cell (b := b20) (i := 3) rfl, _, H.cell (b := b20) (i := 4) rfl, _, H.cell (b := b20) (i := 5) rfl, _, H.cell (b := b20) (i := 6) rfl, _, H.cell (b := b20) (i := 7) rfl, _, H.cell (b := b20) (i := 8) rfl, _, H.cell (b := b20) (i := 9) rfl, _, H.cell (b := b20) (i := 10) rfl, _, H.cell (b := b20) (i := 11) rfl, _, H.cell (b := b20) (i := 12) rfl, _, H.cell (b := b20) (i := 13) rfl, _, H.cell (b := b20) (i := 14) rfl, _, H.cell (b := b20) (i := 15) rfl, _, H.cell (b := b20) (i := 16) rfl, _, H.cell (b := b20) (i := 17) rfl, ?_⟩
  refine call (found_any (x := x) hG hE hra hT hbl hZl (by omega) (H.take (diskA qa Ea))) ?_
  rintro _ w13 ⟨us, Y, E2, c2, rfl, hY, hYg, hYl, _, H⟩
  obtain ⟨SS, hSS⟩ : ∃ S, S = star (own Ty_api_Update 7 us (Y.map Upd.cells).flatten) (all rowU Y) := ⟨_, rfl⟩
  rw [← hSS] at H
  have hUS : UpsA w SS us Y := by rw [hSS]; exact rowsUps hYg
  have hUh : UpsA w (own Ty_api_Update 7 h (X.map Upd.cells).flatten) h X := ownUps hXb hXg
  have hUg : UpsA w (own Ty_api_Update 7 g (G.map Upd.cells).flatten) g G := ownUps hgb hgd
  refine ⟨_, _, rfl, fun y w' => y = false ∧ Fr [] w13 w', ⟨fun _ => ?_, fun h => (by simp at h)⟩, ?_⟩
  · refine ⟨_, H.cell2 (b := b20) (i := 4) (j := 0) rfl, _, H.cell2 (b := b20) (i := 4) (j := 1) rfl, _, H.cell2 (b := b20) (i := 4) (j := 2) rfl, _, H.cell2 (b := b20) (i := 4) (j := 3) rfl, _, H.cell2 (b := b20) (i := 4) (j := 4) rfl, _, H.cell2 (b := b20) (i := 4) (j := 5) rfl, _, H.cell2 (b := b20) (i := 4) (j := 6) rfl, _, H.cell2 (b := b20) (i := 4) (j := 7) rfl, _, H.cell2 (b := b20) (i := 4) (j := 8) rfl, ?_⟩
    refine call (among_c (hUS.at_ H) (hUh.at_ H) (hUg.at_ H) hYl (by omega) (by omega) (hP.among hY)) ?_
    rintro _ w14 ⟨rfl, f14⟩
    exact ⟨_, rfl, rfl, f14⟩
  rintro _ w14 ⟨rfl, f14⟩
  have H := H.fr0 f14
  refine ⟨fun h => (by cases h), fun _ => ?_⟩
  have H := H.drew 1
  refine ⟨x.ag, H.cell (b := b20) (i := 16) rfl, x.y, H.cell (b := b20) (i := 14) rfl, ?_⟩
  refine call (mod_c (by omega) (by omega)) ?_
  rintro _ _ ⟨rfl, rfl⟩
  refine ⟨_, rfl, H.cell (b := b20) (i := 14) rfl, ?_⟩
  refine call (dStop_c (H.take (diskA qb Eb))) ?_
  rintro _ w15 ⟨rfl, E3, hE3, H⟩
  have hdb : ¬ Eb.dead = true := by have : Eb.dead = false := hr.dead; rw [this]; decide
  rw [if_neg hdb] at hE3
  have hst : Still E3.p c b 0 zMax := by rw [hE3]; exact hr.stop (mod6 _) _
  refine ⟨_, rfl, _, H.cell (b := b20) (i := 0) rfl, _, H.cell (b := b20) (i := 1) rfl, _, H.cell (b := b20) (i := 2) rfl, _, H.cell (b := b20) (i := 3) rfl, _, H.cell (b := b20) (i := 4) rfl, _, H.cell (b := b20) (i := 5) rfl, _, H.cell (b := b20) (i := 6) rfl, _, H.cell (b := b20) (i := 7) rfl, _, H.cell (b := b20) (i := 8) rfl, _, H.cell (b := b20) (i := 9) rfl, _, H.cell (b := b20) (i := 10) rfl, _, H.cell (b := b20) (i := 11) rfl, _, H.cell (b := b20) (i := 12) rfl, _, H.cell (b := b20) (i := 13) rfl, _, H.cell (b := b20) (i := 14) rfl, _, H.cell (b := b20) (i := 15) rfl, _, H.cell (b := b20) (i := 16) rfl, _, H.cell (b := b20) (i := 17) rfl, ?_⟩
  refine call (head_c (x := x)) ?_
  rintro _ w16 ⟨rfl, f16⟩
  have H := H.fr0 f16
  refine ⟨_, _, _, _, rfl, ?_⟩
  refine call (open_stop (x := x) hG hE hst hT hbl hZl (by omega) H) ?_
  rintro _ w17 ⟨⟨a, us2, e2, rfl⟩, E4, hgo4, H⟩
  refine ⟨_, _, _, rfl, ?_⟩
  refine H.newRow (n := 0) (size := 1) [] rfl rfl (by decide) fun c3 w' H => ⟨x.l2, H.cell (b := b20) (i := 17) rfl, ?_⟩
  refine Hp.app slT_sl_int (H.own ⟨some (blk c3), 0, 0⟩) (hy.fr0 H.fr) (one_ints _) (by unfold maxLen; simp at hyc ⊢; omega) (by simp at hyc ⊢; omega) fun s3 w' H _ => ?_
  rw [List.nil_append] at H
  refine call (dCrash_c (A := own Ty_int 1 s3 (zs2.map (Value.int .i64))) zsOwn hgo4.sz ((H.own s3).take (diskA qb E4))) ?_
  rintro _ w20 ⟨qc, Ec, rfl, hEc, H⟩
  obtain ⟨c4, b4, Z4, hr4, hbl4, hT4, hZl4, rfl⟩ := hgo4.cr zs2
  rw [← hEc] at hr4
  refine ⟨_, rfl, _, H.cell (b := b20) (i := 0) rfl, _, H.cell (b := b20) (i := 1) rfl, _, H.cell (b := b20) (i := 2) rfl, _, H.cell (b := b20) (i := 3) rfl, _, H.cell (b := b20) (i := 4) rfl, _, H.cell (b := b20) (i := 5) rfl, _, H.cell (b := b20) (i := 6) rfl, _, H.cell (b := b20) (i := 7) rfl, _, H.cell (b := b20) (i := 8) rfl, _, H.cell (b := b20) (i := 9) rfl, _, H.cell (b := b20) (i := 10) rfl, _, H.cell (b := b20) (i := 11) rfl, _, H.cell (b := b20) (i := 12) rfl, _, H.cell (b := b20) (i := 13) rfl, _, H.cell (b := b20) (i := 14) rfl, _, H.cell (b := b20) (i := 15) rfl, _, H.cell (b := b20) (i := 16) rfl, _, H.cell (b := b20) (i := 17) rfl, ?_⟩
  refine call (found_any (x := x) hG hE hr4 hT4 hbl4 hZl4 (by omega) H) ?_
  rintro _ w21 ⟨us3, Y3, E5, c5, rfl, hY3, hYg3, hYl3, hr5, H⟩
  obtain ⟨S3, hS3⟩ : ∃ S, S = star (own Ty_api_Update 7 us3 (Y3.map Upd.cells).flatten) (all rowU Y3) := ⟨_, rfl⟩
  rw [← hS3] at H
  have hUS3 : UpsA w S3 us3 Y3 := by rw [hS3]; exact rowsUps hYg3
  refine ⟨_, _, rfl, fun y w' => y = false ∧ Fr [] w21 w', ⟨fun _ => ?_, fun h => (by simp at h)⟩, ?_⟩
  · refine call (fupdates_c (hUS3.at_ H) (hUS.at_ H) (by omega)) ?_
    rintro _ w22 ⟨⟨r, rfl, hr⟩, f22⟩
    exact ⟨_, rfl, by rw [hr.2 (hY3.trans hY.symm)]; rfl, f22⟩
  rintro _ w22 ⟨rfl, f22⟩
  have H := H.fr0 f22
  refine ⟨fun h => (by cases h), fun _ => ?_⟩
  refine call (dActs_c (H.take (diskA qc E5))) ?_
  rintro _ w22 ⟨rfl, rfl⟩
  refine ⟨_, rfl, _, H.cell (b := b20) (i := 0) rfl, _, H.cell (b := b20) (i := 1) rfl, _, H.cell (b := b20) (i := 2) rfl, _, H.cell (b := b20) (i := 3) rfl, _, H.cell (b := b20) (i := 4) rfl, _, H.cell (b := b20) (i := 5) rfl, _, H.cell (b := b20) (i := 6) rfl, _, H.cell (b := b20) (i := 7) rfl, _, H.cell (b := b20) (i := 8) rfl, _, H.cell (b := b20) (i := 9) rfl, _, H.cell (b := b20) (i := 10) rfl, _, H.cell (b := b20) (i := 11) rfl, _, H.cell (b := b20) (i := 12) rfl, _, H.cell (b := b20) (i := 13) rfl, _, H.cell (b := b20) (i := 14) rfl, _, H.cell (b := b20) (i := 15) rfl, _, H.cell (b := b20) (i := 16) rfl, _, H.cell (b := b20) (i := 17) rfl, ?_⟩
  refine call (found_c (x := x) hG hE hr5 hYg3 hYl3 (by omega) (H.take (diskA qc E5))) ?_
  rintro _ w23 ⟨us6, Y6, E6, rfl, hY6, hYg6, hE6, H⟩
  obtain ⟨S6, hS6⟩ : ∃ S, S = star (own Ty_api_Update 7 us6 (Y6.map Upd.cells).flatten) (all rowU Y6) := ⟨_, rfl⟩
  rw [← hS6] at H
  have hUS6 : UpsA w S6 us6 Y6 := by rw [hS6]; exact rowsUps hYg6
  have hYl6 : Y6.length = Y3.length := by have := congrArg List.length hY6; simpa using this
  refine ⟨_, _, rfl, fun y w' => y = true ∧ Fr [] w23 w', ⟨fun _ => ?_, fun h => (by cases h)⟩, ?_⟩
  · refine call (fupdates_c (hUS6.at_ H) (hUS.at_ H) (by omega)) ?_
    rintro _ w24 ⟨⟨r, rfl, hr⟩, f24⟩
    exact ⟨_, rfl, hr.2 (hY6.trans (hY3.trans hY.symm)), f24⟩
  rintro _ w24 ⟨rfl, f24⟩
  have H := H.fr0 f24
  refine ⟨fun y w' => y = true ∧ w' = w24, ⟨fun _ => ?_, fun h => (by cases h)⟩, ?_⟩
  · refine call (dActs_c (H.take (diskA qc E6))) ?_
    rintro _ _ ⟨rfl, rfl⟩
    have ea : E6.acts = E5.acts := congrArg DiskP.acts hE6
    exact ⟨_, rfl, by rw [ea]; simp, rfl⟩
  rintro _ _ ⟨rfl, rfl⟩
  exact Rt.ok ⟨rfl, H.fr⟩
end
end Go.Proofs.YtflcdgkckfcofaaGreatDoor
