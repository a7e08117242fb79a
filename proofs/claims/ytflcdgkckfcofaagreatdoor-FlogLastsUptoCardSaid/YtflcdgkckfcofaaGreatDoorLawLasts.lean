/-
  FlogLasts' and FlogAgain's contracts.
-/
import Derived.Test.YtflcdgkckfcofaaGreatDoorLawLast
namespace Go.Proofs.YtflcdgkckfcofaaGreatDoor
open Go Go.Vc Go.Vc.Asn Go.Disk
def LastP (k : Int) (X G : List Upd) (e : Int) (Z : List Up) : Prop :=
  (k = 2 ∧ ∃ i, i ≤ G.length ∧ Z = X.map Vc_up ++ (G.map Vc_up).take i ∧ (e = 0 → i = G.length)) ∨ (k = 3 ∧ (Z = G.map Vc_up ∨ (e ≠ 0 ∧ Z = X.map Vc_up))) ∨ (k ≠ 2 ∧ k ≠ 3 ∧ Z = X.map Vc_up)
theorem LastP.among {k : Int} {X G Y : List Upd} {e : Int} {Z : List Up} (h : LastP k X G e Z) (hY : Y.map Vc_up = Z) : Y.map Vc_up = X.map Vc_up ∨ (k = 3 ∧ Y.map Vc_up = G.map Vc_up) ∨ (k = 2 ∧ ∃ i, i ≤ G.length ∧ Y.map Vc_up = X.map Vc_up ++ (G.map Vc_up).take i) := by
  subst hY
  rcases h with ⟨h1, i, h2, h3, _⟩ | ⟨h1, h2 | ⟨_, h2⟩⟩ | ⟨_, _, h⟩
  · exact .inr (.inr ⟨h1, i, h2, h3⟩)
  · exact .inr (.inl ⟨h1, h2⟩)
  · exact .inl h2
  · exact .inl h
section
variable {w0 w : World} {F : Asn} {h g : Slc} {X G : List Upd} {p lp q m : Nat} {L : LogM} {D : DiskM} {x : LifeV} {ops : List OpV}
abbrev Can (p lp q : Nat) (h g : Slc) (X G : List Upd) (L : LogM) (y : List UInt8 × Int) (D : DiskM) (F : Asn) : Asn :=
  star (own Ty_api_Update 7 h (X.map Upd.cells).flatten) (star (own Ty_api_Update 7 g (G.map Upd.cells).flatten) (star (logA lp L) (star (PW q y) (star (diskA p D) F))))
def LastI (w0 : World) (x : LifeV) (p lp : Nat) (h g : Slc) (X G : List Upd) (k : Int) (F : Asn) (e : Int) (w' : World) : Prop :=
  ∃ q' L' D' y, (e = 0 ∨ (e = 60 ∧ L'.broken = 60)) ∧ Gone x D'.p (LastP k X G e) ∧ Hp w0 w' (Can p lp q' h g X G L' y D' F)
theorem last_append {k : Int} (hk : k = 2) (hG : GT w0) (hE : ErrG w0) (hd : L.d = p) (hL : LogSt x L D.p X m) (hq : L.q = some q) (hm : m ≤ 1073741824) (hgb : ∀ u ∈ G, Byt w0 u.data u.ds) (hg : ∀ u ∈ G, GoodU u) (hl : X.length + G.length ≤ 1048576)
    (H : Hp w0 w (Can p lp q h g X G L (wrX x X) D F)) : Calls PP F_flog_Log_Append #[.pointer (some (blk lp)), g.v] w (Rt fun v w' => ∃ e, v = .int .i64 e ∧ LastI w0 x p lp h g X G k F e w') := by
  have H := (((H.own g).take (diskA p D)).take (PW q (wrX x X))).take (logA lp L)
  rw [← hd] at H
  refine Rt.mono (append_stop hG hE hL hq hm (ownUps hgb hg) hg hl H) ?_
  rintro v w1 ⟨e, q', L', D', rfl, he, hd', hgo, y, _, H⟩
  unfold logW at H
  rw [hd', hd] at H
  exact ⟨e, rfl, q', L', D', y, he.imp id fun h => ⟨h.1, h.2.1⟩, hgo.mono fun Z hZ => .inl ⟨hk, hZ⟩, (((((H.take (diskA p D')).take (PW q' y)).take (logA lp L')).own g).own h)⟩
theorem last_compact {k : Int} (hk : k = 3) (hG : GT w0) (hE : ErrG w0) (hd : L.d = p) (hL : LogSt x L D.p X m) (hq : L.q = some q) (hm : m ≤ 1073741824) (hgb : ∀ u ∈ G, Byt w0 u.data u.ds) (hg : ∀ u ∈ G, GoodU u) (hl : G.length ≤ 1048576)
    (H : Hp w0 w (Can p lp q h g X G L (wrX x X) D F)) : Calls PP F_flog_Log_Compact #[.pointer (some (blk lp)), g.v] w (Rt fun v w' => ∃ e, v = .int .i64 e ∧ LastI w0 x p lp h g X G k F e w') := by
  have H := (((H.own g).take (diskA p D)).take (PW q (wrX x X))).take (logA lp L)
  rw [← hd] at H
  refine Rt.mono (compact_stop hG hE hL hq hm (ownUps hgb hg) hg hl H) ?_
  rintro v w1 ⟨e, q', L', D', rfl, he, hd', hgo, y, _, H⟩
  unfold logW at H
  rw [hd', hd] at H
  exact ⟨e, rfl, q', L', D', y, he.imp id fun h => ⟨h.1, h.2.1⟩, hgo.mono fun Z hZ => .inr (.inl ⟨hk, hZ⟩), (((((H.take (diskA p D')).take (PW q' y)).take (logA lp L')).own g).own h)⟩
theorem last_none {k : Int} (h2 : k ≠ 2) (h3 : k ≠ 3) (hL : LogSt x L D.p X m) (H : Hp w0 w (Can p lp q h g X G L (wrX x X) D F)) : LastI w0 x p lp h g X G k F 0 w :=
  ⟨q, L, D, _, .inl rfl, (gone_still (x := x) hL.still (logX_z x hL.good hL.len) (torn_whole x.may (good_upo hL.good)) (by rw [List.length_map]; exact hL.len)).mono fun Z hZ => .inr (.inr ⟨h2, h3, hZ⟩), H⟩
theorem mod6 (k : Int) : modI k 6 ≤ 6 := by have := modI_at (k := k) (n := 6) (by omega); omega
set_option maxHeartbeats 2000000 in
theorem flogLasts_c {ul : List Upd} {zs : List Int} (hG : GT w) (hE : ErrG w) (hS : Scr w x.sc ops) (hO : Ups w x.lu ul) (hul : (ops.map fun o => o.ul.length).sum + ul.length ≤ 1048576) (hz : Cel w x.l 1 (zs.map (Value.int .i64))) (hzl : zs.length ≤ 1048576) :
    Calls PP F_sherdlaw14_FlogLasts #[x.v] w (Rt fun v w' => v = .bool true ∧ Fr [] w w') := by
  refine sim_sherdlaw14_FlogLasts _ _ _ _ _ _ _ _ _ _ _ _ _ _ _ _ _ _ _ _ ?_
  unfold vc_sherdlaw14_FlogLasts
  refine (Hp.start w).new fun b20 w1 H => ?_
  refine call (played_c (x := x) hG hE hS H) ?_
  rintro _ w2 ⟨p, lp, h, q, L, D, rfl, hd, hq, hL, H⟩
  have hsl := hS.len
  refine ⟨_, _, _, _, rfl, fun h => (by cases h), fun _ => ?_⟩
  have H := H.drew 1
  refine ⟨_, H.cell (b := b20) (i := 0) rfl, _, H.cell (b := b20) (i := 1) rfl, _, H.cell (b := b20) (i := 2) rfl, _, H.cell (b := b20) (i := 3) rfl, _, H.cell (b := b20) (i := 4) rfl, _, H.cell (b := b20) (i := 5) rfl, _, H.cell (b := b20) (i := 6) rfl, _, H.cell (b := b20) (i := 7) rfl, _, H.cell (b := b20) (i := 8) rfl, _, H.cell (b := b20) (i := 9) rfl, _, H.cell (b := b20) (i := 10) rfl, _, H.cell (b := b20) (i := 11) rfl, _, H.cell (b := b20) (i := 12) rfl, _, H.cell (b := b20) (i := 13) rfl, _, H.cell (b := b20) (i := 14) rfl, _, H.cell (b := b20) (i := 15) rfl, _, H.cell (b := b20) (i := 16) rfl, _, H.cell (b := b20) (i := 17) rfl, x.lu, H.cell2 (b := b20) (i := 4) (j := 1) rfl, ?_⟩
  refine call (head_c (x := x)) ?_
  rintro _ w3 ⟨rfl, f3⟩
  have H := H.fr0 f3
  refine ⟨_, _, _, _, rfl, H.cell2 (b := b20) (i := 4) (j := 1) rfl, ?_⟩
  refine call (good_c hO (by omega) H) ?_
  rintro _ w4 ⟨g, rfl, H⟩
  have hgl := goodL_len ul
  have hgd := goodL_good hO
  have hgb := goodL_byt hO
  have hhl := hasOf_len ops []
  have hXl : (hasOf ops).length ≤ (ops.map fun o => o.ul.length).sum := by unfold hasOf; simpa using hhl
  have hXb : ∀ u ∈ hasOf ops, Byt w u.data u.ds := has_byt hS ops [] (fun o ho => ho) fun u hu => by simp at hu
  have hXg := hL.good
  generalize hG' : goodL ul = G at *
  generalize hasOf ops = X at *
  have H := H.drew 1
  refine ⟨g, rfl, x.at_, H.cell (b := b20) (i := 13) rfl, x.y, H.cell (b := b20) (i := 14) rfl, ?_⟩
  refine call (mod_c (by omega) (by omega)) ?_
  rintro _ _ ⟨rfl, rfl⟩
  refine ⟨_, rfl, H.cell (b := b20) (i := 14) rfl, ?_⟩
  refine call (dStop_c (H.take (diskA p D))) ?_
  rintro _ w5 ⟨rfl, D1, hD1, H⟩
  have hdd : ¬ D.dead = true := by have : D.dead = false := hL.calm.dead; rw [this]; decide
  rw [if_neg hdd] at hD1
  have hLs : LogSt x L D1.p X (4 + 4 * ops.length) := by rw [hD1]; exact hL.st (mod6 _) _
  have H : Hp w w5 (Can p lp q h g X G L (wrX x X) D1 (star (bk b20 Ty_sherdlaw14_Life x.c.toArray) emp)) := ((((H.take (diskA p D1)).take (PW q (wrX x X))).take (logA lp L)).own g).own h
  rw [if_neg hdd]
  refine ⟨_, rfl, fun h => (by simp at h), fun _ => ?_⟩
  refine ⟨fun e w' => LastI w x p lp h g X G x.lk (star (bk b20 Ty_sherdlaw14_Life x.c.toArray) emp) e w', ⟨x.lk, H.cell2 (b := b20) (i := 4) (j := 0) rfl, fun hk => ?_, fun hk => ⟨fun hk3 => ?_, fun hk3 => ?_⟩⟩, ?_⟩
  · have hk : x.lk = 2 := by simpa using hk
    refine call (last_append hk hG hE hd hLs hq (by omega) hgb hgd (by omega) H) ?_
    rintro _ w6 ⟨e, rfl, hI⟩
    exact ⟨_, rfl, hI⟩
  · have hk3 : x.lk = 3 := by simpa using hk3
    refine call (last_compact hk3 hG hE hd hLs hq (by omega) hgb hgd (by omega) H) ?_
    rintro _ w6 ⟨e, rfl, hI⟩
    exact ⟨_, rfl, hI⟩
  · have hk : ¬ x.lk = 2 := by simpa using hk
    have hk3 : ¬ x.lk = 3 := by simpa using hk3
    exact last_none hk hk3 hLs H
  clear hLs hL hD1 H
  rintro e w6 ⟨q', L', D', y, he, hgo, H⟩
  have hzc := hz.len
  have H := H.drew 1
  refine ⟨_, H.cell (b := b20) (i := 0) rfl, _, H.cell (b := b20) (i := 1) rfl, _, H.cell (b := b20) (i := 2) rfl, _, H.cell (b := b20) (i := 3) rfl, _, H.cell (b := b20) (i := 4) rfl, _, H.cell (b := b20) (i := 5) rfl, _, H.cell (b := b20) (i := 6) rfl, _, H.cell (b := b20) (i := 7) rfl, _, H.cell (b := b20) (i := 8) rfl, _, H.cell (b := b20) (i := 9) rfl, _, H.cell (b := b20) (i := 10) rfl, _, H.cell (b := b20) (i := 11) rfl, _, H.cell (b := b20) (i := 12) rfl, _, H.cell (b := b20) (i := 13) rfl, _, H.cell (b := b20) (i := 14) rfl, _, H.cell (b := b20) (i := 15) rfl, _, H.cell (b := b20) (i := 16) rfl, _, H.cell (b := b20) (i := 17) rfl, x.l, H.cell (b := b20) (i := 15) rfl, ?_⟩
  refine H.newRow (n := 0) (size := 1) [] rfl rfl (by decide) fun c1 w7 H => ⟨H.cell (b := b20) (i := 0) rfl, H.cell (b := b20) (i := 1) rfl, H.cell (b := b20) (i := 2) rfl, H.cell (b := b20) (i := 3) rfl, H.cell (b := b20) (i := 4) rfl, H.cell (b := b20) (i := 5) rfl, H.cell (b := b20) (i := 6) rfl, H.cell (b := b20) (i := 7) rfl, H.cell (b := b20) (i := 8) rfl, H.cell (b := b20) (i := 9) rfl, H.cell (b := b20) (i := 10) rfl, H.cell (b := b20) (i := 11) rfl, H.cell (b := b20) (i := 12) rfl, H.cell (b := b20) (i := 13) rfl, H.cell (b := b20) (i := 14) rfl, H.cell (b := b20) (i := 15) rfl, H.cell (b := b20) (i := 16) rfl, H.cell (b := b20) (i := 17) rfl, H.cell (b := b20) (i := 15) rfl, ?_⟩
  refine Hp.app slT_sl_int (H.own ⟨some (blk c1), 0, 0⟩) (hz.fr0 H.fr) (one_ints _) (by unfold maxLen; simp at hzc ⊢; omega) (by simp at hzc ⊢; omega) fun s1 w8 H _ => ⟨H.cell (b := b20) (i := 0) rfl, H.cell (b := b20) (i := 1) rfl, H.cell (b := b20) (i := 2) rfl, H.cell (b := b20) (i := 3) rfl, H.cell (b := b20) (i := 4) rfl, H.cell (b := b20) (i := 5) rfl, H.cell (b := b20) (i := 6) rfl, H.cell (b := b20) (i := 7) rfl, H.cell (b := b20) (i := 8) rfl, H.cell (b := b20) (i := 9) rfl, H.cell (b := b20) (i := 10) rfl, H.cell (b := b20) (i := 11) rfl, H.cell (b := b20) (i := 12) rfl, H.cell (b := b20) (i := 13) rfl, H.cell (b := b20) (i := 14) rfl, H.cell (b := b20) (i := 15) rfl, H.cell (b := b20) (i := 16) rfl, H.cell (b := b20) (i := 17) rfl, ?_⟩
  rw [List.nil_append] at H
  refine call (dCrash_c (A := own Ty_int 1 s1 (zs.map (Value.int .i64))) zsOwn hgo.sz ((H.own s1).take (diskA p D'))) ?_
  rintro _ w9 ⟨q2, E, rfl, hEp, H⟩
  obtain ⟨c, b, Z, hr, hbl, hT, hZl, hP⟩ := hgo.cr zs
  rw [← hEp] at hr
  refine ⟨_, rfl, H.cell (b := b20) (i := 0) rfl, H.cell (b := b20) (i := 1) rfl, H.cell (b := b20) (i := 2) rfl, H.cell (b := b20) (i := 3) rfl, H.cell (b := b20) (i := 4) rfl, H.cell (b := b20) (i := 5) rfl, H.cell (b := b20) (i := 6) rfl, H.cell (b := b20) (i := 7) rfl, H.cell (b := b20) (i := 8) rfl, H.cell (b := b20) (i := 9) rfl, H.cell (b := b20) (i := 10) rfl, H.cell (b := b20) (i := 11) rfl, H.cell (b := b20) (i := 12) rfl, H.cell (b := b20) (i := 13) rfl, H.cell (b := b20) (i := 14) rfl, H.cell (b := b20) (i := 15) rfl, H.cell (b := b20) (i := 16) rfl, H.cell (b := b20) (i := 17) rfl, ?_⟩
  refine call (found_any (x := x) hG hE hr hT hbl hZl (by omega) H) ?_
  rintro _ w10 ⟨us, Y, E2, c2, rfl, hY, hYg, hYl, _, H⟩
  obtain ⟨SS, hSS⟩ : ∃ S, S = star (own Ty_api_Update 7 us (Y.map Upd.cells).flatten) (all rowU Y) := ⟨_, rfl⟩
  rw [← hSS] at H
  have hUus : ∀ {w'}, Hp w w' SS → Ups w' us Y := fun H => by
    obtain ⟨f, S, _, ha⟩ := H
    rw [hSS] at ha
    exact rowsUps (w0 := w) hYg _ S f ha
  have hUS : UpsA w SS us Y := by rw [hSS]; exact rowsUps hYg
  have hUh : UpsA w (own Ty_api_Update 7 h (X.map Upd.cells).flatten) h X := ownUps hXb hXg
  have hUg : UpsA w (own Ty_api_Update 7 g (G.map Upd.cells).flatten) g G := ownUps hgb hgd
  refine ⟨_, _, rfl, fun y w' => y = false ∧ Fr [] w10 w', ⟨fun _ => ?_, fun h => (by simp at h)⟩, ?_⟩
  · refine ⟨_, H.cell2 (b := b20) (i := 4) (j := 0) rfl, _, H.cell2 (b := b20) (i := 4) (j := 1) rfl, _, H.cell2 (b := b20) (i := 4) (j := 2) rfl, _, H.cell2 (b := b20) (i := 4) (j := 3) rfl, _, H.cell2 (b := b20) (i := 4) (j := 4) rfl, _, H.cell2 (b := b20) (i := 4) (j := 5) rfl, _, H.cell2 (b := b20) (i := 4) (j := 6) rfl, _, H.cell2 (b := b20) (i := 4) (j := 7) rfl, _, H.cell2 (b := b20) (i := 4) (j := 8) rfl, ?_⟩
    refine call (among_c (hUS.at_ H) (hUh.at_ H) (hUg.at_ H) hYl (by omega) (by omega) (hP.among hY)) ?_
    rintro _ w11 ⟨rfl, f11⟩
    exact ⟨_, rfl, rfl, f11⟩
  rintro _ w11 ⟨rfl, f11⟩
  have H := H.fr0 f11
  refine ⟨fun h => (by cases h), fun _ => ⟨fun h0 => ?_, fun h0 => ?_⟩⟩
  · obtain ⟨he, hbr⟩ : e = 60 ∧ L'.broken = 60 := by
      rcases he with h1 | h1
      · rw [h1] at h0; simp at h0
      · exact h1
    refine ⟨fun y w' => y = true ∧ w' = w11, ⟨fun _ => ?_, fun h => (by rw [he] at h; simp at h)⟩, ?_⟩
    · refine call (dDead_c (H.take (diskA p { D' with dead := true }))) ?_
      rintro _ _ ⟨rfl, rfl⟩
      exact ⟨_, rfl, rfl, rfl⟩
    rintro _ w11 ⟨rfl, rfl⟩
    refine ⟨fun y w' => y = true ∧ w' = w11, ⟨fun _ => ?_, fun h => (by cases h)⟩, ?_⟩
    · refine call (append_dead (us := g) hbr (H.take (logA lp L'))) ?_
      rintro _ _ ⟨rfl, rfl⟩
      exact ⟨_, rfl, by rw [he]; simp, rfl⟩
    rintro _ w11 ⟨rfl, rfl⟩
    refine ⟨fun y w' => y = true ∧ w' = w11, ⟨fun _ => ?_, fun h => (by cases h)⟩, ?_⟩
    · refine call (compact_dead (us := Slc.nil) hbr (H.take (logA lp L'))) ?_
      rintro _ _ ⟨rfl, rfl⟩
      exact ⟨_, rfl, by rw [he]; simp, rfl⟩
    rintro _ _ ⟨rfl, rfl⟩
    exact Rt.ok ⟨rfl, H.fr⟩
  · have he0 : e = 0 := by simpa using h0
    refine ⟨x.lk, H.cell2 (b := b20) (i := 4) (j := 0) rfl, fun hk => ?_, fun hk => ⟨fun hk3 => ?_, fun hk3 => ?_⟩⟩
    · have hk : x.lk = 2 := by simpa using hk
      have hYX : Y.map Vc_up = (X ++ G).map Vc_up := by
        rw [hY, List.map_append]
        rcases hP with ⟨_, i, h2, h3, h4⟩ | ⟨h1, _⟩ | ⟨h1, _⟩
        · rw [h3, h4 he0, List.take_of_length_le (by simp)]
        · omega
        · exact absurd hk h1
      have hhl := (hUh.at_ H).len
      have hgll := (hUg.at_ H).len
      refine H.newRow (n := 0) (size := 7) [] rfl rfl (by decide) fun c3 w12 H => ?_
      refine Hp.app slT_sl_api_Update (H.own ⟨some (blk c3), 0, 0⟩) (H.cel (s := h)) (one_ups _) (by unfold maxLen; simp only; omega) (by simp only; omega) fun s2 w13 H hs2 => ?_
      simp only at hs2
      refine Hp.app slT_sl_api_Update (H.own s2) (H.cel (s := g)) (one_ups _) (by unfold maxLen; omega) (by omega) fun s3 w14 H _ => ?_
      have hU2 : Ups w14 s3 (X ++ G) := by
        have e : ([] ++ (X.map Upd.cells).flatten) ++ (G.map Upd.cells).flatten = ((X ++ G).map Upd.cells).flatten := by simp
        have hc := (H.own s3).cel (s := s3)
        rw [e] at hc
        refine ⟨hc, fun u hu => ?_⟩
        rcases List.mem_append.1 hu with hu | hu
        · exact ⟨(hXb u hu).fr0 H.fr, by have := (hXg u hu).ds; omega⟩
        · exact ⟨(hgb u hu).fr0 H.fr, by have := (hgd u hu).ds; omega⟩
      refine call (fupdates_c (hUS.at_ H) hU2 (by omega)) ?_
      rintro _ w15 ⟨⟨r, rfl, hr⟩, f15⟩
      exact ⟨r, rfl, Rt.ok ⟨by rw [hr.2 hYX], H.fr.then_ f15⟩⟩
    · have hk3 : x.lk = 3 := by simpa using hk3
      have hYX : Y.map Vc_up = G.map Vc_up := by
        rw [hY]
        rcases hP with ⟨h1, _⟩ | ⟨_, h2 | ⟨h2, _⟩⟩ | ⟨_, h1, _⟩
        · omega
        · exact h2
        · exact absurd he0 h2
        · exact absurd hk3 h1
      refine call (fupdates_c (hUS.at_ H) (hUg.at_ H) (by omega)) ?_
      rintro _ w15 ⟨⟨r, rfl, hr⟩, f15⟩
      exact ⟨r, rfl, Rt.ok ⟨by rw [hr.2 hYX], H.fr.then_ f15⟩⟩
    · have hk : ¬ x.lk = 2 := by simpa using hk
      have hk3 : ¬ x.lk = 3 := by simpa using hk3
      have hYX : Y.map Vc_up = X.map Vc_up := by
        rw [hY]
        rcases hP with ⟨h1, _⟩ | ⟨h1, _⟩ | ⟨_, _, h1⟩
        · exact absurd h1 hk
        · exact absurd h1 hk3
        · exact h1
      refine call (fupdates_c (hUS.at_ H) (hUh.at_ H) (by omega)) ?_
      rintro _ w15 ⟨⟨r, rfl, hr⟩, f15⟩
      exact ⟨r, rfl, Rt.ok ⟨by rw [hr.2 hYX], H.fr.then_ f15⟩⟩
end
end Go.Proofs.YtflcdgkckfcofaaGreatDoor
