/-
  Plain laws: what is found of a log of which only some first bytes last.
-/
import Derived.Test.YtflcdgkckfcofaaGreatDoorLawF
namespace Go.Vc
open Go
theorem rnum_short (max : Int) : ∀ (m i n0 k : Nat), k < (uv m).length → i + (uv m).length ≤ 9 → (rnum max i n0 ((uv m).take k)).2.2 = 30 := by
  intro m
  induction m using Nat.strongRecOn with
  | ind m ih =>
    intro i n0 k hk hi
    by_cases h : m < 128
    · rw [uv_small h] at hk hi ⊢
      simp at hk
      subst hk
      simp only [List.take_zero]
      rw [rnum, if_pos (by simp at hi; omega)]
    · have h128 : 128 ≤ m := by omega
      rw [uv_big h128] at hk hi ⊢
      simp only [List.length_cons] at hk hi
      cases k with
      | zero =>
        simp only [List.take_zero]
        rw [rnum, if_pos (by omega)]
      | succ k =>
        have e1 : (UInt8.ofNat (m % 128 + 128)).toNat = m % 128 + 128 := u8_small (by omega)
        simp only [List.take_succ_cons]
        rw [rnum, if_pos (by omega), e1, if_neg (by omega)]
        exact ih (m / 128) (by omega) _ _ _ (by omega) (by omega)
end Go.Vc
namespace Go.Proofs.YtflcdgkckfcofaaGreatDoor
open Go Go.Vc
theorem front_take {X : List UInt8} {m : Nat} (hm : m = min (82 :: X).length 11) : (((82 :: X).take m).drop 1) = X.take (m - 1) := by
  obtain ⟨j, rfl⟩ : ∃ j, m = j + 1 := ⟨m - 1, by simp at hm; omega⟩
  simp
theorem next_short {body last X : List UInt8} {k : Nat} (hb : body.length ≤ 66000) (hX : X = (uv body.length ++ body ++ recSum last body).take k) (hk : k < (uv body.length ++ body ++ recSum last body).length) : (nextR (82 :: X) last).1 = 30 := by
  have h9 : (uv body.length).length ≤ 9 := uv_len9 (by omega)
  have hs := recSum_len last body
  simp only [List.length_append, hs] at hk
  have hXl : X.length = k := by rw [hX]; simp [hs]; omega
  unfold nextR
  simp only [front_take rfl]
  rw [if_neg (by simp)]
  by_cases hlt : k < (uv body.length).length
  · have hXu : X = (uv body.length).take k := by
      rw [hX, List.append_assoc, List.take_append_of_le_length (by omega)]
    have hmin : min (82 :: X).length 11 - 1 = k := by simp [hXl]; omega
    have ht : X.take (min (82 :: X).length 11 - 1) = (uv body.length).take k := by
      rw [hmin, hXu, List.take_take, Nat.min_self]
    have he : (uintR (X.take (min (82 :: X).length 11 - 1)) 66000 ⟨0, 0⟩).2.err = 30 := by
      rw [ht, uintR, if_neg (by simp)]
      simp only [List.drop_zero]
      exact rnum_short 66000 body.length 0 0 k hlt (by omega)
    rw [if_pos (by rw [he]; simp), if_pos he]
  · obtain ⟨r', hr⟩ : ∃ r', X.take (min (82 :: X).length 11 - 1) = [] ++ uv body.length ++ r' := by
      have : X = uv body.length ++ (body ++ recSum last body).take (k - (uv body.length).length) := by
        rw [hX, List.append_assoc, List.take_append, List.take_of_length_le (by omega)]
      refine ⟨((body ++ recSum last body).take (k - (uv body.length).length)).take (min (82 :: X).length 11 - 1 - (uv body.length).length), ?_⟩
      have hmin : (uv body.length).length ≤ min (82 :: X).length 11 - 1 := by simp [hXl]; omega
      generalize min (82 :: X).length 11 - 1 = q at *
      rw [this, List.take_append, List.take_of_length_le hmin]
      simp
    have hu := uintR_uv (bs := X.take (min (82 :: X).length 11 - 1)) (pre := []) (rest := r') (n := body.length) (max := 66000) hr (by omega) (by omega)
    simp only [List.length_nil, Nat.zero_add] at hu
    rw [hu]
    simp only
    rw [if_neg (by simp), if_pos]
    simp [hXl]
    omega
def markAt (h : Hd) (us : List Up) (i : Nat) : Nat := (wBs h (us.take i)).length
theorem wBs_split (h : Hd) (us : List Up) (i : Nat) : wBs h us = wBs h (us.take i) ++ logB (logLast h.last (us.take i)) (us.drop i) := by
  conv => lhs; rw [← List.take_append_drop i us]
  rw [wBs, logB_append, ← List.append_assoc]
  rfl
theorem wBs_next (h : Hd) (us : List Up) (i : Nat) (hi : i < us.length) : ∃ r, wBs h us = wBs h (us.take i) ++ (recPre us[i].body ++ recSum (logLast h.last (us.take i)) us[i].body) ++ r ∧ markAt h us (i + 1) = markAt h us i + (recPre us[i].body ++ recSum (logLast h.last (us.take i)) us[i].body).length := by
  refine ⟨logB (recSum (logLast h.last (us.take i)) us[i].body) (us.drop (i + 1)), ?_, ?_⟩
  · rw [wBs_split h us i, List.drop_eq_getElem_cons hi, logB]
    simp [List.append_assoc]
  · unfold markAt
    rw [List.take_succ_eq_append_getElem hi]
    unfold wBs
    rw [logB_snoc]
    simp only [List.length_append]
    omega
theorem torn_scan {h : Hd} {us : List Up} {n i : Nat} (hm : HdOk h) (hu : Upo us) (_hi : i ≤ us.length) (h1 : markAt h us i ≤ n) (h2 : i < us.length → n < markAt h us (i + 1)) (hn : n ≤ (wBs h us).length) :
    okH ((wBs h us).take n) = true ∧ readH ((wBs h us).take n) = h ∧ (scanT ((wBs h us).take n)).1 = us.take i ∧ (scanT ((wBs h us).take n)).2.1 = logMarks h.bs.length (us.take i) ∧ (scanT ((wBs h us).take n)).2.2.1 = if markAt h us i = n then 0 else 30 := by
  have hT : ∃ rest, (wBs h us).take n = wBs h (us.take i) ++ rest ∧ ((markAt h us i = n ∧ rest = []) ∨ (markAt h us i < n ∧ ∃ (u : Up) (X : List UInt8) (k : Nat), u.may = 0 ∧ rest = 82 :: X ∧ X = (uv u.body.length ++ u.body ++ recSum (logLast h.last (us.take i)) u.body).take k ∧ k < (uv u.body.length ++ u.body ++ recSum (logLast h.last (us.take i)) u.body).length)) := by
    by_cases he : markAt h us i = n
    · refine ⟨[], ?_, .inl ⟨he, rfl⟩⟩
      rw [wBs_split h us i, List.append_nil, ← he, markAt, List.take_left]
    · have hlt : i < us.length := by
        rcases Nat.lt_or_ge i us.length with hh | hh
        · exact hh
        · exfalso
          have : markAt h us i = (wBs h us).length := by rw [markAt, List.take_of_length_le hh]
          omega
      obtain ⟨r, hr, hk⟩ := wBs_next h us i hlt
      have h3 := h2 hlt
      have hm2 := (hu us[i] (List.getElem_mem _)).1
      generalize us[i] = u at *
      generalize logLast h.last (us.take i) = l at *
      refine ⟨(recPre u.body ++ recSum l u.body).take (n - markAt h us i), ?_, .inr ⟨by omega, u, (uv u.body.length ++ u.body ++ recSum l u.body).take (n - markAt h us i - 1), n - markAt h us i - 1, hm2, ?_, rfl, ?_⟩⟩
      · rw [hr, List.append_assoc, List.take_append, List.take_of_length_le (show (wBs h (us.take i)).length ≤ n from h1)]
        congr 1
        rw [List.take_append_of_le_length (by unfold markAt at hk h3 h1; omega)]
        rfl
      · obtain ⟨q, hq⟩ : ∃ q, n - markAt h us i = q + 1 := ⟨n - markAt h us i - 1, by omega⟩
        rw [hq]
        simp [recPre]
      · simp [recPre] at hk ⊢
        omega
  obtain ⟨rest, hb, hrest⟩ := hT
  generalize (wBs h us).take n = bs at *
  obtain ⟨a1, a2, a3⟩ := scanT_log hm (hu.take i) hb
  refine ⟨a1, a2, ?_⟩
  rw [a3]
  rcases hrest with ⟨he, rfl⟩ | ⟨hlt, u, X, k, hum, rfl, hX, hk⟩
  · rw [scanA_end (by rw [hb]; simp), if_pos he]
    simp
  · have hd : bs.drop (wBs h (us.take i)).length = 82 :: X := by rw [hb, List.drop_left]
    have hn0 := next_short (Nat.le_trans (body_len hum) (by omega)) hX hk
    rw [scanA_stop (by rw [hb]; simp) (by rw [hd, hn0]; simp), hd, hn0, if_neg (by omega)]
    simp
theorem markAt_mono {h : Hd} {us : List Up} {i j : Nat} (hij : i ≤ j) : markAt h us i ≤ markAt h us j := by
  unfold markAt
  have := congrArg List.length (wBs_split h (us.take j) i)
  rw [List.take_take, Nat.min_eq_left hij] at this
  simp at this
  omega
theorem tear {h : Hd} {X G : List Up} {j : Nat} (hm : HdOk h) (hu : Upo (X ++ G)) (hj : j ≤ (logB (logLast h.last X) G).length) :
    ∃ i, i ≤ G.length ∧ (j = (logB (logLast h.last X) G).length → i = G.length) ∧ okH (wBs h X ++ (logB (logLast h.last X) G).take j) = true ∧ readH (wBs h X ++ (logB (logLast h.last X) G).take j) = h ∧
      (scanT (wBs h X ++ (logB (logLast h.last X) G).take j)).1 = X ++ G.take i ∧ ((scanT (wBs h X ++ (logB (logLast h.last X) G).take j)).2.2.1 = 0 → wBs h X ++ (logB (logLast h.last X) G).take j = wBs h (X ++ G.take i)) := by
  have hw : wBs h (X ++ G) = wBs h X ++ logB (logLast h.last X) G := by unfold wBs; rw [logB_append, List.append_assoc]
  have hb : wBs h X ++ (logB (logLast h.last X) G).take j = (wBs h (X ++ G)).take ((wBs h X).length + j) := by
    rw [hw, List.take_length_add_append]
  have hlen : (wBs h (X ++ G)).length = (wBs h X).length + (logB (logLast h.last X) G).length := by rw [hw, List.length_append]
  have hX0 : markAt h (X ++ G) X.length = (wBs h X).length := by unfold markAt; rw [List.take_left]
  have hend : markAt h (X ++ G) (X ++ G).length = (wBs h (X ++ G)).length := by unfold markAt; rw [List.take_length]
  have hGl : (X ++ G).length = X.length + G.length := List.length_append
  have hex : ∃ i, X.length ≤ i ∧ i ≤ (X ++ G).length ∧ markAt h (X ++ G) i ≤ (wBs h X).length + j ∧ (i < (X ++ G).length → (wBs h X).length + j < markAt h (X ++ G) (i + 1)) := by
    have key : ∀ f i, (X ++ G).length - i ≤ f → X.length ≤ i → i ≤ (X ++ G).length → markAt h (X ++ G) i ≤ (wBs h X).length + j → ∃ i, X.length ≤ i ∧ i ≤ (X ++ G).length ∧ markAt h (X ++ G) i ≤ (wBs h X).length + j ∧ (i < (X ++ G).length → (wBs h X).length + j < markAt h (X ++ G) (i + 1)) := by
      intro f
      induction f with
      | zero => intro i h1 h0 h2 h3; exact ⟨i, h0, h2, h3, fun h => by omega⟩
      | succ f ih =>
        intro i h1 h0 h2 h3
        by_cases hx : i < (X ++ G).length ∧ markAt h (X ++ G) (i + 1) ≤ (wBs h X).length + j
        · exact ih (i + 1) (by omega) (by omega) (by omega) hx.2
        · exact ⟨i, h0, h2, h3, fun h => by
            rcases Nat.lt_or_ge ((wBs _ X).length + j) (markAt _ (X ++ G) (i + 1)) with hh | hh
            · exact hh
            · exact absurd ⟨h, hh⟩ hx⟩
    exact key _ X.length (Nat.le_refl _) (Nat.le_refl _) (by omega) (by omega)
  obtain ⟨i, h0, h1, h2, h3⟩ := hex
  obtain ⟨t1, t2, t3, _, t5⟩ := torn_scan hm hu h1 h2 h3 (by omega)
  have ei : (X ++ G).take i = X ++ G.take (i - X.length) := by rw [List.take_append, List.take_of_length_le h0]
  rw [← hb] at t1 t2 t3 t5
  refine ⟨i - X.length, by omega, fun hjj => ?_, t1, t2, ?_, fun hz => ?_⟩
  · rcases Nat.lt_or_ge i (X ++ G).length with hlt | hge
    · have h4 := h3 hlt
      have h5 := markAt_mono (h := h) (us := X ++ G) (show i + 1 ≤ (X ++ G).length by omega)
      omega
    · omega
  · rw [t3, ei]
  · rw [t5] at hz
    by_cases he : markAt h (X ++ G) i = (wBs h X).length + j
    · rw [hb, ← ei, wBs_split h (X ++ G) i, ← he]
      unfold markAt
      rw [List.take_left]
    · rw [if_neg he] at hz; exact absurd hz (by decide)
structure Torn (n k d s : Int) (b : List UInt8) (Z : List Up) : Prop where
  ok : okH b = true
  hd : readH b = ⟨n, k, d, s⟩
  sc : scanX b = Z
  cl : clean b = true → b = newB n k d s Z
  upo : Upo Z
theorem torn_whole {n k d s : Int} {X : List Up} (hm : mayHeadV n k d s = 0) (hu : Upo X) : Torn n k d s (newB n k d s X) X := by
  obtain ⟨s1, s2, s3, s4, s5⟩ := scan_newB hm hu
  exact ⟨s1, s2, s3, fun _ => rfl, hu⟩
theorem torn_tear {n k d s : Int} {X G : List Up} {j : Nat} (hm : mayHeadV n k d s = 0) (hu : Upo (X ++ G)) (hj : j ≤ (logB (logLast (hLast n k d s) X) G).length) :
    ∃ i, i ≤ G.length ∧ (j = (logB (logLast (hLast n k d s) X) G).length → i = G.length) ∧ Torn n k d s (newB n k d s X ++ (logB (logLast (hLast n k d s) X) G).take j) (X ++ G.take i) := by
  have hm' : HdOk ⟨n, k, d, s⟩ := hm
  obtain ⟨i, h1, h2, h3, h4, h5, h6⟩ := tear (j := j) hm' hu hj
  refine ⟨i, h1, h2, h3, h4, ?_, fun hc => ?_, fun u hu' => hu u ?_⟩
  · unfold scanX
    exact (if_pos h3).trans h5
  · unfold clean at hc
    rw [Bool.and_eq_true, decide_eq_true_eq] at hc
    exact h6 hc.2
  · rcases List.mem_append.1 hu' with h | h
    · exact List.mem_append_left _ h
    · exact List.mem_append_right _ (List.mem_of_mem_take h)
end Go.Proofs.YtflcdgkckfcofaaGreatDoor

/-
  Plain laws of a disk whose machine stops: what an act that is named leaves, what a crash leaves.
-/
namespace Go.Disk
open Go.Proofs.YtflcdgkckfcofaaGreatDoor
def SlP.after (s : SlP) (n : Nat) : List UInt8 := (s.acts.take n).foldl (fun b a => a.again b a.size) s.lasts
def chooseV (zs : List Int) (n : Nat) : Nat × List Int := match zs with
  | [] => (0, [])
  | z :: r => (((z.tmod n + n).tmod n).toNat, r)
theorem chooseV_lt (zs : List Int) {n : Nat} (hn : 0 < n) : (chooseV zs n).1 < n := by
  unfold chooseV
  split
  · exact hn
  · rename_i z r
    have h := Int.tmod_lt_of_pos (z.tmod n + n) (b := n) (by omega)
    dsimp only
    omega
def SlP.act (s : SlP) (w : Nat) : DAct := s.acts.getD w .wipe
def crashW (s : SlP) (w : Nat) (zs : List Int) : List UInt8 × List Int :=
  if 0 < (s.act w).size then ((s.act w).again (s.after w) (chooseV zs (s.act w).size).1, (chooseV zs (s.act w).size).2) else (s.after w, zs)
def crashSl (s : SlP) (zs : List Int) : List UInt8 × List Int := crashW s (chooseV zs (s.acts.length + 1)).1 (chooseV zs (s.acts.length + 1)).2
def crashP (D : DiskP) (zs : List Int) : DiskP :=
  ⟨⟨(crashSl D.s0 zs).1, (crashSl D.s0 zs).1, []⟩, ⟨(crashSl D.s1 (crashSl D.s0 zs).2).1, (crashSl D.s1 (crashSl D.s0 zs).2).1, []⟩, D.cur, 0, 0, false, false⟩
theorem crash_cases (s : SlP) (zs : List Int) : ∃ w, w ≤ s.acts.length ∧ ((crashSl s zs).1 = s.after w ∨ (0 < (s.act w).size ∧ ∃ k, k ≤ (s.act w).size ∧ (crashSl s zs).1 = (s.act w).again (s.after w) k)) := by
  have h := chooseV_lt zs (n := s.acts.length + 1) (by omega)
  refine ⟨(chooseV zs (s.acts.length + 1)).1, by omega, ?_⟩
  unfold crashSl crashW
  split
  · rename_i h0
    have h2 := chooseV_lt (chooseV zs (s.acts.length + 1)).2 h0
    exact .inr ⟨h0, _, by omega, rfl⟩
  · exact .inl rfl
theorem crash_nil {b n : List UInt8} (zs : List Int) : (crashSl ⟨b, n, []⟩ zs).1 = b := by
  obtain ⟨w, hw, h | ⟨h0, k, hk, h⟩⟩ := crash_cases ⟨b, n, []⟩ zs
  · rw [h]; simp [SlP.after]
  · simp [SlP.act, DAct.size] at h0
theorem crash_app {b n bs : List UInt8} (zs : List Int) : ∃ j, j ≤ bs.length ∧ (crashSl ⟨b, n, [.app bs]⟩ zs).1 = b ++ bs.take j := by
  obtain ⟨w, hw, h⟩ := crash_cases ⟨b, n, [.app bs]⟩ zs
  rcases (show w = 0 ∨ w = 1 by simp at hw; omega) with rfl | rfl
  · rcases h with h | ⟨h0, k, hk, h⟩
    · exact ⟨0, Nat.zero_le _, by rw [h]; simp [SlP.after]⟩
    · exact ⟨k, hk, by rw [h]; simp [SlP.after, SlP.act, DAct.again]⟩
  · rcases h with h | ⟨h0, k, hk, h⟩
    · exact ⟨bs.length, Nat.le_refl _, by rw [h]; simp [SlP.after, DAct.again, DAct.size]⟩
    · simp [SlP.act, DAct.size] at h0
theorem crash_wipe {b n : List UInt8} (zs : List Int) : (crashSl ⟨b, n, [.wipe]⟩ zs).1.length ≤ b.length := by
  obtain ⟨w, hw, h⟩ := crash_cases ⟨b, n, [.wipe]⟩ zs
  rcases (show w = 0 ∨ w = 1 by simp at hw; omega) with rfl | rfl
  · rcases h with h | ⟨h0, k, hk, h⟩
    · rw [h]; simp [SlP.after]
    · simp [SlP.act, DAct.size] at h0
  · rcases h with h | ⟨h0, k, hk, h⟩
    · rw [h]; simp [SlP.after, DAct.again]
    · simp [SlP.act, DAct.size] at h0
theorem crash_both {b n bs : List UInt8} (zs : List Int) : (crashSl ⟨b, n, [.wipe, .app bs]⟩ zs).1.length ≤ max b.length bs.length := by
  obtain ⟨w, hw, h⟩ := crash_cases ⟨b, n, [.wipe, .app bs]⟩ zs
  rcases (show w = 0 ∨ w = 1 ∨ w = 2 by simp at hw; omega) with rfl | rfl | rfl
  · rcases h with h | ⟨h0, k, hk, h⟩
    · rw [h]; simp [SlP.after]; omega
    · simp [SlP.act, DAct.size] at h0
  · rcases h with h | ⟨h0, k, hk, h⟩
    · rw [h]; simp [SlP.after, DAct.again]
    · rw [h]; simp [SlP.act, SlP.after, DAct.again]; omega
  · rcases h with h | ⟨h0, k, hk, h⟩
    · rw [h]; simp [SlP.after, DAct.again, DAct.size]; omega
    · simp [SlP.act, DAct.size] at h0
/-! ## What an act leaves -/
def core (D : DiskP) : SlP × SlP × Int := (D.s0, D.s1, D.cur)
theorem crashP_core {D E : DiskP} (h : core D = core E) (zs : List Int) : crashP D zs = crashP E zs := by
  obtain ⟨a, b, c, _, _, _, _⟩ := D
  obtain ⟨a', b', c', _, _, _, _⟩ := E
  simp only [core, Prod.mk.injEq] at h
  obtain ⟨rfl, rfl, rfl⟩ := h
  rfl
def CoreF (g : DiskP → DiskP) : Prop := ∀ D E, core D = core E → core (g D) = core (g E)
theorem sl_core {D E : DiskP} (h : core D = core E) (i : Nat) : D.sl i = E.sl i := by
  simp only [core, Prod.mk.injEq] at h
  unfold DiskP.sl
  rw [h.1, h.2.1]
theorem coreF_put {i : Nat} {f : SlP → SlP} : CoreF fun D => D.put i (f (D.sl i)) := by
  intro D E h
  dsimp only
  rw [sl_core h i]
  obtain ⟨a, b, c, _, _, _, _⟩ := D
  obtain ⟨a', b', c', _, _, _, _⟩ := E
  simp only [core, Prod.mk.injEq] at h
  obtain ⟨rfl, rfl, rfl⟩ := h
  unfold DiskP.put
  split <;> rfl
theorem coreF_app {i : Nat} {bs : List UInt8} : CoreF (gApp i bs) := by
  intro D E h
  unfold gApp
  split
  · exact h
  · exact coreF_put (f := fun s => s.do (.app bs)) D E h
theorem coreF_wipe {i : Nat} : CoreF (gWipe i) := coreF_put (f := fun s => s.do .wipe)
theorem coreF_sync {i : Nat} : CoreF (gSync i) := coreF_put (f := fun s => s.sync)
theorem coreF_switch {i : Nat} : CoreF (gSwitch i) := by
  intro D E h
  simp only [core, Prod.mk.injEq] at h
  unfold gSwitch core
  rw [h.1, h.2.1]
theorem act_stop {D : DiskP} {i : Nat} {w : Bool} {g : DiskP → DiskP} (hd : D.dead = false) (hw : ¬ (w = true ∧ (i : Int) = D.cur)) (hg : CoreF g) (hgd : ∀ D, (g D).dead = D.dead) :
    ((actR D i w g).2 = 0 ∧ (actR D i w g).1.dead = false ∧ core (actR D i w g).1 = core (g D)) ∨ ((actR D i w g).2 = 60 ∧ (actR D i w g).1.dead = true ∧ (core (actR D i w g).1 = core D ∨ core (actR D i w g).1 = core (g D))) := by
  have hd' : ¬ D.dead = true := by rw [hd]; decide
  unfold actR
  rw [if_neg hd', if_neg hw]
  split
  · refine .inr ⟨rfl, ?_⟩
    split
    · exact ⟨hgd _, .inr (hg _ D rfl)⟩
    · exact ⟨rfl, .inl rfl⟩
  · exact .inl ⟨rfl, hgd _, hg _ D rfl⟩
theorem app_dead (i : Nat) (bs : List UInt8) (D : DiskP) : (gApp i bs D).dead = D.dead := by unfold gApp; split; rfl; exact (put_acts D i _).2.2.1
theorem wipe_dead (i : Nat) (D : DiskP) : (gWipe i D).dead = D.dead := (put_acts D i _).2.2.1
theorem sync_dead (i : Nat) (D : DiskP) : (gSync i D).dead = D.dead := (put_acts D i _).2.2.1
theorem app_stop {D : DiskP} {i : Nat} {bs : List UInt8} (hd : D.dead = false) :
    ((appR D i bs).2 = 0 ∧ core (appR D i bs).1 = core (gSync i (gApp i bs D))) ∨ ((appR D i bs).2 = 60 ∧ (core (appR D i bs).1 = core D ∨ core (appR D i bs).1 = core (gApp i bs D) ∨ core (appR D i bs).1 = core (gSync i (gApp i bs D)))) := by
  unfold appR
  rcases act_stop (i := i) (w := false) hd (by simp) (coreF_app (bs := bs)) (app_dead i bs) with ⟨h1, h2, h3⟩ | ⟨h1, h2, h3⟩
  · rw [if_neg (by omega)]
    have e := coreF_sync (i := i) _ _ h3
    rcases act_stop (i := i) (w := false) h2 (by simp) (coreF_sync (i := i)) (sync_dead i) with ⟨k1, k2, k3⟩ | ⟨k1, k2, k3⟩
    · exact .inl ⟨k1, k3.trans e⟩
    · refine .inr ⟨k1, ?_⟩
      rcases k3 with k3 | k3
      · exact .inr (.inl (k3.trans h3))
      · exact .inr (.inr (k3.trans e))
  · rw [if_pos (by omega)]
    refine .inr ⟨h1, ?_⟩
    rcases h3 with h3 | h3
    · exact .inl h3
    · exact .inr (.inl h3)
theorem anew_stop {D : DiskP} {i : Nat} {bs : List UInt8} (hd : D.dead = false) (hc : ¬ (i : Int) = D.cur) :
    ((anewR D i bs).2 = 0 ∧ core (anewR D i bs).1 = core (gSwitch i (gSync i (gApp i bs (gWipe i D))))) ∨ ((anewR D i bs).2 = 60 ∧ (core (anewR D i bs).1 = core D ∨ core (anewR D i bs).1 = core (gWipe i D) ∨ core (anewR D i bs).1 = core (gApp i bs (gWipe i D)) ∨ core (anewR D i bs).1 = core (gSync i (gApp i bs (gWipe i D))) ∨ core (anewR D i bs).1 = core (gSwitch i (gSync i (gApp i bs (gWipe i D)))))) := by
  unfold anewR
  rcases act_stop (i := i) (w := true) hd (by simpa using hc) (coreF_wipe (i := i)) (wipe_dead i) with ⟨h1, h2, h3⟩ | ⟨h1, h2, h3⟩
  · rw [if_neg (by omega)]
    generalize (actR D i true (gWipe i)).1 = D1 at *
    have e1 := coreF_app (i := i) (bs := bs) _ _ h3
    rcases act_stop (i := i) (w := false) h2 (by simp) (coreF_app (i := i) (bs := bs)) (app_dead i bs) with ⟨k1, k2, k3⟩ | ⟨k1, k2, k3⟩
    · rw [if_neg (by omega)]
      have k3 := k3.trans e1
      generalize (actR D1 i false (gApp i bs)).1 = D2 at *
      have e2 := coreF_sync (i := i) _ _ k3
      rcases act_stop (i := i) (w := false) k2 (by simp) (coreF_sync (i := i)) (sync_dead i) with ⟨l1, l2, l3⟩ | ⟨l1, l2, l3⟩
      · rw [if_neg (by omega)]
        have l3 := l3.trans e2
        generalize (actR D2 i false (gSync i)).1 = D3 at *
        have e3 := coreF_switch (i := i) _ _ l3
        rcases act_stop (i := i) (w := false) l2 (by simp) (coreF_switch (i := i)) (fun _ => rfl) with ⟨m1, m2, m3⟩ | ⟨m1, m2, m3⟩
        · exact .inl ⟨m1, m3.trans e3⟩
        · refine .inr ⟨m1, ?_⟩
          rcases m3 with m3 | m3
          · exact .inr (.inr (.inr (.inl (m3.trans l3))))
          · exact .inr (.inr (.inr (.inr (m3.trans e3))))
      · rw [if_pos (by omega)]
        refine .inr ⟨l1, ?_⟩
        rcases l3 with l3 | l3
        · exact .inr (.inr (.inl (l3.trans k3)))
        · exact .inr (.inr (.inr (.inl (l3.trans e2))))
    · rw [if_pos (by omega)]
      refine .inr ⟨k1, ?_⟩
      rcases k3 with k3 | k3
      · exact .inr (.inl (k3.trans h3))
      · exact .inr (.inr (.inl (k3.trans e1)))
  · rw [if_pos (by omega)]
    refine .inr ⟨h1, ?_⟩
    rcases h3 with h3 | h3
    · exact .inl h3
    · exact .inr (.inl h3)
/-! ## A disk at rest but for the stop that is named -/
structure Still (D : DiskP) (i : Nat) (now : List UInt8) (m z : Nat) : Prop where
  i2 : i < 2
  dead : D.dead = false
  nmd : 0 ≤ D.named ∧ D.named ≤ 6
  cur : D.cur = (i : Int)
  sl : D.sl i = ⟨now, now, []⟩
  oth : ∃ b, D.sl (1 - i) = ⟨b, b, []⟩ ∧ b.length ≤ z
  acts : 0 ≤ D.acts ∧ D.acts ≤ (m : Int)
theorem AtRest.still {D : DiskP} {i m z : Nat} {now : List UInt8} (h : AtRest D i now m z) : Still D i now m z := ⟨h.i2, h.dead, by rw [h.nmd]; omega, h.cur, h.sl, h.oth, h.acts⟩
theorem AtRest.stop {D : DiskP} {i m z : Nat} {now : List UInt8} (h : AtRest D i now m z) {k : Int} (hk : k ≤ 6) (y : Bool) : Still { D with named := max 0 k, done := y } i now m z :=
  ⟨h.i2, h.dead, by dsimp only; omega, h.cur, h.sl, h.oth, h.acts⟩
theorem Still.bd {D : DiskP} {i m z n k : Nat} {now : List UInt8} (h : Still D i now m z) (h1 : now.length + n ≤ 1099511627776) (h2 : z + n ≤ 1099511627776) (h3 : k ≤ 1048576) (h4 : m + k ≤ 4611686018427387904) : BdS D n k := by
  obtain ⟨b, hb, hz⟩ := h.oth
  have hi := h.i2
  have hs := h.sl
  refine ⟨fun j hj => ?_, fun j hj => ?_, by have := h.acts; omega, by have := h.nmd; omega⟩
  · by_cases e : j = i
    · rw [e, hs]; exact h1
    · rw [show j = 1 - i by omega, hb]; simp only; omega
  · by_cases e : j = i
    · rw [e, hs]; simpa using h3
    · rw [show j = 1 - i by omega, hb]; simpa using h3
theorem crash_sl (D : DiskP) (zs : List Int) {i : Nat} (hi : i < 2) : ∃ zs', (crashP D zs).sl i = ⟨(crashSl (D.sl i) zs').1, (crashSl (D.sl i) zs').1, []⟩ := by
  rcases (show i = 0 ∨ i = 1 by omega) with rfl | rfl
  · exact ⟨zs, rfl⟩
  · exact ⟨(crashSl D.s0 zs).2, rfl⟩
theorem crash_rest {D : DiskP} {zs : List Int} {c z : Nat} {P : List UInt8 → Prop} (hc : c < 2) (h1 : D.cur = (c : Int)) (h2 : ∀ zs', P (crashSl (D.sl c) zs').1) (h3 : ∀ zs', (crashSl (D.sl (1 - c)) zs').1.length ≤ z) : ∃ b, P b ∧ AtRest (crashP D zs) c b 0 z := by
  obtain ⟨zs1, e1⟩ := crash_sl D zs hc
  obtain ⟨zs2, e2⟩ := crash_sl D zs (show 1 - c < 2 by omega)
  exact ⟨_, h2 zs1, hc, rfl, rfl, h1, e1, ⟨_, e2, h3 zs2⟩, by simp [crashP]⟩
theorem crash_still {D : DiskP} {i m z : Nat} {now : List UInt8} (h : Still D i now m z) (zs : List Int) : AtRest (crashP D zs) i now 0 z := by
  obtain ⟨b, hb, hz⟩ := h.oth
  obtain ⟨b', e, hr⟩ := crash_rest (zs := zs) (z := z) (P := fun x => x = now) h.i2 h.cur (fun zs' => by rw [h.sl]; exact crash_nil _) (fun zs' => by rw [hb, crash_nil]; exact hz)
  rw [e] at hr
  exact hr
theorem crash_appR {D : DiskP} {i m z : Nat} {now : List UInt8} (h : Still D i now m z) (bs : List UInt8) (zs : List Int) :
    ∃ j, j ≤ bs.length ∧ AtRest (crashP (appR D i bs).1 zs) i (now ++ bs.take j) 0 z ∧ ((appR D i bs).2 = 0 → j = bs.length) := by
  obtain ⟨b, hb, hz⟩ := h.oth
  have hi := h.i2
  have hs := h.sl
  have hcur := h.cur
  -- behind the append
  have hA : (gApp i bs D).cur = (i : Int) ∧ (gApp i bs D).sl (1 - i) = ⟨b, b, []⟩ ∧ ((bs = [] ∧ (gApp i bs D).sl i = ⟨now, now, []⟩) ∨ (gApp i bs D).sl i = ⟨now, now ++ bs, [.app bs]⟩) := by
    unfold gApp
    split
    · rename_i h0; exact ⟨hcur, hb, .inl ⟨h0, hs⟩⟩
    · refine ⟨(put_acts D i _).2.2.2.2.trans hcur, ?_, .inr ?_⟩
      · rw [sl_put D hi (by omega), if_neg (by omega)]; exact hb
      · rw [sl_put D hi hi, if_pos rfl, hs]; simp [SlP.do, DAct.again, DAct.size]
  obtain ⟨a1, a2, a3⟩ := hA
  have hS : (gSync i (gApp i bs D)).cur = (i : Int) ∧ (gSync i (gApp i bs D)).sl (1 - i) = ⟨b, b, []⟩ ∧ (gSync i (gApp i bs D)).sl i = ⟨now ++ bs, now ++ bs, []⟩ := by
    unfold gSync
    refine ⟨(put_acts _ i _).2.2.2.2.trans a1, ?_, ?_⟩
    · rw [sl_put _ hi (by omega), if_neg (by omega)]; exact a2
    · rw [sl_put _ hi hi, if_pos rfl]
      rcases a3 with ⟨h0, a3⟩ | a3
      · rw [a3, h0]; simp [SlP.sync]
      · rw [a3]; simp [SlP.sync]
  obtain ⟨s1, s2, s3⟩ := hS
  have rS : ∀ {E}, core E = core (gSync i (gApp i bs D)) → AtRest (crashP E zs) i (now ++ bs.take bs.length) 0 z := fun hE => by
    obtain ⟨b', e, hr⟩ := crash_rest (zs := zs) (z := z) (P := fun x => x = now ++ bs) hi s1 (fun zs' => by rw [s3]; exact crash_nil _) (fun zs' => by rw [s2, crash_nil]; exact hz)
    rw [crashP_core hE, List.take_length, ← e]
    exact hr
  rcases app_stop (D := D) (i := i) (bs := bs) h.dead with ⟨h1, h2⟩ | ⟨h1, h2 | h2 | h2⟩
  · exact ⟨bs.length, Nat.le_refl _, rS h2, fun _ => rfl⟩
  · refine ⟨0, Nat.zero_le _, ?_, fun h0 => by omega⟩
    rw [crashP_core h2]
    simpa using crash_still h zs
  · rcases a3 with ⟨h0, a3⟩ | a3
    · refine ⟨0, Nat.zero_le _, ?_, fun h0 => by omega⟩
      obtain ⟨b', e, hr⟩ := crash_rest (zs := zs) (z := z) (P := fun x => x = now) hi a1 (fun zs' => by rw [a3]; exact crash_nil _) (fun zs' => by rw [a2, crash_nil]; exact hz)
      rw [crashP_core h2]
      rw [e] at hr
      simpa using hr
    · obtain ⟨b', ⟨j, hj, e⟩, hr⟩ := crash_rest (zs := zs) (z := z) (P := fun x => ∃ j, j ≤ bs.length ∧ x = now ++ bs.take j) hi a1 (fun zs' => by rw [a3]; exact crash_app _) (fun zs' => by rw [a2, crash_nil]; exact hz)
      refine ⟨j, hj, ?_, fun h0 => by omega⟩
      rw [crashP_core h2, ← e]
      exact hr
  · exact ⟨bs.length, Nat.le_refl _, rS h2, fun _ => rfl⟩
theorem crash_anewR {D : DiskP} {i m z : Nat} {now : List UInt8} (h : Still D i now m z) (hz2 : now.length ≤ z) (bs : List UInt8) (hz3 : bs.length ≤ z) (zs : List Int) :
    (AtRest (crashP (anewR D (1 - i) bs).1 zs) (1 - i) bs 0 z) ∨ ((anewR D (1 - i) bs).2 ≠ 0 ∧ AtRest (crashP (anewR D (1 - i) bs).1 zs) i now 0 z) := by
  obtain ⟨b, hb, hz⟩ := h.oth
  have hi := h.i2
  have hs := h.sl
  have hcur := h.cur
  have hi' : 1 - i < 2 := by omega
  have hii : 1 - (1 - i) = i := by omega
  generalize hk : 1 - i = k at *
  have hki : k ≠ i := by omega
  have W : (gWipe k D).cur = (i : Int) ∧ (gWipe k D).sl i = ⟨now, now, []⟩ ∧ (gWipe k D).sl k = ⟨b, [], [.wipe]⟩ := by
    unfold gWipe
    refine ⟨(put_acts D k _).2.2.2.2.trans hcur, ?_, ?_⟩
    · rw [sl_put D hi' hi, if_neg (by omega)]; exact hs
    · rw [sl_put D hi' hi', if_pos rfl, hb]; simp [SlP.do, DAct.again]
  obtain ⟨w1, w2, w3⟩ := W
  have A : (gApp k bs (gWipe k D)).cur = (i : Int) ∧ (gApp k bs (gWipe k D)).sl i = ⟨now, now, []⟩ ∧ ((bs = [] ∧ (gApp k bs (gWipe k D)).sl k = ⟨b, [], [.wipe]⟩) ∨ (gApp k bs (gWipe k D)).sl k = ⟨b, bs, [.wipe, .app bs]⟩) := by
    unfold gApp
    split
    · rename_i h0; exact ⟨w1, w2, .inl ⟨h0, w3⟩⟩
    · refine ⟨(put_acts _ k _).2.2.2.2.trans w1, ?_, .inr ?_⟩
      · rw [sl_put _ hi' hi, if_neg (by omega)]; exact w2
      · rw [sl_put _ hi' hi', if_pos rfl, w3]; simp [SlP.do, DAct.again, DAct.size]
  obtain ⟨a1, a2, a3⟩ := A
  have S : (gSync k (gApp k bs (gWipe k D))).cur = (i : Int) ∧ (gSync k (gApp k bs (gWipe k D))).sl i = ⟨now, now, []⟩ ∧ (gSync k (gApp k bs (gWipe k D))).sl k = ⟨bs, bs, []⟩ := by
    unfold gSync
    refine ⟨(put_acts _ k _).2.2.2.2.trans a1, ?_, ?_⟩
    · rw [sl_put _ hi' hi, if_neg (by omega)]; exact a2
    · rw [sl_put _ hi' hi', if_pos rfl]
      rcases a3 with ⟨h0, a3⟩ | a3
      · rw [a3, h0]; simp [SlP.sync]
      · rw [a3]; simp [SlP.sync]
  obtain ⟨s1, s2, s3⟩ := S
  have low : ∀ {E : DiskP}, E.cur = (i : Int) → E.sl i = ⟨now, now, []⟩ → (∀ zs', (crashSl (E.sl k) zs').1.length ≤ z) → AtRest (crashP E zs) i now 0 z := fun {E} h1 h2 h3 => by
    obtain ⟨b', e, hr⟩ := crash_rest (D := E) (zs := zs) (z := z) (P := fun x => x = now) hi h1 (fun zs' => by rw [h2]; exact crash_nil _) (fun zs' => by rw [hk]; exact h3 zs')
    rw [e] at hr
    exact hr
  have top : ∀ {E}, core E = core (gSwitch k (gSync k (gApp k bs (gWipe k D)))) → AtRest (crashP E zs) k bs 0 z := fun hE => by
    have e1 : (gSwitch k (gSync k (gApp k bs (gWipe k D)))).sl k = ⟨bs, bs, []⟩ := s3
    have e2 : (gSwitch k (gSync k (gApp k bs (gWipe k D)))).sl i = ⟨now, now, []⟩ := s2
    obtain ⟨b', e, hr⟩ := crash_rest (D := gSwitch k (gSync k (gApp k bs (gWipe k D)))) (zs := zs) (z := z) (P := fun x => x = bs) hi' rfl (fun zs' => by rw [e1]; exact crash_nil _) (fun zs' => by rw [hii, e2, crash_nil]; exact hz2)
    rw [crashP_core hE, ← e]
    rw [e] at hr ⊢
    exact hr
  rcases anew_stop (D := D) (i := k) (bs := bs) h.dead (by rw [hcur]; omega) with ⟨h1, h2⟩ | ⟨h1, h2 | h2 | h2 | h2 | h2⟩
  · exact .inl (top h2)
  · refine .inr ⟨by omega, ?_⟩
    rw [crashP_core h2]
    exact crash_still h zs
  · refine .inr ⟨by omega, ?_⟩
    rw [crashP_core h2]
    exact low w1 w2 fun zs' => by rw [w3]; exact Nat.le_trans (crash_wipe _) hz
  · refine .inr ⟨by omega, ?_⟩
    rw [crashP_core h2]
    refine low a1 a2 fun zs' => ?_
    rcases a3 with ⟨h0, a3⟩ | a3
    · rw [a3]; exact Nat.le_trans (crash_wipe _) hz
    · rw [a3]; exact Nat.le_trans (crash_both _) (by omega)
  · refine .inr ⟨by omega, ?_⟩
    rw [crashP_core h2]
    exact low s1 s2 fun zs' => by rw [s3, crash_nil]; exact hz3
  · exact .inl (top h2)
/-! ## How much a slot may come to -/
structure Sized (s : SlP) : Prop where
  st : ∀ n, n ≤ s.acts.length → (s.after n).length + (s.act n).size ≤ 1099511627776
  len : s.acts.length ≤ 1048576
structure Wt (s : SlP) (n a : Nat) : Prop where
  lasts : s.lasts.length ≤ n
  now : s.now.length ≤ n
  st : ∀ k, k ≤ s.acts.length → (s.after k).length + (s.act k).size ≤ n
  len : s.acts.length ≤ a
theorem Wt.mono {s : SlP} {n a n' a' : Nat} (h : Wt s n a) (h1 : n ≤ n') (h2 : a ≤ a') : Wt s n' a' :=
  ⟨Nat.le_trans h.lasts h1, Nat.le_trans h.now h1, fun k hk => Nat.le_trans (h.st k hk) h1, Nat.le_trans h.len h2⟩
theorem Wt.sized {s : SlP} {n a : Nat} (h : Wt s n a) (h1 : n ≤ 1099511627776) (h2 : a ≤ 1048576) : Sized s := ⟨fun k hk => Nat.le_trans (h.st k hk) h1, Nat.le_trans h.len h2⟩
theorem wt_do {s : SlP} {n a : Nat} {x : DAct} (h : Wt s n a) (hx : ∀ b, b.length ≤ n → (x.again b x.size).length ≤ n + x.size) : Wt (s.do x) (n + x.size) (a + 1) := by
  have hl := h.len
  have hla : (s.do x).acts.length = s.acts.length + 1 := by simp [SlP.do]
  have haf : ∀ k, k ≤ s.acts.length → (s.do x).after k = s.after k := fun k hk => by
    unfold SlP.after SlP.do
    dsimp only
    rw [List.take_append_of_le_length hk]
  refine ⟨Nat.le_trans h.lasts (Nat.le_add_right _ _), hx _ h.now, fun k hk => ?_, by rw [hla]; omega⟩
  rw [hla] at hk
  rcases Nat.lt_trichotomy k s.acts.length with hlt | rfl | hgt
  · rw [haf k (by omega)]
    have e : (s.do x).act k = s.act k := by
      unfold SlP.act SlP.do
      dsimp only
      rw [List.getD_eq_getElem?_getD, List.getD_eq_getElem?_getD, List.getElem?_append_left hlt]
    rw [e]
    exact Nat.le_trans (h.st k (by omega)) (Nat.le_add_right _ _)
  · rw [haf _ (Nat.le_refl _)]
    have e : (s.do x).act s.acts.length = x := by
      unfold SlP.act SlP.do
      dsimp only
      rw [List.getD_eq_getElem?_getD, List.getElem?_append_right (Nat.le_refl _)]
      simp
    rw [e]
    have := h.st _ (Nat.le_refl _)
    omega
  · have hk' : k = s.acts.length + 1 := by omega
    subst hk'
    have e : (s.do x).act (s.acts.length + 1) = .wipe := by
      unfold SlP.act SlP.do
      dsimp only
      rw [List.getD_eq_getElem?_getD, List.getElem?_eq_none (by simp)]
      rfl
    have e2 : (s.do x).after (s.acts.length + 1) = x.again (s.after s.acts.length) x.size := by
      unfold SlP.after SlP.do
      dsimp only
      rw [List.take_of_length_le (by simp), List.foldl_append, List.take_of_length_le (Nat.le_refl _)]
      rfl
    rw [e, e2]
    have h0 := h.st _ (Nat.le_refl _)
    have := hx (s.after s.acts.length) (by omega)
    rw [show DAct.wipe.size = 0 from rfl]
    omega
theorem wt_sync {s : SlP} {n a : Nat} (h : Wt s n a) : Wt s.sync n a := by
  refine ⟨h.now, h.now, fun k hk => ?_, Nat.zero_le _⟩
  have hk : k = 0 := by simpa [SlP.sync] using hk
  subst hk
  simpa [SlP.sync, SlP.after, SlP.act, DAct.size] using h.now
def WD (D : DiskP) (n a : Nat) : Prop := ∀ i, i < 2 → Wt (D.sl i) n a
theorem WD.core {D E : DiskP} {n a : Nat} (h : WD D n a) (hc : core E = core D) : WD E n a := fun i hi => by rw [sl_core hc i]; exact h i hi
theorem WD.mono {D : DiskP} {n a n' a' : Nat} (h : WD D n a) (h1 : n ≤ n') (h2 : a ≤ a') : WD D n' a' := fun i hi => (h i hi).mono h1 h2
theorem WD.put {D : DiskP} {n a i : Nat} {s : SlP} (h : WD D n a) (hi : i < 2) (hs : Wt s n a) : WD (D.put i s) n a := fun j hj => by
  rw [sl_put D hi hj]
  split
  · exact hs
  · exact h j hj
theorem WD.app {D : DiskP} {n a i : Nat} {bs : List UInt8} (h : WD D n a) (hi : i < 2) : WD (gApp i bs D) (n + bs.length) (a + 1) := by
  unfold gApp
  split
  · exact h.mono (by omega) (by omega)
  · exact (h.mono (by omega) (by omega)).put hi (wt_do (x := .app bs) (h i hi) fun b hb => by simp [DAct.again, DAct.size]; omega)
theorem WD.wipe {D : DiskP} {n a i : Nat} (h : WD D n a) (hi : i < 2) : WD (gWipe i D) n (a + 1) :=
  (h.mono (Nat.le_refl _) (by omega)).put hi (wt_do (x := .wipe) (h i hi) fun b hb => by simp [DAct.again])
theorem WD.sync {D : DiskP} {n a i : Nat} (h : WD D n a) (hi : i < 2) : WD (gSync i D) n a := h.put hi (wt_sync (h i hi))
theorem WD.switch {D : DiskP} {n a i : Nat} (h : WD D n a) : WD (gSwitch i D) n a := h
theorem WD.appR {D : DiskP} {n a i : Nat} {bs : List UInt8} (h : WD D n a) (hd : D.dead = false) (hi : i < 2) : WD (appR D i bs).1 (n + bs.length) (a + 1) := by
  have h1 : WD (gApp i bs D) (n + bs.length) (a + 1) := h.app hi
  rcases app_stop (D := D) (i := i) (bs := bs) hd with ⟨_, e⟩ | ⟨_, e | e | e⟩
  · exact (h1.sync hi).core e
  · exact (h.mono (by omega) (by omega)).core e
  · exact h1.core e
  · exact (h1.sync hi).core e
theorem WD.anewR {D : DiskP} {n a i : Nat} {bs : List UInt8} (h : WD D n a) (hd : D.dead = false) (hc : ¬ (i : Int) = D.cur) (hi : i < 2) : WD (anewR D i bs).1 (n + bs.length) (a + 2) := by
  have h1 : WD (gWipe i D) n (a + 1) := h.wipe hi
  have h2 : WD (gApp i bs (gWipe i D)) (n + bs.length) (a + 2) := h1.app hi
  rcases anew_stop (D := D) (i := i) (bs := bs) hd hc with ⟨_, e⟩ | ⟨_, e | e | e | e | e⟩
  · exact (h2.sync hi).switch.core e
  · exact (h.mono (by omega) (by omega)).core e
  · exact (h1.mono (by omega) (by omega)).core e
  · exact h2.core e
  · exact (h2.sync hi).core e
  · exact (h2.sync hi).switch.core e
theorem Still.wd {D : DiskP} {i m z : Nat} {now : List UInt8} (h : Still D i now m z) (hz : now.length ≤ z) : WD D z 0 := by
  obtain ⟨b, hb, hz'⟩ := h.oth
  have hi := h.i2
  have hs := h.sl
  have key : ∀ {b : List UInt8}, b.length ≤ z → Wt ⟨b, b, []⟩ z 0 := fun {b} hb => ⟨hb, hb, fun k hk => by
    have hk : k = 0 := by simpa using hk
    subst hk
    simpa [SlP.after, SlP.act, DAct.size] using hb, Nat.le_refl _⟩
  intro j hj
  by_cases e : j = i
  · rw [e, hs]; exact key hz
  · rw [show j = 1 - i by omega, hb]; exact key hz'
theorem WD.sz {D : DiskP} {n a : Nat} (h : WD D n a) (h1 : n ≤ 1099511627776) (h2 : a ≤ 1048576) : ∀ i, i < 2 → Sized (D.sl i) := fun i hi => (h i hi).sized h1 h2
end Go.Disk

/-
  Contracts of the package disk: Crash.
-/
namespace Go.Disk
theorem after_succ (s : SlP) {n : Nat} (h : n < s.acts.length) : s.after (n + 1) = (s.acts[n]).again (s.after n) (s.acts[n]).size := by
  unfold SlP.after
  rw [List.take_succ_eq_append_getElem h, List.foldl_append]
  rfl
end Go.Disk
namespace Go.Proofs.YtflcdgkckfcofaaGreatDoor
open Go Go.Vc Go.Vc.Asn Go.Disk
theorem sto3N {p : Addr} {v1 v2 v3 : Value} {w : World} {K : World → Prop} (h : Sto w (p.add 0) v1 fun w' => Sto w' (p.add 1) v2 fun w'' => Sto w'' (p.add 2) v3 K) : StoN p 0 [v1, v2, v3] w K := h
def ZsA (w0 : World) (A : Asn) (s : Slc) (zs : List Int) : Prop := ∀ w S, Fr [] w0 w → A.p w S → Cel w s 1 (zs.map (Value.int .i64))
def CInv (c : Slc) (zs : List Int) (t : Slc) (zs' : List Int) : Prop := ∀ w, Cel w c 1 (zs.map (Value.int .i64)) → Cel w t 1 (zs'.map (Value.int .i64))
section
variable {w0 w : World} {A B F : Asn}
theorem ZsA.at_ {s : Slc} {zs : List Int} (hU : ZsA w0 A s zs) [h : Take A B F] (H : Hp w0 w B) : Cel w s 1 (zs.map (Value.int .i64)) := by
  obtain ⟨f, S, _, S1, S2, _, _, ha, _⟩ := H.take A
  exact hU w S1 f ha
theorem zsOwn {s : Slc} {zs : List Int} : ZsA w0 (own Ty_int 1 s (zs.map (Value.int .i64))) s zs := fun _ _ _ h => h.2.cel
theorem choose_v {c : Int} {n : Nat} (hn : 0 < n) (hm : n ≤ 2199023255552) : (wr .i64 (c.tmod n + n)).tmod n = (((c.tmod n + n).tmod n).toNat : Int) := by
  have h1 := modI_at (k := c) (n := (n : Int)) (by omega)
  have h2 := Int.tmod_lt_of_pos c (b := (n : Int)) (by omega)
  have h3 : -(n : Int) ≤ c.tmod n := by unfold modI at h1; split at h1 <;> omega
  have e : wr .i64 (c.tmod n + n) = c.tmod n + n := wr64 (by omega) (by omega)
  rw [e]
  have h4 := Int.tmod_nonneg (n : Int) (show 0 ≤ c.tmod n + n by omega)
  omega
theorem choose_c {b n : Nat} {c t : Slc} {zs zs' : List Int} (hn : 0 < n) (hm : n ≤ 2199023255552) (hT : CInv c zs t zs') (hc : Cel w c 1 (zs.map (Value.int .i64))) (H : Hp w0 w (star (bk b Ty_sl_int #[t.v]) F)) :
    Calls PP F_disk_Disk_Crash_c1 #[.int .i64 (n : Int), .pointer (some (blk b))] w (Rt fun v w' => v = .int .i64 ((chooseV zs' n).1 : Int) ∧ ∃ t', CInv c zs t' (chooseV zs' n).2 ∧ Hp w0 w' (star (bk b Ty_sl_int #[t'.v]) F)) := by
  refine sim_disk_Disk_Crash_c1 _ _ _ _ ?_
  unfold vc_disk_Disk_Crash_c1
  have hc := hT w hc
  have htl := hc.lenM
  refine ⟨t, H.cell (b := b) (i := 0) rfl, fun h => ?_, fun h => ?_⟩
  · have h0 : zs' = [] := by simp at h; exact List.eq_nil_of_length_eq_zero (by omega)
    subst h0
    exact Rt.ok ⟨rfl, t, hT, H⟩
  obtain ⟨z, r, rfl⟩ : ∃ z r, zs' = z :: r := by
    cases zs' with
    | nil => simp at h; simp at htl; omega
    | cons z r => exact ⟨z, r, rfl⟩
  obtain ⟨p, hp, hcl⟩ := hc.at_ 0 (.int .i64 z) rfl
  simp only [List.length_cons] at htl
  refine ⟨t, H.cell (b := b) (i := 0) rfl, p, hp, by omega, by omega, z, hcl, t, H.cell (b := b) (i := 0) rfl, by omega, by omega, by have := hc.cap; omega, ?_⟩
  refine H.sto (b := b) (i := 0) (by simp) fun w1 H => ⟨by omega, by omega, Rt.ok ⟨?_, t.cut 1 1 t.l, fun w'' h => ?_, H⟩⟩
  · rw [choose_v hn hm]; rfl
  · have := Cel.cut (hT w'' h) (l := 1) (k := t.l) (by omega) (Nat.le_refl _)
    rw [Nat.mul_one, Nat.mul_one] at this
    have e : List.take (t.l - 1) (List.drop 1 (List.map (Value.int .i64) (z :: r))) = r.map (Value.int .i64) := by
      simp only [List.map_cons, List.drop_succ_cons, List.drop_zero]
      exact List.take_of_length_le (by simp; omega)
    rw [e] at this
    exact this
theorem take_fm {α : Type} {f : α → List Value} {n : Nat} (hf : ∀ x, (f x).length = n) : ∀ (l : List α) (k : Nat), (l.flatMap f).take (k * n) = (l.take k).flatMap f
  | [], k => by simp
  | x :: r, 0 => by simp
  | x :: r, k + 1 => by
    rw [List.flatMap_cons, List.take_succ_cons, List.flatMap_cons, Nat.succ_mul, List.take_append, List.take_of_length_le (by rw [hf]; omega), hf, Nat.add_sub_cancel, take_fm hf r k]
theorem act_at {ac : Slc} {acts : List ((Nat × Slc) × DAct)} {k i : Nat} (h : Cel w ac 2 (acts.flatMap actC)) (hk : k ≤ acts.length) (hi : i < k) :
    ∃ a, (ac.cut 2 0 k).a = some a ∧ w.cell? ((a.add ((i : Int).toNat * 2)).add 0) = some (actF (acts[i]).1 (acts[i]).2) ∧ w.cell? ((a.add ((i : Int).toNat * 2)).add 1) = some (.int .i64 ((acts[i]).2.size : Int)) := by
  have hl := h.len
  have h2 : ∀ l : List ((Nat × Slc) × DAct), (l.flatMap actC).length = l.length * 2 := fun l => by
    induction l with
    | nil => rfl
    | cons x r ih => rw [List.flatMap_cons, List.length_append, ih]; show 2 + _ = (r.length + 1) * 2; omega
  rw [h2] at hl
  have hc := Cel.cut h (l := 0) (k := k) (Nat.zero_le _) (by omega)
  rw [Nat.zero_mul, List.drop_zero, Nat.sub_zero, take_fm (f := actC) (n := 2) (fun _ => rfl)] at hc
  obtain ⟨a, ha, hcl⟩ := cel_fm (f := actC) (fun _ => rfl) hc (i := i) (by rw [List.length_take]; omega) (by omega)
  rw [List.getElem_take] at hcl
  exact ⟨a, ha, hcl 0 _ rfl, hcl 1 _ rfl⟩
theorem act_one {ac : Slc} {acts : List ((Nat × Slc) × DAct)} {i : Nat} (h : Cel w ac 2 (acts.flatMap actC)) (hi : i < acts.length) :
    ∃ a, ac.a = some a ∧ w.cell? ((a.add ((i : Int).toNat * 2)).add 0) = some (actF (acts[i]).1 (acts[i]).2) ∧ w.cell? ((a.add ((i : Int).toNat * 2)).add 1) = some (.int .i64 ((acts[i]).2.size : Int)) := by
  obtain ⟨a, ha, hcl⟩ := cel_fm (f := actC) (fun _ => rfl) h hi (by omega)
  exact ⟨a, ha, hcl 0 _ rfl, hcl 1 _ rfl⟩
theorem actF_flat (m : Nat × Slc) (a : DAct) : Value.flat (actF m a) = true := by cases a <;> rfl
theorem diskAgain {p i k n : Nat} {D : DiskM} {old : Slc} {obs : List UInt8} (hi : i < 2) (hk : k < (D.sl i).acts.length) (H : Hp w0 w (star (diskA p D) F)) (hB : Byt w old obs) (hn : n ≤ ((D.sl i).acts[k]).2.size) (hb : obs.length + n ≤ 1099511627776) :
    CallV PP (actF ((D.sl i).acts[k]).1 ((D.sl i).acts[k]).2) #[old.v, .int .i64 (n : Int)] w (Rt fun v w' => ∃ o, v = Slc.v o ∧ Hp w0 w' (star (own Ty_uint8 1 o ((((D.sl i).acts[k]).2.again obs n).map u8v)) (star (diskA p D) F))) := by
  have H := diskOpen hi H
  have H := H.take (all actA (D.sl i).acts)
  have H := H.ent (Ent.star (all_at actA (D.sl i).acts k hk) (Ent.refl _))
  have H := H.assoc
  obtain ⟨f, cap, h1, h2, h3⟩ := again_c H hB (.inl hn) hb
  refine ⟨f, cap, h1, h2, Rt.mono h3 ?_⟩
  rintro _ w' ⟨o, rfl, H⟩
  refine ⟨o, rfl, ?_⟩
  have e : (D.sl i).acts.set k (D.sl i).acts[k] = (D.sl i).acts := List.set_getElem_self hk
  have hp := all_put actA (D.sl i).acts[k] (D.sl i).acts k hk
  rw [e] at hp
  have H := H.ent (Ent.star (Ent.refl _) (Asn.assoc'.trans (Ent.star hp (Ent.refl _))))
  have H := (((((H.take (slA (D.sl (1 - i)))).take (all actA (D.sl i).acts)).own (D.sl i).ac).own (D.sl i).no).own (D.sl i).la).blk p
  exact (diskClose hi H).swap
def foundAt (D : DiskP) (zs : List Int) : Nat → DiskP × List Int
  | 0 => (⟨⟨[], [], []⟩, ⟨[], [], []⟩, D.cur, 0, 0, false, false⟩, zs)
  | j + 1 => ((foundAt D zs j).1.put j ⟨(crashSl (D.sl j) (foundAt D zs j).2).1, (crashSl (D.sl j) (foundAt D zs j).2).1, []⟩, (crashSl (D.sl j) (foundAt D zs j).2).2)
theorem emptyDisk {b : Nat} {c : Int} (H : Hp w0 w (star (bk b Ty_disk_Disk #[Slc.nil.v, Slc.nil.v, Slc.nil.v, Slc.nil.v, Slc.nil.v, Slc.nil.v, .int .i64 c, .int .i64 0, .int .i64 0, .bool false, .bool false]) F)) :
    Hp w0 w (star (diskA b ⟨⟨Slc.nil, Slc.nil, Slc.nil, [], [], []⟩, ⟨Slc.nil, Slc.nil, Slc.nil, [], [], []⟩, c, 0, 0, false, false⟩) F) := by
  have add : ∀ {A : Asn}, Hp w0 w A → Hp w0 w (star (slA ⟨Slc.nil, Slc.nil, Slc.nil, [], [], []⟩) A) := fun H => by
    have H := (((H.ent Asn.emp_l).nilRow Ty_disk_loose 2).nilRow Ty_uint8 1).nilRow Ty_uint8 1
    exact ((H.ent (Ent.star (Ent.refl _) (Ent.star (Ent.refl _) Asn.assoc'))).ent (Ent.star (Ent.refl _) Asn.assoc')).assoc'
  have H := (add (add H)).blk b
  exact (H.ent (Ent.star (Ent.refl _) Asn.assoc')).assoc'
set_option maxHeartbeats 1000000 in
theorem dCrash_c {p : Nat} {D : DiskM} {c : Slc} {zs : List Int} (hZ : ZsA w0 A c zs) (hS : ∀ i, i < 2 → Sized (D.p.sl i)) (H : Hp w0 w (star (diskA p D) (star A F))) :
    Calls PP F_disk_Disk_Crash #[.pointer (some (blk p)), c.v] w (Rt fun v w' => ∃ q E, v = .pointer (some (blk q)) ∧ E.p = crashP D.p zs ∧ Hp w0 w' (star (diskA q E) (star (diskA p { D with dead := true }) (star A F)))) := by
  refine sim_disk_Disk_Crash _ _ _ _ ?_
  unfold vc_disk_Disk_Crash
  refine ⟨fun h => by simp at h, fun _ => ⟨_, rfl, diskSto (D' := { D with dead := true }) H (by omega) rfl rfl rfl fun w1 H => ?_⟩⟩
  have hDp : crashP D.p zs = crashP ({ D with dead := true } : DiskM).p zs := rfl
  have hS : ∀ i, i < 2 → Sized (({ D with dead := true } : DiskM).p.sl i) := hS
  rw [hDp]
  generalize ({ D with dead := true } : DiskM) = D at *
  refine H.new fun b w2 H => H.sto (b := b) (i := 0) (by decide) fun w3 H => ?_
  have H : Hp w0 w3 (star (bk b Ty_sl_int #[c.v]) (star (diskA p D) (star A F))) := H
  refine ⟨D.cur, diskCell (k := 6) H.swap rfl, ?_⟩
  refine H.new fun q w4 H => ?_
  have H := emptyDisk H
  refine ⟨fun s w' => ∃ j : Nat, s = (j : Int) ∧ j ≤ 2 ∧ ∃ t E, CInv c zs t (foundAt D.p zs j).2 ∧ E.p = (foundAt D.p zs j).1 ∧ (∀ i, j ≤ i → i < 2 → E.sl i = ⟨Slc.nil, Slc.nil, Slc.nil, [], [], []⟩) ∧ Hp w0 w' (star (diskA q E) (star (bk b Ty_sl_int #[t.v]) (star (diskA p D) (star A F)))), fun s _ => 2 - s.toNat, ⟨0, rfl, by omega, c, _, fun _ h => h, rfl, fun i _ hi => by rcases (show i = 0 ∨ i = 1 by omega) with rfl | rfl <;> rfl, H⟩, ?_⟩
  clear H
  rintro _ w5 ⟨j, rfl, hj, t, E, hT, hE, hEn, H⟩
  refine ⟨fun hlt => ?_, fun hlt => ?_⟩
  · have hj2 : j < 2 := by simp at hlt; omega
    have hSj := hS j hj2
    rw [← sl_p] at hSj
    have ecr : (foundAt D.p zs (j + 1)) = ((foundAt D.p zs j).1.put j ⟨(crashSl (D.sl j).p (foundAt D.p zs j).2).1, (crashSl (D.sl j).p (foundAt D.p zs j).2).1, []⟩, (crashSl (D.sl j).p (foundAt D.p zs j).2).2) := by rw [sl_p]; rfl
    generalize foundAt D.p zs j = FA at *
    obtain ⟨FE, zj⟩ := FA
    simp only at hT hE ecr
    have hacl : (D.sl j).acts.length ≤ 1048576 := by have := hSj.len; unfold Sl.p at this; simpa using this
    have ln : ∀ {w'}, Hp w0 w' (star (diskA q E) (star (bk b Ty_sl_int #[t.v]) (star (diskA p D) (star A F)))) → (D.sl j).ac.l = (D.sl j).acts.length := fun H => acN (H.take (diskA p D)) hj2
    have hac := ln H
    have eA : (((blk p).add 0).add (Int.toNat (j : Int) * 3)) = (blk p).add (j * 3) := by rw [Int.toNat_natCast, add_add, Nat.zero_add]
    have eQ : (((blk q).add 0).add (Int.toNat (j : Int) * 3)) = (blk q).add (j * 3) := by rw [Int.toNat_natCast, add_add, Nat.zero_add]
    rw [eA, eQ]
    refine ⟨fun w' => ∃ t E, CInv c zs t (crashSl (D.sl j).p zj).2 ∧ E.p = FE.put j ⟨(crashSl (D.sl j).p zj).1, (crashSl (D.sl j).p zj).1, []⟩ ∧ (∀ i, j + 1 ≤ i → i < 2 → E.sl i = ⟨Slc.nil, Slc.nil, Slc.nil, [], [], []⟩) ∧ Hp w0 w' (star (diskA q E) (star (bk b Ty_sl_int #[t.v]) (star (diskA p D) (star A F)))), ?_, ?_⟩
    · have acC : ∀ {w' : World} {G : Asn}, Hp w0 w' (star (diskA p D) G) → w'.cell? (((blk p).add (j * 3)).add 2) = some (D.sl j).ac.v := fun {w' G} H => (diskOpen hj2 H).cell2 (b := p) (i := j * 3) (j := 2) (diskC_ac D hj2)
      have acR : ∀ {w' : World} {G : Asn}, Hp w0 w' (star (diskA p D) G) → Cel w' (D.sl j).ac 2 ((D.sl j).acts.flatMap actC) := fun {w' G} H => ((diskOpen hj2 H).own (D.sl j).ac).cel (s := (D.sl j).ac)
      refine ⟨by omega, by omega, (D.sl j).la, (diskOpen hj2 (H.take (diskA p D))).cell2 (b := p) (i := j * 3) (j := 0) (diskC_la D hj2), ?_⟩
      have hLa : Byt w5 (D.sl j).la (D.sl j).lasts := ((diskOpen hj2 (H.take (diskA p D))).own (D.sl j).la).cel (s := (D.sl j).la)
      have hst0 := hSj.st 0 (Nat.zero_le _)
      have e0 : (D.sl j).p.after 0 = (D.sl j).lasts := rfl
      rw [e0] at hst0
      refine call (cloneH_c hLa (by omega)) ?_
      rintro _ w6 ⟨o, rfl, H6⟩
      have H := H.beside (H6.ent emp_r')
      refine ⟨o, rfl, _, acC (H.take (diskA p D)), ?_⟩
      have ewr : wr .i64 (((D.sl j).ac.l : Int) + 1) = (((D.sl j).acts.length + 1 : Nat) : Int) := by rw [hac, wr64 (by omega) (by omega)]; omega
      rw [ewr]
      have hpl : (D.sl j).p.acts.length = (D.sl j).acts.length := by unfold Sl.p; simp
      refine call (choose_c (by omega) (by omega) hT (hZ.at_ H) (H.blk b)) ?_
      rintro _ w7 ⟨rfl, t1, hT1, H⟩
      have hr := chooseV_lt zj (n := (D.sl j).acts.length + 1) (by omega)
      have ecs : crashSl (D.sl j).p zj = crashW (D.sl j).p (chooseV zj ((D.sl j).acts.length + 1)).1 (chooseV zj ((D.sl j).acts.length + 1)).2 := by unfold crashSl; rw [hpl]
      rw [ecs]
      generalize chooseV zj ((D.sl j).acts.length + 1) = CV at *
      obtain ⟨k, zk⟩ := CV
      simp only at hr hT1
      have H : Hp w0 w7 (star (own Ty_uint8 1 o (((D.sl j).p.after 0).map u8v)) (star (bk b Ty_sl_int #[t1.v]) (star (diskA q E) (star (diskA p D) (star A F))))) := ((((H.take (diskA p D)).take (diskA q E)).blk b).own o)
      have hcap := (acR (H.take (diskA p D))).cap
      refine ⟨(k : Int), rfl, _, acC (H.take (diskA p D)), by omega, by omega, by omega, ?_⟩
      rw [show Int.toNat (0 : Int) = 0 from rfl, Int.toNat_natCast]
      have hcutl : ((D.sl j).ac.cut 2 0 k).l = k := by unfold Slc.cut; simp
      rw [hcutl]
      refine ⟨fun b1 s w' => ∃ i : Nat, s = (i : Int) ∧ i ≤ k ∧ Hp w0 w' (star (own Ty_uint8 1 b1 (((D.sl j).p.after i).map u8v)) (star (bk b Ty_sl_int #[t1.v]) (star (diskA q E) (star (diskA p D) (star A F))))), fun _ s _ => k - s.toNat, ⟨0, rfl, Nat.zero_le _, H⟩, ?_⟩
      clear H
      rintro b1 _ w8 ⟨i, rfl, hi, H⟩
      have hbyt : Byt w8 b1 ((D.sl j).p.after i) := H.cel (s := b1)
      refine ⟨fun hik => ?_, fun hik => ?_⟩
      · have hik : i < k := by simp at hik; omega
        have hia : i < (D.sl j).acts.length := by omega
        obtain ⟨a, ha, c0, c1⟩ := act_at (acR (H.take (diskA p D))) (k := k) (by omega) hik
        refine ⟨a, ha, by omega, by omega, _, c0, _, c1, ?_⟩
        refine H.new fun b79 w9 H => ⟨actF_flat _ _, H.stoAll (b := b79) (by rfl) fun w10 H => ⟨_, H.cell (b := b79) (i := 0) rfl, _, H.cell (b := b79) (i := 1) rfl, ?_⟩⟩
        have H := H.drop
        have hst := hSj.st i (by omega)
        have eact : (D.sl j).p.act i = (D.sl j).acts[i].2 := by unfold SlP.act Sl.p; simp [hia]
        rw [eact] at hst
        have hbyt : Byt w10 b1 ((D.sl j).p.after i) := H.cel (s := b1)
        refine callV (diskAgain hj2 hia (H.take (diskA p D)) hbyt (Nat.le_refl _) hst) ?_
        rintro _ w11 ⟨o2, rfl, H⟩
        refine ⟨o2, rfl, ⟨i + 1, wrj (by omega), hik, ?_⟩, by rw [wrj (j := i) (by omega)]; dsimp only; omega⟩
        have eaf : (D.sl j).p.after (i + 1) = (D.sl j).acts[i].2.again ((D.sl j).p.after i) (D.sl j).acts[i].2.size := by
          rw [after_succ _ (show i < (D.sl j).p.acts.length by omega)]
          unfold Sl.p
          simp
        rw [eaf]
        have H := (H.own b1).drop
        exact ((((H.take (diskA p D)).take (diskA q E)).blk b).own o2)
      · have hik : i = k := by simp at hik; omega
        subst hik
        refine ⟨fun b2 w' => ∃ t2, CInv c zs t2 (crashW (D.sl j).p i zk).2 ∧ (crashW (D.sl j).p i zk).1.length ≤ 1099511627776 ∧ Hp w0 w' (star (own Ty_uint8 1 b2 ((crashW (D.sl j).p i zk).1.map u8v)) (star (bk b Ty_sl_int #[t2.v]) (star (diskA q E) (star (diskA p D) (star A F))))), ?_, ?_⟩
        · have hst := hSj.st i (by omega)
          refine ⟨_, acC (H.take (diskA p D)), decide (i < (D.sl j).acts.length ∧ 0 < ((D.sl j).p.act i).size), fun h1 => ?_, fun h1 => ?_, fun h1 => ?_, fun h1 => ?_⟩
          · have hia : i < (D.sl j).acts.length := by simp at h1; omega
            obtain ⟨a, ha, c0, c1⟩ := act_one (acR (H.take (diskA p D))) hia
            refine ⟨_, acC (H.take (diskA p D)), a, ha, by omega, by omega, _, c1, ?_⟩
            have eact : (D.sl j).p.act i = (D.sl j).acts[i].2 := by unfold SlP.act Sl.p; simp [hia]
            rw [eact]
            simp [hia]
          · have hia : ¬ i < (D.sl j).acts.length := by simp at h1; omega
            simp [hia]
          · obtain ⟨hia, hsz⟩ : i < (D.sl j).acts.length ∧ 0 < ((D.sl j).p.act i).size := by simpa using h1
            obtain ⟨a, ha, c0, c1⟩ := act_one (acR (H.take (diskA p D))) hia
            refine ⟨_, acC (H.take (diskA p D)), a, ha, by omega, by omega, _, c0, _, c1, ?_⟩
            have eact : (D.sl j).p.act i = (D.sl j).acts[i].2 := by unfold SlP.act Sl.p; simp [hia]
            refine H.new fun b135 w9 H => ⟨actF_flat _ _, H.stoAll (b := b135) (by rfl) fun w10 H => ?_⟩
            have H := H.drew 1
            refine ⟨_, H.cell (b := b135) (i := 0) rfl, _, H.cell (b := b135) (i := 1) rfl, ?_⟩
            have ecw : crashW (D.sl j).p i zk = ((D.sl j).acts[i].2.again ((D.sl j).p.after i) (chooseV zk (D.sl j).acts[i].2.size).1, (chooseV zk (D.sl j).acts[i].2.size).2) := by
              unfold crashW; rw [eact] at hsz; rw [eact, if_pos hsz]
            rw [eact] at hsz hst
            rw [ecw]
            have hlt := chooseV_lt zk hsz
            refine call (choose_c hsz (by omega) hT1 (hZ.at_ H) (H.blk b)) ?_
            rintro _ w11 ⟨rfl, t2, hT2, H⟩
            refine ⟨_, rfl, H.cell (b := b135) (i := 0) rfl, ?_⟩
            have H := (H.blk b135).drop
            have hbyt : Byt w11 b1 ((D.sl j).p.after i) := H.cel (s := b1)
            refine callV (diskAgain hj2 hia (H.take (diskA p D)) hbyt (by omega) (by omega)) ?_
            rintro _ w12 ⟨o2, rfl, H⟩
            refine ⟨o2, rfl, t2, hT2, ?_, ?_⟩
            · have : ∀ (a : DAct) (bs : List UInt8) (n : Nat), n ≤ a.size → (a.again bs n).length ≤ bs.length + a.size := by
                intro a bs n hn
                cases a <;> simp [DAct.again, DAct.size]
                omega
              have := this (D.sl j).acts[i].2 ((D.sl j).p.after i) (chooseV zk (D.sl j).acts[i].2.size).1 (by omega)
              dsimp only
              omega
            · have H := (H.own b1).drop
              exact ((((H.take (diskA p D)).take (diskA q E)).blk b).own o2)
          · have hno : ¬ 0 < ((D.sl j).p.act i).size := by
              intro h0
              have hia : ¬ i < (D.sl j).acts.length := by simp [h0] at h1; omega
              unfold SlP.act Sl.p at h0
              rw [List.getD_eq_getElem?_getD, List.getElem?_eq_none (by simpa using hia)] at h0
              simp [DAct.size] at h0
            have ecw : crashW (D.sl j).p i zk = ((D.sl j).p.after i, zk) := by unfold crashW; rw [if_neg hno]
            rw [ecw]
            exact ⟨t1, hT1, by dsimp only; omega, H⟩
        · rintro b2 w9 ⟨t2, hT2, hln, H⟩
          have H := H.drew 1
          have hbyt : Byt _ b2 _ := H.cel (s := b2)
          refine call (cloneH_c hbyt hln) ?_
          rintro _ w10 ⟨o2, rfl, H10⟩
          have H := H.beside (H10.ent emp_r')
          generalize hcr : (crashW (D.sl j).p i zk).1 = cr at *
          refine ⟨o2, rfl, by omega, by omega, ?_⟩
          have H := diskOpen hj2 (H.take (diskA q E))
          have hsz : (diskC E).toArray.size = 11 := rfl
          have goal : ∀ {K : World → Prop}, (∀ w', Hp w0 w' (star (bk q Ty_disk_Disk (diskC (E.put j ⟨b2, o2, Slc.nil, cr, cr, []⟩)).toArray) (star (own Ty_uint8 1 o2 (cr.map u8v)) (star (own Ty_uint8 1 b2 (cr.map u8v)) (star (bk b Ty_sl_int #[t2.v]) (star (slA (E.sl (1 - j))) (star (diskA p D) (star A F))))))) → K w') → StoN ((blk q).add (j * 3)) 0 [b2.v, o2.v, Slc.v Slc.nil] w10 K := by
            intro K hK
            refine sto3N ?_
            refine H.sto2 (b := q) (i := j * 3) (j := 0) (v := b2.v) (by rw [hsz]; omega) fun w11 H => ?_
            refine H.sto2 (b := q) (i := j * 3) (j := 1) (v := o2.v) (by rw [Array.size_setIfInBounds, hsz]; omega) fun w12 H => ?_
            refine H.sto2 (b := q) (i := j * 3) (j := 2) (v := Slc.v Slc.nil) (by rw [Array.size_setIfInBounds, Array.size_setIfInBounds, hsz]; omega) fun w13 H => hK w13 ?_
            have hset := diskC_set E hj2 ⟨b2, o2, Slc.nil, cr, cr, []⟩
            simp only at hset
            rw [Nat.add_zero, hset] at H
            have H := (H.own (E.sl j).la).drop
            have H := (H.own (E.sl j).no).drop
            have H := (H.own (E.sl j).ac).drop
            have H := (H.take (all actA (E.sl j).acts)).drop
            exact (((((H.take (diskA p D)).take (slA (E.sl (1 - j)))).blk b).own b2).own o2).blk q
          refine goal fun w11 H => ⟨t2, E.put j ⟨b2, o2, Slc.nil, cr, cr, []⟩, hT2, ?_, fun i' h1 h2 => ?_, ?_⟩
          · rw [put_p, hE]; rfl
          · have h3 := hEn i' (by omega) h2
            obtain ⟨_, e2⟩ := put_sl E hj2 ⟨b2, o2, Slc.nil, cr, cr, []⟩
            have e3 : i' = 1 - j := by omega
            rw [e3, e2, ← e3]; exact h3
          · obtain ⟨e1, e2⟩ := put_sl E hj2 ⟨b2, o2, Slc.nil, cr, cr, []⟩
            have H : Hp w0 w11 (star (all actA []) _) := H.ent Asn.emp_l
            have H := H.nilRow Ty_disk_loose 2
            have H := H.blk b
            have H := (((((H.take (slA (E.sl (1 - j)))).take (all actA [])).own Slc.nil).own o2).own b2).blk q
            refine (diskClose (D := E.put j ⟨b2, o2, Slc.nil, cr, cr, []⟩) (F := star (bk b Ty_sl_int #[t2.v]) (star (diskA p D) (star A F))) hj2 ?_)
            unfold diskI
            rw [e1, e2]
            exact H
    · rintro w6 ⟨t', E', hT', hE', hEn', H⟩
      refine ⟨⟨j + 1, wrj (by omega), by omega, t', E', ?_, ?_, hEn', H⟩, by rw [wrj (j := j) (by omega)]; dsimp only; omega⟩
      · rw [ecr]; exact hT'
      · rw [ecr]; exact hE'
  · have hj2 : j = 2 := by simp at hlt; omega
    subst hj2
    refine Rt.ok ⟨q, E, rfl, hE, ?_⟩
    exact (H.blk b).drop
end
end Go.Proofs.YtflcdgkckfcofaaGreatDoor

/-
  A log whose machine stops, and what is opened behind it.
-/
namespace Go.Proofs.YtflcdgkckfcofaaGreatDoor
open Go Go.Vc Go.Vc.Asn Go.Disk
structure Gone (x : LifeV) (D : DiskP) (P : List Up → Prop) : Prop where
  cr : ∀ zs, ∃ c b Z, AtRest (crashP D zs) c b 0 zMax ∧ b.length ≤ zMax ∧ Torn x.hn x.hk 0 x.hs b Z ∧ Z.length ≤ 1048576 ∧ P Z
  sz : ∀ i, i < 2 → Sized (D.sl i)
theorem Gone.mono {x : LifeV} {D : DiskP} {P Q : List Up → Prop} (h : Gone x D P) (k : ∀ Z, P Z → Q Z) : Gone x D Q :=
  ⟨fun zs => let ⟨c, b, Z, h1, h2, h3, h4, h5⟩ := h.cr zs; ⟨c, b, Z, h1, h2, h3, h4, k Z h5⟩, h.sz⟩
structure LogSt (x : LifeV) (L : LogM) (D : DiskP) (X : List Upd) (m : Nat) : Prop where
  hn : L.n = x.hn
  hk : L.k = x.hk
  hd : L.dl = 0
  hs : L.s = x.hs
  br : L.broken = 0
  still : Still D L.slot (logX x X) m zMax
  byt : L.bytes = ((logX x X).length : Int)
  good : ∀ u ∈ X, GoodU u
  len : X.length ≤ 1048576
theorem LogOk.st {x : LifeV} {L : LogM} {D : DiskP} {X : List Upd} {m : Nat} (h : LogOk x L D X m) {k : Int} (hk : k ≤ 6) (y : Bool) : LogSt x L { D with named := max 0 k, done := y } X m :=
  ⟨h.hn, h.hk, h.hd, h.hs, h.br, h.calm.stop hk y, h.byt, h.good, h.len⟩
section
variable {w0 w : World} {A F : Asn} {us : Slc} {U X : List Upd} {p q m : Nat} {L : LogM} {D : DiskM} {x : LifeV}
theorem logX_z (x : LifeV) {X : List Upd} (h : ∀ u ∈ X, GoodU u) (hl : X.length ≤ 1048576) : (logX x X).length ≤ zMax := by
  have := logX_len x h
  rw [zMax_eq]; omega
theorem gone_still {D : DiskP} {i : Nat} {b : List UInt8} {Z : List Up} (h : Still D i b m zMax) (hb : b.length ≤ zMax) (hT : Torn x.hn x.hk 0 x.hs b Z) (hZ : Z.length ≤ 1048576) : Gone x D fun Y => Y = Z :=
  ⟨fun zs => ⟨i, b, Z, crash_still h zs, hb, hT, hZ, rfl⟩, (h.wd hb).sz (by rw [zMax_eq]; omega) (by omega)⟩
theorem append_stop (hG : GT w0) (hE : ErrG w0) (hL : LogSt x L D.p X m) (hq : L.q = some q) (hm : m ≤ 1073741824) (hU : UpsA w0 A us U) (hg : ∀ u ∈ U, GoodU u) (hl : X.length + U.length ≤ 1048576)
    (H : Hp w0 w (logW p q L (wrX x X) D (star A F))) :
    Calls PP F_flog_Log_Append #[.pointer (some (blk p)), us.v] w (Rt fun v w' => ∃ e q' L' D', v = .int .i64 e ∧ (e = 0 ∨ (e = 60 ∧ L'.broken = 60 ∧ L'.q = some q')) ∧ L'.d = L.d ∧
      Gone x D'.p (fun Z => ∃ i, i ≤ U.length ∧ Z = X.map Vc_up ++ (U.map Vc_up).take i ∧ (e = 0 → i = U.length)) ∧ ∃ y, y.1.length = 4 ∧ Hp w0 w' (logW p q' L' y D' (star A F))) := by
  have hlx := logX_len x hL.good
  have hc := hL.still
  have hB : BdS D.p (U.length * 66000) 2 := hc.bd (by omega) (by rw [zMax_eq]; omega) (by omega) (by omega)
  have hl4 : (wrX x X).1.length = 4 := logLast_len _ _ (hLast_len _ _ _ _)
  refine Rt.mono (lappend_c (n := X.length) hG hE hU (by omega) hq hc.i2 hl4 (by omega) (by rw [hL.byt]; omega) hB H) ?_
  rintro v w' (⟨h0, rfl, H⟩ | ⟨_, h0, _⟩ | ⟨_, hne, hb, rfl, D', hD', h⟩)
  · rcases h0 with h0 | rfl
    · exact absurd hL.br h0
    · refine ⟨L.broken, q, L, D, rfl, .inl hL.br, rfl, (gone_still (x := x) hc (logX_z x hL.good hL.len) (torn_whole x.may (good_upo hL.good)) (by rw [List.length_map]; exact hL.len)).mono ?_, _, hl4, H⟩
      rintro Z rfl
      exact ⟨0, Nat.zero_le _, by simp, fun _ => rfl⟩
  · exact absurd (good_bad hg) h0
  · have eX : logX x X ++ logB (wrX x X).1 (U.map Vc_up) = logX x (X ++ U) := by
      unfold logX newB wrX
      rw [List.map_append, logB_append, List.append_assoc]
    have hXU : ∀ u ∈ X ++ U, GoodU u := by
      intro u hu
      rcases List.mem_append.1 hu with hu | hu
      · exact hL.good u hu
      · exact hg u hu
    have hXUl : (X ++ U).length ≤ 1048576 := by rw [List.length_append]; exact hl
    have hz := logX_z x hXU hXUl
    have hbsl : (logB (wrX x X).1 (U.map Vc_up)).length ≤ zMax := by rw [← eX, List.length_append] at hz; omega
    have hgone : Gone x D'.p (fun Z => ∃ i, i ≤ U.length ∧ Z = X.map Vc_up ++ (U.map Vc_up).take i ∧ ((appR D.p L.slot (logB (wrX x X).1 (U.map Vc_up))).2 = 0 → i = U.length)) := by
      rw [hD']
      refine ⟨fun zs => ?_, (WD.appR (hc.wd (logX_z x hL.good hL.len)) hc.dead hc.i2).sz (by rw [zMax_eq] at *; omega) (by omega)⟩
      obtain ⟨j, hj, hr, hj0⟩ := crash_appR hc (logB (wrX x X).1 (U.map Vc_up)) zs
      obtain ⟨i, hi, hi0, hT⟩ := torn_tear (j := j) x.may (X := X.map Vc_up) (G := U.map Vc_up) (by rw [← List.map_append]; exact good_upo hXU) hj
      rw [List.length_map] at hi hi0
      refine ⟨L.slot, _, _, hr, ?_, hT, ?_, i, hi, rfl, fun h0 => hi0 (hj0 h0)⟩
      · rw [← eX, List.length_append] at hz
        rw [List.length_append, List.length_take]
        omega
      · rw [List.length_append, List.length_take, List.length_map, List.length_map]
        omega
    have h60 : (appR D.p L.slot (logB (wrX x X).1 (U.map Vc_up))).2 = 0 ∨ (appR D.p L.slot (logB (wrX x X).1 (U.map Vc_up))).2 = 60 := by
      rcases app_stop (D := D.p) (i := L.slot) (bs := logB (wrX x X).1 (U.map Vc_up)) hc.dead with h | h
      · exact .inl h.1
      · exact .inr h.1
    rcases h with ⟨h1, q', H⟩ | ⟨h1, H⟩
    · exact ⟨_, q', { L with q := some q', bytes := L.bytes + ((logB (wrX x X).1 (U.map Vc_up)).length : Int) }, D', rfl, .inl h1, rfl, hgone, (logLast (wrX x X).1 (U.map Vc_up), ((X.length + U.length : Nat) : Int)), logLast_len _ _ hl4, H⟩
    · have h1 := h60.resolve_left h1
      exact ⟨_, q, { L with broken := (appR D.p L.slot (logB (wrX x X).1 (U.map Vc_up))).2 }, D', rfl, .inr ⟨h1, h1, hq⟩, rfl, hgone, wrX x X, hl4, H⟩
theorem compact_stop (hG : GT w0) (hE : ErrG w0) (hL : LogSt x L D.p X m) (hq : L.q = some q) (hm : m ≤ 1073741824) (hU : UpsA w0 A us U) (hg : ∀ u ∈ U, GoodU u) (hl : U.length ≤ 1048576)
    (H : Hp w0 w (logW p q L (wrX x X) D (star A F))) :
    Calls PP F_flog_Log_Compact #[.pointer (some (blk p)), us.v] w (Rt fun v w' => ∃ e q' L' D', v = .int .i64 e ∧ (e = 0 ∨ (e = 60 ∧ L'.broken = 60 ∧ L'.q = some q')) ∧ L'.d = L.d ∧
      Gone x D'.p (fun Z => Z = U.map Vc_up ∨ (e ≠ 0 ∧ Z = X.map Vc_up)) ∧ ∃ y, y.1.length = 4 ∧ Hp w0 w' (logW p q' L' y D' (star A F))) := by
  have hlx := logX_len x hL.good
  have hlen := hL.len
  have hc := hL.still
  have hl4 : (wrX x X).1.length = 4 := logLast_len _ _ (hLast_len _ _ _ _)
  have hB : BdS D.p (41 + U.length * 66000) 4 := hc.bd (by omega) (by rw [zMax_eq]; omega) (by omega) (by omega)
  refine Rt.mono (lcompact_c hG hE hU hl hc.i2 hB H) ?_
  have ehd : mayHeadV L.n L.k L.dl L.s = 0 := by rw [hL.hn, hL.hk, hL.hd, hL.hs]; exact x.may
  have ebs : L.bs U = logX x U := by unfold LogM.bs logX newB; rw [hL.hn, hL.hk, hL.hd, hL.hs]
  have hi := hc.i2
  rintro v w' (⟨h0, _⟩ | ⟨_, e, h0, he, _⟩ | ⟨_, _, _, rfl, D', hD', h⟩)
  · exact absurd hL.br h0
  · rw [if_neg (by simpa using ehd), good_bad hg] at he
    exact absurd he h0
  · rw [ebs] at h hD' ⊢
    have hz := logX_z x hg hl
    have hcur : ¬ ((1 - L.slot : Nat) : Int) = D.p.cur := by rw [hc.cur]; omega
    have hgone : Gone x D'.p (fun Z => Z = U.map Vc_up ∨ ((anewR D.p (1 - L.slot) (logX x U)).2 ≠ 0 ∧ Z = X.map Vc_up)) := by
      rw [hD']
      refine ⟨fun zs => ?_, (WD.anewR (hc.wd (logX_z x hL.good hL.len)) hc.dead hcur (by omega)).sz (by rw [zMax_eq] at *; omega) (by omega)⟩
      rcases crash_anewR hc (logX_z x hL.good hL.len) (logX x U) hz zs with hr | ⟨h0, hr⟩
      · exact ⟨_, _, _, hr, hz, torn_whole x.may (good_upo hg), by rw [List.length_map]; exact hl, .inl rfl⟩
      · exact ⟨_, _, _, hr, logX_z x hL.good hL.len, torn_whole x.may (good_upo hL.good), by rw [List.length_map]; exact hlen, .inr ⟨h0, rfl⟩⟩
    have h60 : (anewR D.p (1 - L.slot) (logX x U)).2 = 0 ∨ (anewR D.p (1 - L.slot) (logX x U)).2 = 60 := by
      rcases anew_stop (D := D.p) (i := 1 - L.slot) (bs := logX x U) hc.dead hcur with h | h
      · exact .inl h.1
      · exact .inr h.1
    rcases h with ⟨h1, q', H⟩ | ⟨h1, H⟩
    · exact ⟨_, q', { L with slot := 1 - L.slot, q := some q', bytes := ((logX x U).length : Int) }, D', rfl, .inl h1, rfl, hgone, (logLast (hLast L.n L.k L.dl L.s) (U.map Vc_up), (U.length : Int)), logLast_len _ _ (hLast_len _ _ _ _), H⟩
    · have h1 := h60.resolve_left h1
      exact ⟨_, q, { L with broken := (anewR D.p (1 - L.slot) (logX x U)).2 }, D', rfl, .inr ⟨h1, h1, hq⟩, rfl, hgone, wrX x X, hl4, H⟩
theorem any_now {i z : Nat} {now : List UInt8} (h : Still D.p i now m z) : (D.sl i).now = now := by
  have h1 : (D.sl i).p = ⟨now, now, []⟩ := (sl_p D i).trans h.sl
  exact congrArg SlP.now h1
theorem openR_any {D : DiskP} {i : Nat} {b : List UInt8} {Z : List Up} (hc : Still D i b m zMax) (hT : Torn x.hn x.hk 0 x.hs b Z) :
    openR D i x.hn x.hk 0 x.hs = if clean b = true then (D, 0) else anewR D (1 - i) (newB x.hn x.hk 0 x.hs Z) := by
  have he : hdEq b x.hn x.hk 0 x.hs = true := by unfold hdEq; rw [hT.hd]; simp
  unfold openR
  rw [if_neg (by simpa using x.may), if_neg (by rw [hc.dead]; decide), hc.sl]
  dsimp only
  rw [hT.ok, he, if_neg (by decide), hT.sc]
theorem newB_z {Z : List Up} (hu : Upo Z) (hl : Z.length ≤ 1048576) : (newB x.hn x.hk 0 x.hs Z).length ≤ 41 + Z.length * 66000 ∧ (newB x.hn x.hk 0 x.hs Z).length ≤ zMax := by
  have h1 := hBs_len x.may
  have h2 := logB_len (hLast x.hn x.hk 0 x.hs) Z fun u hu' => (hu u hu').1
  unfold newB
  rw [List.length_append, zMax_eq]
  omega
theorem open_any {i : Nat} {b : List UInt8} {Z : List Up} (hG : GT w0) (hE : ErrG w0) (hc : AtRest D.p i b m zMax) (hT : Torn x.hn x.hk 0 x.hs b Z) (hb : b.length ≤ zMax) (hZ : Z.length ≤ 1048576) (hm : m ≤ 1073741824) (H : Hp w0 w (star (diskA p D) F)) :
    Calls PP F_flog_Open #[.pointer (some (blk p)), x.hv] w (Rt fun v w' => ∃ lp q us Y D' L', v = .tuple #[.pointer (some (blk lp)), Slc.v us, .int .i64 0] ∧ Y.map Vc_up = Z ∧ (∀ u ∈ Y, GoodU u) ∧ L'.d = p ∧ L'.q = some q ∧ LogOk x L' D'.p Y (m + 4) ∧
      Hp w0 w' (star (star (own Ty_api_Update 7 us (Y.map Upd.cells).flatten) (all rowU Y)) (logW lp q L' (wrX x Y) D' F))) := by
  have hst := hc.still
  have er := openR_any hst hT
  have enow := any_now hst
  obtain ⟨hnl, hnz⟩ := newB_z (x := x) hT.upo hZ
  have hca := anewR_calm hc hb (newB x.hn x.hk 0 x.hs Z)
  have hB : BdS D.p (41 + (scanX (D.sl i).now).length * 66000) 4 := hc.bd (by rw [enow, hT.sc]; rw [zMax_eq] at hb; omega) (by rw [enow, hT.sc, zMax_eq]; omega) (by omega) (by omega)
  refine Rt.mono (open_c hG hE hc.i2 hc.cur (by rw [enow, hT.sc]; exact hZ) (by rw [enow]; rw [zMax_eq] at hb; omega) hB H) ?_
  rintro v w' (⟨h0, _⟩ | ⟨lp, q, us, Y, D', _, rfl, hY, hYd, hD', H⟩)
  · rw [er] at h0
    split at h0
    · exact absurd rfl h0
    · exact absurd hca.1 h0
  · rw [enow, hT.sc] at hY
    rw [er] at hD'
    rw [enow] at H
    have hYg : ∀ u ∈ Y, GoodU u := fun u hu => by
      have := hT.upo _ (by rw [← hY]; exact List.mem_map_of_mem hu)
      exact ⟨this.1, this.2, hYd u hu⟩
    have hYl : Y.length = Z.length := by have := congrArg List.length hY; simpa using this
    have eX : logX x Y = newB x.hn x.hk 0 x.hs Z := by unfold logX; rw [hY]
    have eW : (wrX x Y).1 = logLast (hLast x.hn x.hk 0 x.hs) Z := by unfold wrX; rw [hY]
    by_cases hcl : clean b = true
    · have ebs := hT.cl hcl
      obtain ⟨s1, s2, s3, s4, s5⟩ := scan_newB x.may hT.upo
      rw [if_pos hcl] at hD'
      rw [show openSlot b i = i from if_pos hcl, show openB x.hn x.hk 0 x.hs b = logX x Y from (if_pos hcl).trans (ebs.trans eX.symm), show openLast x.hn x.hk 0 x.hs b = (wrX x Y).1 from (if_pos hcl).trans (by rw [ebs, s5, eW])] at H
      refine ⟨lp, q, us, Y, D', _, rfl, hY, hYg, rfl, rfl, ⟨rfl, rfl, rfl, rfl, rfl, ?_, rfl, hYg, by omega⟩, H⟩
      rw [hD', eX, ← ebs]
      exact ⟨hc.i2, hc.dead, hc.nmd, hc.cur, hc.sl, hc.oth, by have := hc.acts; dsimp only; omega⟩
    · rw [if_neg hcl] at hD'
      rw [show openSlot b i = 1 - i from if_neg hcl, show openB x.hn x.hk 0 x.hs b = logX x Y from (if_neg hcl).trans (by rw [hT.sc, eX]), show openLast x.hn x.hk 0 x.hs b = (wrX x Y).1 from (if_neg hcl).trans (by rw [hT.sc, eW])] at H
      refine ⟨lp, q, us, Y, D', _, rfl, hY, hYg, rfl, rfl, ⟨rfl, rfl, rfl, rfl, rfl, ?_, rfl, hYg, by omega⟩, H⟩
      rw [hD', eX]
      exact hca.2
theorem open_stop {i : Nat} {b : List UInt8} {Z : List Up} (hG : GT w0) (hE : ErrG w0) (hc : Still D.p i b m zMax) (hT : Torn x.hn x.hk 0 x.hs b Z) (hb : b.length ≤ zMax) (hZ : Z.length ≤ 1048576) (hm : m ≤ 1073741824) (H : Hp w0 w (star (diskA p D) F)) :
    Calls PP F_flog_Open #[.pointer (some (blk p)), x.hv] w (Rt fun v w' => (∃ a us e, v = .tuple #[.pointer a, Slc.v us, .int .i64 e]) ∧ ∃ D', Gone x D'.p (fun Y => Y = Z) ∧ Hp w0 w' (star (diskA p D') F)) := by
  have er := openR_any hc hT
  have enow := any_now hc
  have hi := hc.i2
  obtain ⟨hnl, hnz⟩ := newB_z (x := x) hT.upo hZ
  have hB : BdS D.p (41 + (scanX (D.sl i).now).length * 66000) 4 := hc.bd (by rw [enow, hT.sc]; rw [zMax_eq] at hb; omega) (by rw [enow, hT.sc, zMax_eq]; omega) (by omega) (by omega)
  have hgone : Gone x (openR D.p i x.hn x.hk 0 x.hs).1 (fun Y => Y = Z) := by
    rw [er]
    split
    · exact gone_still hc hb hT hZ
    · have hcur : ¬ ((1 - i : Nat) : Int) = D.p.cur := by rw [hc.cur]; omega
      refine ⟨fun zs => ?_, (WD.anewR (hc.wd hb) hc.dead hcur (by omega)).sz (by rw [zMax_eq] at *; omega) (by omega)⟩
      rcases crash_anewR hc hb (newB x.hn x.hk 0 x.hs Z) hnz zs with hr | ⟨h0, hr⟩
      · exact ⟨_, _, Z, hr, hnz, torn_whole x.may hT.upo, hZ, rfl⟩
      · exact ⟨_, _, Z, hr, hb, hT, hZ, rfl⟩
  refine Rt.mono (open_c hG hE hc.i2 hc.cur (by rw [enow, hT.sc]; exact hZ) (by rw [enow]; rw [zMax_eq] at hb; omega) hB H) ?_
  rintro v w' (⟨h0, rfl, D', hD', H⟩ | ⟨lp, q, us, Y, D', _, rfl, hY, hYd, hD', H⟩)
  · exact ⟨⟨_, Slc.nil, _, rfl⟩, D', by rw [hD']; exact hgone, H⟩
  · refine ⟨⟨_, us, _, rfl⟩, D', by rw [hD']; exact hgone, ?_⟩
    exact H.drop.drop.drop
theorem found_any {i : Nat} {b : List UInt8} {Z : List Up} (hG : GT w0) (hE : ErrG w0) (hc : AtRest D.p i b m zMax) (hT : Torn x.hn x.hk 0 x.hs b Z) (hb : b.length ≤ zMax) (hZ : Z.length ≤ 1048576) (hm : m ≤ 107374182) (H : Hp w0 w (star (diskA p D) F)) :
    Calls PP F_sherdlaw14_found #[x.v, .pointer (some (blk p))] w (Rt fun v w' => ∃ us Y D' c, v = .tuple #[Slc.v us, .bool true] ∧ Y.map Vc_up = Z ∧ (∀ u ∈ Y, GoodU u) ∧ Y.length ≤ 1048576 ∧ AtRest D'.p c (logX x Y) (m + 4) zMax ∧
      Hp w0 w' (star (star (own Ty_api_Update 7 us (Y.map Upd.cells).flatten) (all rowU Y)) (star (diskA p D') F))) := by
  refine sim_sherdlaw14_found _ _ _ _ _ _ _ _ _ _ _ _ _ _ _ _ _ _ _ _ _ ?_
  unfold vc_sherdlaw14_found
  refine H.new fun b0 w1 H => ⟨fun h => by simp at h, fun _ => ?_⟩
  have H := H.drop
  refine call (head_c (x := x)) ?_
  rintro _ w2 ⟨rfl, f2⟩
  refine ⟨_, _, _, _, rfl, ?_⟩
  refine call (open_any (x := x) hG hE hc hT hb hZ (by omega) (H.fr0 f2)) ?_
  rintro _ w3 ⟨lp, q, us, Y, D', L', rfl, hY, hYg, hd, hq, hL, H⟩
  unfold logW at H
  rw [hd] at H
  obtain ⟨S, hS⟩ : ∃ S, S = star (own Ty_api_Update 7 us (Y.map Upd.cells).flatten) (all rowU Y) := ⟨_, rfl⟩
  have husl : us.l = Y.length := by
    have H := H.assoc
    have := (H.cel (s := us)).len
    rw [Upd.flat_len] at this
    omega
  rw [← hS] at H
  refine ⟨_, _, _, rfl, fun y w' => y = true ∧ Hp w0 w' (star S (star (logA lp L') (star (PW q (wrX x Y)) (star (diskA p D') F)))), ⟨fun _ => ?_, fun h => (by simp at h)⟩, ?_⟩
  · refine call (lcount_c (last := (wrX x Y).1) (n := (wrX x Y).2) hq ((H.take (PW q (wrX x Y))).take (logA lp L'))) ?_
    rintro _ w4 ⟨rfl, f4⟩
    refine ⟨_, rfl, ?_, H.fr0 f4⟩
    rw [husl]
    simp [wrX]
  rintro _ w4 ⟨rfl, H⟩
  refine ⟨fun y w' => y = true ∧ Hp w0 w' (star S (star (diskA p D') F)), ⟨fun _ => ?_, fun h => (by cases h)⟩, ?_⟩
  · have hbd : Bd D'.p 0 := rest_bd hL.calm hYg hL.len (by omega)
    refine call (dPending_c hbd (H.take (diskA p D'))) ?_
    rintro _ w5 ⟨rfl, H⟩
    refine ⟨_, rfl, ?_, ?_⟩
    · rw [rest_acts hL.calm]; rfl
    · have H := (H.take (logA lp L')).drop
      have H := (H.take (PW q (wrX x Y))).drop
      exact (H.take (diskA p D')).take S
  rintro _ w5 ⟨rfl, H⟩
  rw [hS] at H
  exact Rt.ok ⟨us, Y, D', L'.slot, rfl, hY, hYg, hL.len, hL.calm, H⟩
theorem one_ups (l : List Upd) : ∀ v ∈ (l.map Upd.cells).flatten, v.oneCell' = true := by
  intro v hv
  obtain ⟨z, hz, hv⟩ := List.mem_flatten.1 hv
  obtain ⟨u, _, rfl⟩ := List.mem_map.1 hz
  exact one_upd u v hv
theorem one_ints (l : List Int) : ∀ v ∈ l.map (Value.int .i64), v.oneCell' = true := by
  intro v hv
  obtain ⟨z, _, rfl⟩ := List.mem_map.1 hv
  rfl
theorem Ups.cut {us : Slc} {l : List Upd} {k : Nat} (h : Ups w us l) (hk : k ≤ l.length) : Cel w (us.cut 7 0 k) 7 ((l.take k).map Upd.cells).flatten := by
  have hl := h.len
  have := Cel.cut h.cel (l := 0) (k := k) (Nat.zero_le _) (by omega)
  rw [Nat.zero_mul, List.drop_zero, Nat.sub_zero] at this
  have e : List.take (k * 7) (l.map Upd.cells).flatten = ((l.take k).map Upd.cells).flatten := by
    rw [← List.flatMap_def, ← List.flatMap_def]
    exact take_fm (f := Upd.cells) (n := 7) (fun _ => rfl) l k
  rw [e] at this
  exact this
theorem among_c {us has g : Slc} {Y G : List Upd} {k n : Int} {o l : Slc} {y : Bool} {h1 h2 h3 h4 : Int} (hY : Ups w us Y) (hX : Ups w has X) (hg : Ups w g G) (hYl : Y.length ≤ 1048576) (hXl : X.length ≤ 1048576) (hGl : G.length ≤ 1048576)
    (h : Y.map Vc_up = X.map Vc_up ∨ (k = 3 ∧ Y.map Vc_up = G.map Vc_up) ∨ (k = 2 ∧ ∃ i, i ≤ G.length ∧ Y.map Vc_up = X.map Vc_up ++ (G.map Vc_up).take i)) :
    Calls PP F_sherdlaw14_among #[us.v, has.v, .agg #[.int .i64 k, o.v, .int .i64 n, .bool y, l.v, .int .i64 h1, .int .i64 h2, .int .i64 h3, .int .i64 h4], g.v] w (Rt fun v w' => v = .bool true ∧ Fr [] w w') := by
  refine sim_sherdlaw14_among _ _ _ _ _ _ _ _ _ _ _ _ _ _ ?_
  unfold vc_sherdlaw14_among
  refine (Hp.start w).new fun b w1 H => ?_
  refine call (fupdates_c (hY.fr0 H.fr) (hX.fr0 H.fr) (by omega)) ?_
  rintro _ w2 ⟨⟨r, rfl, hr⟩, f2⟩
  have H := H.fr0 f2
  refine ⟨r, rfl, fun h' => Rt.ok ⟨rfl, H.fr⟩, fun h' => ?_⟩
  have hno : ¬ Y.map Vc_up = X.map Vc_up := fun e => by rw [hr.2 e] at h'; cases h'
  refine ⟨k, H.cell (b := b) (i := 0) rfl, fun hk => ?_, fun hk => ⟨k, H.cell (b := b) (i := 0) rfl, fun hb => ?_, fun hb => ?_⟩⟩
  · have hk : k = 3 := by simpa using hk
    have hYG : Y.map Vc_up = G.map Vc_up := by
      rcases h with h | ⟨_, h⟩ | ⟨h, _⟩
      · exact absurd h hno
      · exact h
      · omega
    refine call (fupdates_c (hY.fr0 H.fr) (hg.fr0 H.fr) (by omega)) ?_
    rintro _ w3 ⟨⟨r, rfl, hr⟩, f3⟩
    exact ⟨r, rfl, Rt.ok ⟨by rw [hr.2 hYG], H.fr.then_ f3⟩⟩
  all_goals
    have hk : ¬ k = 3 := by simpa using hk
    obtain ⟨hk2, i, hi, hYG⟩ : k = 2 ∧ ∃ i, i ≤ G.length ∧ Y.map Vc_up = X.map Vc_up ++ (G.map Vc_up).take i := by
      rcases h with h | ⟨h, _⟩ | h
      · exact absurd h hno
      · exact absurd h hk
      · exact h
    have hlen : Y.length = X.length + i := by
      have := congrArg List.length hYG
      rw [List.length_append, List.length_take, List.length_map, List.length_map, List.length_map] at this
      omega
    have hul := hY.len
    have hhl := hX.len
    have hgl := hg.len
    have ewr : wr .i64 ((us.l : Int) - (has.l : Int)) = (i : Int) := by rw [hul, hhl, wr64 (by omega) (by omega)]; omega
    rw [ewr] at hb
  · simp at hb; omega
  · rw [ewr]
    have hcap := hg.cel.cap
    refine ⟨by omega, by omega, by omega, ?_⟩
    have H := H.drew 1
    rw [Int.toNat_natCast, show Int.toNat (0 : Int) = 0 from rfl]
    refine H.newRow (n := 0) (size := 7) [] rfl rfl (by decide) fun c w3 H => ?_
    refine Hp.app slT_sl_api_Update (H.own ⟨some (blk c), 0, 0⟩) (hX.fr0 H.fr).cel (one_ups _) (by unfold maxLen; simp only; omega) (by simp only; omega) fun s1 w4 H hs1 => ?_
    simp only at hs1
    have hcut := Ups.cut (hg.fr0 H.fr) hi
    have hcutl : (g.cut 7 0 i).l = i := by unfold Slc.cut; simp
    refine Hp.app slT_sl_api_Update (H.own s1) hcut (one_ups _) (by rw [hcutl]; unfold maxLen; omega) (by rw [hcutl]; omega) fun s2 w5 H _ => ?_
    have hU2 : Ups w5 s2 (X ++ G.take i) := by
      have e : ([] ++ (X.map Upd.cells).flatten) ++ ((G.take i).map Upd.cells).flatten = ((X ++ G.take i).map Upd.cells).flatten := by simp
      have hc := (H.own s2).cel (s := s2)
      rw [e] at hc
      refine ⟨hc, fun u hu => ?_⟩
      rcases List.mem_append.1 hu with hu | hu
      · exact (hX.fr0 H.fr).dat u hu
      · exact (hg.fr0 H.fr).dat u (List.mem_of_mem_take hu)
    refine call (fupdates_c (hY.fr0 H.fr) hU2 (by omega)) ?_
    rintro _ w6 ⟨⟨r, rfl, hr⟩, f6⟩
    refine ⟨r, rfl, Rt.ok ⟨by rw [hr.2 (by rw [hYG, List.map_append, List.map_take])], H.fr.then_ f6⟩⟩
end
end Go.Proofs.YtflcdgkckfcofaaGreatDoor
