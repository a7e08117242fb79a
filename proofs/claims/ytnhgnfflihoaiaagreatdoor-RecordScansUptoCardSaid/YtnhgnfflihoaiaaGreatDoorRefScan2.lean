/-
  Contracts of the reference's Scan: an update, a head.
-/
import Derived.Test.YtnhgnfflihoaiaaGreatDoorRefScan
namespace Go.Proofs.YtnhgnfflihoaiaaGreatDoor
open Go Go.Vc Go.Vc.Asn
theorem readB_steps (bs : List UInt8) : readB bs = (let a := byteR bs ⟨0, 0⟩
  let b := bytesR bs (64 : Nat) a.2
  let c := uintR bs 4611686018427387903 b.2
  let d := uintR bs 65535 c.2
  let e := if (a.1.toNat : Int) = 3 then boolR bs d.2 else (false, d.2)
  let f := if (a.1.toNat : Int) = 3 then boolR bs e.2 else (false, e.2)
  let g := if (if (a.1.toNat : Int) = 3 then f.1 else decide ((a.1.toNat : Int) = 1)) = true then bytesR bs (65540 : Nat) f.2 else ([], f.2)
  (⟨a.1.toNat, ⟨b.1.toArray⟩, c.1, d.1, e.1, f.1, g.1⟩, endR bs g.2)) := rfl
abbrev zU : List Value := [.int .i64 0, .string ⟨#[]⟩, .int .i64 0, .int .i64 0, .bool false, .bool false, Slc.nil.v]
set_option maxHeartbeats 1000000 in
theorem rupdate_c {w : World} {s : Slc} {bs : List UInt8} (hb : Byt w s bs) (hm : bs.length ≤ 1099511627776) :
    Calls PP F_sherdref11_update #[s.v] w (Rt fun v w' => (okB bs = true ∧ ∃ y : Slc, v = .tuple #[(readB bs).1.v y, .bool true] ∧ Hp w w' (star (own Ty_uint8 1 y ((readB bs).1.ds.map u8v)) emp)) ∨
      (okB bs = false ∧ v = .tuple #[.agg zU.toArray, .bool false] ∧ Fr [] w w')) := by
  have hinv := fun h => readB_inv (bs := bs) h
  have hokB : okB bs = (decide ((readB bs).2.err = 0) && decide ((readB bs).1.may = 0)) := rfl
  have hst := readB_steps bs
  simp only at hst
  refine sim_sherdref11_update _ _ _ ?_
  unfold vc_sherdref11_update
  simp only [add_add]
  refine (Hp.start w).new fun b3 w1 H => call (qr_new H (hb.fr0 H.fr) hm) ?_
  rintro _ w2 ⟨p, rfl, H⟩
  refine ⟨_, rfl, H.new fun b w3 H => call (qr_byte (H.obj QRd p)) ?_⟩
  rintro _ w4 ⟨rfl, H⟩
  generalize ha : byteR bs ⟨0, 0⟩ = a at *
  have ha1 := a.1.toNat_lt
  refine ⟨_, rfl, ?_⟩
  rw [wr64 (by omega) (by omega)]
  refine H.sto (b := b) (i := 0) (lt_ rfl) fun w5 H => call (qr_text (H.obj QRd p)) ?_
  rintro _ w6 ⟨rfl, H⟩
  rw [show (64 : Int) = ((64 : Nat) : Int) from rfl] at H ⊢
  generalize hb' : bytesR bs ((64 : Nat) : Int) a.2 = bb at *
  refine ⟨_, rfl, H.sto (b := b) (i := 1) (lt_ rfl) fun w7 H => call (qr_uint (H.obj QRd p)) ?_⟩
  rintro _ w8 ⟨rfl, H⟩
  generalize hc : uintR bs 4611686018427387903 bb.2 = c at *
  refine ⟨_, rfl, ?_⟩
  refine H.sto (b := b) (i := 2) (lt_ rfl) fun w9 H => call (qr_uint (H.obj QRd p)) ?_
  rintro _ w10 ⟨rfl, H⟩
  generalize hd : uintR bs 65535 c.2 = d at *
  refine ⟨_, rfl, ?_⟩
  refine H.sto (b := b) (i := 3) (lt_ rfl) fun w11 H => ?_
  generalize he : (if (a.1.toNat : Int) = 3 then boolR bs d.2 else (false, d.2)) = e at *
  generalize hf : (if (a.1.toNat : Int) = 3 then boolR bs e.2 else (false, e.2)) = f at *
  generalize hg : (if (if (a.1.toNat : Int) = 3 then f.1 else decide ((a.1.toNat : Int) = 1)) = true then bytesR bs ((65540 : Nat) : Int) f.2 else ([], f.2)) = g at *
  let M : RS → Bool → Bool → Slc → List UInt8 → World → Prop := fun st x y d0 dl w' => Hp w w' (star (bk b Ty_api_Update #[.int .i64 (a.1.toNat : Int), .string ⟨bb.1.toArray⟩, .int .i64 c.1, .int .i64 d.1, .bool x, .bool y, d0.v]) (star (obj QRd p (bs, st)) (star (own Ty_uint8 1 d0 (dl.map u8v)) (star (bk b3 Ty_api_Update zU.toArray) emp))))
  have H : M d.2 false false Slc.nil [] w11 := by
    have H2 := H.nilRow Ty_uint8 1
    have H3 := (H2.obj QRd p).blk b
    exact (H3.ent (Ent.star (Ent.refl _) (Ent.star (Ent.refl _) (Ent.refl _))))
  refine ⟨fun w' => M f.2 e.1 f.1 Slc.nil [] w', ⟨_, H.cell (b := b) (i := 0) rfl, fun h3 => ?_, fun h3 => ?_⟩, ?_⟩
  · simp only [decide_eq_true_eq] at h3
    rw [if_pos h3] at he hf
    refine call (qr_bool (Hp.obj QRd p H)) ?_
    rintro _ w12 ⟨rfl, H⟩
    rw [he] at H ⊢
    refine ⟨_, rfl, ?_⟩
    refine H.sto (b := b) (i := 4) (lt_ rfl) fun w13 H => call (qr_bool (H.obj QRd p)) ?_
    rintro _ w14 ⟨rfl, H⟩
    rw [hf] at H ⊢
    refine ⟨_, rfl, ?_⟩
    exact H.sto (b := b) (i := 5) (lt_ rfl) fun w15 H => (H.blk b).ent (Ent.refl _)
  · simp only [decide_eq_false_iff_not] at h3
    rw [if_neg h3] at he hf
    subst he hf
    exact H
  intro w12 H
  refine ⟨fun w' => ∃ y, M g.2 e.1 f.1 y g.1 w', ⟨_, H.cell (b := b) (i := 0) rfl, decide ((a.1.toNat : Int) = 1) || f.1, fun h3 => ⟨f.1, ?_, by rw [h3]; rfl⟩, fun h3 => by rw [h3]; rfl, fun h3 => ?_, fun h3 => ?_⟩, ?_⟩
  · exact H.cell (b := b) (i := 5) rfl
  · have hcnd : (if (a.1.toNat : Int) = 3 then f.1 else decide ((a.1.toNat : Int) = 1)) = true := by
      by_cases h5 : (a.1.toNat : Int) = 3
      · rw [if_pos h5]
        simpa [h5] using h3
      · rw [if_neg h5]
        rw [if_neg h5] at hf
        rw [← hf] at h3
        simpa using h3
    rw [if_pos hcnd] at hg
    refine call (qr_bytes (Hp.obj QRd p H)) ?_
    rintro _ w13 ⟨y, rfl, H⟩
    rw [show (65540 : Int) = ((65540 : Nat) : Int) from rfl, hg] at H
    refine ⟨y, rfl, H.sto (b := b) (i := 6) (lt_ rfl) fun w14 H => ⟨y, ?_⟩⟩
    have H := (H.own Slc.nil).drop
    exact (H.obj QRd p).blk b |>.ent (Ent.refl _)
  · have hcnd : ¬ (if (a.1.toNat : Int) = 3 then f.1 else decide ((a.1.toNat : Int) = 1)) = true := by
      by_cases h5 : (a.1.toNat : Int) = 3
      · rw [if_pos h5]
        simpa [h5] using h3
      · rw [if_neg h5]
        rw [if_neg h5] at hf
        rw [← hf] at h3
        simpa using h3
    rw [if_neg hcnd] at hg
    subst hg
    exact ⟨Slc.nil, H⟩
  rintro w13 ⟨y, H⟩
  refine call (qr_end (Hp.obj QRd p H)) ?_
  rintro _ w14 ⟨rfl, H⟩
  refine ⟨rfl, call (qr_err H) ?_⟩
  rintro _ w15 ⟨rfl, H⟩
  refine ⟨_, rfl, fun x w' => x = !(okB bs) ∧ Hp w w' (star (obj QRd p (bs, endR bs g.2)) (star (bk b Ty_api_Update #[.int .i64 (a.1.toNat : Int), .string ⟨bb.1.toArray⟩, .int .i64 c.1, .int .i64 d.1, .bool e.1, .bool f.1, y.v]) (star (own Ty_uint8 1 y (g.1.map u8v)) (star (bk b3 Ty_api_Update zU.toArray) emp)))), ⟨fun h4 => ?_, fun h4 => ?_⟩, ?_⟩
  · simp only [ne_eq, decide_not, Bool.not_eq_false', decide_eq_true_eq] at h4
    have hyl := (Hp.byt (s := y) (bs := g.1) H).len
    refine ldU (H.blk b) (call (rmay_c _ _ _ _ _ _ _ _) ?_)
    rintro _ w16 ⟨rfl, f16⟩
    refine ⟨_, rfl, ?_, H.fr0 f16⟩
    rw [hokB, hst, hyl]
    simp [h4, Up.may]
    rfl
  · simp only [ne_eq, decide_not, Bool.not_eq_true', decide_eq_false_iff_not] at h4
    refine ⟨?_, H⟩
    rw [hokB, hst]
    simp [h4]
  rintro _ w16 ⟨rfl, H⟩
  refine ⟨fun x w' => x = !(okB bs) ∧ Hp w w' (star (obj QRd p (bs, endR bs g.2)) (star (bk b Ty_api_Update #[.int .i64 (a.1.toNat : Int), .string ⟨bb.1.toArray⟩, .int .i64 c.1, .int .i64 d.1, .bool e.1, .bool f.1, y.v]) (star (own Ty_uint8 1 y (g.1.map u8v)) (star (bk b3 Ty_api_Update zU.toArray) emp)))), ⟨fun h4 => ?_, fun h4 => ⟨by simpa using h4.symm, H⟩⟩, ?_⟩
  · have hok : okB bs = true := by simpa using h4
    obtain ⟨i1, i2, i3⟩ := hinv hok
    obtain ⟨m1, m2, m3, m4, m5, m6⟩ := may_ok i3
    rw [hst] at i1 i3 m1 m3 m4
    simp only at i1 i3 m1 m3 m4
    obtain ⟨c1, hc1⟩ := Int.eq_ofNat_of_zero_le (by omega : 0 ≤ c.1)
    obtain ⟨d1, hd1⟩ := Int.eq_ofNat_of_zero_le (by omega : 0 ≤ d.1)
    refine ldU (H.blk b) ?_
    rw [hc1, hd1] at i1 i3 ⊢
    have hyB : Byt w16 y g.1 := Hp.byt (s := y) H
    refine call (rbody_c i3 hyB) ?_
    rintro _ w17 ⟨z, rfl, hM⟩
    have H := H.fr0 hM.fr
    have hbl := hb.len
    refine ⟨z, rfl, call (requal_c hM.byt (hb.fr0 H.fr) ?_) ?_⟩
    · have := congrArg List.length i1
      simp only [Up.body, Int.toNat_natCast] at this
      rw [← this]; omega
    rintro _ w18 ⟨rfl, f18⟩
    refine ⟨_, rfl, ?_, (by have H := H.fr0 f18; rw [hc1, hd1] at H; exact H)⟩
    rw [hok]
    simp only [Up.body, Int.toNat_natCast] at i1
    simp only [Int.toNat_natCast]
    rw [← i1]
    simp
  rintro _ w17 ⟨rfl, H⟩
  refine ⟨fun h5 => ?_, fun h5 => ?_⟩
  · exact retU (H.blk b3) rfl fun w18 H => Rt.ok (.inr ⟨by simpa using h5, rfl, H.fr⟩)
  · refine ldU (H.blk b) (retU (H.blk b3) rfl fun w18 H => Rt.ok (.inl ⟨by simpa using h5, y, ?_, ?_⟩))
    · rw [hst]; rfl
    · rw [hst]
      exact ((H.obj QRd p).drop.blk b).drop
/-! ## The head -/
def okHr (bs : List UInt8) : Prop :=
  let a := byteR bs ⟨0, 0⟩
  let n := uintR bs 255 a.2
  let k := uintR bs 255 n.2
  let d := uintR bs 4611686018427387903 k.2
  let s := uintR bs 255 d.2
  s.2.err = 0 ∧ a.1 = 72 ∧ mayHeadV n.1 k.1 d.1 s.1 = 0
theorem uintR_errs {bs : List UInt8} {max : Int} {st : RS} (h : (uintR bs max st).2.err = 0) : st.err = 0 := by
  by_cases hx : st.err = 0
  · exact hx
  · exact absurd h (uintR_bad hx)
theorem okHr_iff (bs : List UInt8) : (okHr bs ↔ okH1 bs = true) ∧ (okHr bs → readH bs = ⟨(uintR bs 255 (byteR bs ⟨0, 0⟩).2).1, (uintR bs 255 (uintR bs 255 (byteR bs ⟨0, 0⟩).2).2).1, (uintR bs 4611686018427387903 (uintR bs 255 (uintR bs 255 (byteR bs ⟨0, 0⟩).2).2).2).1, (uintR bs 255 (uintR bs 4611686018427387903 (uintR bs 255 (uintR bs 255 (byteR bs ⟨0, 0⟩).2).2).2).2).1⟩) := by
  have hr : readH bs = (let a := byteR bs ⟨0, 0⟩
    let n := uintR bs 4611686018427387903 a.2
    let k := uintR bs 4611686018427387903 n.2
    let d := uintR bs 4611686018427387903 k.2
    let s := uintR bs 4611686018427387903 d.2
    ⟨n.1, k.1, d.1, s.1⟩) := rfl
  have h4 : (rdN bs (byteR bs ⟨0, 0⟩).2 4).2 = (let a := byteR bs ⟨0, 0⟩
    let n := uintR bs 4611686018427387903 a.2
    let k := uintR bs 4611686018427387903 n.2
    let d := uintR bs 4611686018427387903 k.2
    let s := uintR bs 4611686018427387903 d.2
    s.2) := rfl
  unfold okHr okH1
  rw [hr, h4]
  simp only [Bool.and_eq_true, decide_eq_true_eq]
  generalize byteR bs ⟨0, 0⟩ = a
  have up : ∀ {st : RS}, (uintR bs 255 st).2.err = 0 → uintR bs 4611686018427387903 st = uintR bs 255 st := fun h => uintR_up (by omega) (uintR_errs h) h
  have hf : ∀ (s0 : RS), (uintR bs 255 (uintR bs 4611686018427387903 (uintR bs 255 (uintR bs 255 s0).2).2).2).2.err = 0 →
      uintR bs 4611686018427387903 s0 = uintR bs 255 s0 ∧ uintR bs 4611686018427387903 (uintR bs 255 s0).2 = uintR bs 255 (uintR bs 255 s0).2 ∧
      uintR bs 4611686018427387903 (uintR bs 4611686018427387903 (uintR bs 255 (uintR bs 255 s0).2).2).2 = uintR bs 255 (uintR bs 4611686018427387903 (uintR bs 255 (uintR bs 255 s0).2).2).2 := fun s0 h => by
    have e3 := uintR_errs h
    have e2 := uintR_errs e3
    have e1 := uintR_errs e2
    exact ⟨up e1, up e2, up h⟩
  refine ⟨⟨?_, ?_⟩, ?_⟩
  · rintro ⟨h1, h2, h3⟩
    obtain ⟨g1, g2, g3⟩ := hf a.2 h1
    rw [g1, g2, g3]
    exact ⟨⟨h1, by rw [h2]; rfl⟩, h3⟩
  · rintro ⟨⟨h1, h2⟩, h3⟩
    have e3 := uintR_errs h1
    have e2 := uintR_errs e3
    have e1 := uintR_errs e2
    have e0 := uintR_errs e1
    obtain ⟨m1, m2, m3, m4, m5, m6, m7⟩ := mayHead_ok h3
    have g1 := uintR_down (a := 255) e0 e1 (by omega) (by omega)
    have g2 := uintR_down (a := 255) e1 e2 (by omega) (by omega)
    have g3 := uintR_down (a := 255) e3 h1 (by omega) (by omega)
    rw [g1, g2, g3]
    exact ⟨h1, UInt8.toNat_inj.1 (by show a.1.toNat = 72; omega), h3⟩
  · rintro ⟨h1, h2, h3⟩
    obtain ⟨g1, g2, g3⟩ := hf a.2 h1
    rw [g1, g2, g3]
abbrev zH : List Value := [.int .i64 0, .int .i64 0, .int .i64 0, .int .i64 0]
theorem rhead_c {w : World} {s : Slc} {bs : List UInt8} (hb : Byt w s bs) (hm : bs.length ≤ 1099511627776) :
    Calls PP F_sherdref11_head #[s.v] w (Rt fun v w' => Fr [] w w' ∧ ((okH bs = true ∧ v = .tuple #[(readH bs).v, .int .i64 ((readH bs).bs.length : Int), .bool true]) ∨ (okH bs = false ∧ v = .tuple #[.agg zH.toArray, .int .i64 0, .bool false]))) := by
  have hsl := hb.len
  have hsc := hb.cap
  obtain ⟨hi1, hi2⟩ := okHr_iff bs
  unfold okHr at hi1 hi2
  simp only at hi1 hi2
  refine sim_sherdref11_head _ _ _ ?_
  unfold vc_sherdref11_head
  simp only [add_add]
  refine (Hp.start w).new fun b3 w1 H => call (qr_new H (hb.fr0 H.fr) hm) ?_
  rintro _ w2 ⟨p, rfl, H⟩
  refine ⟨_, rfl, call (qr_byte H) ?_⟩
  rintro _ w3 ⟨rfl, H⟩
  generalize ha : byteR bs ⟨0, 0⟩ = a at *
  refine ⟨_, rfl, H.new fun b w4 H => call (qr_uint (H.obj QRd p)) ?_⟩
  rintro _ w5 ⟨rfl, H⟩
  generalize hn : uintR bs 255 a.2 = n at *
  refine ⟨_, rfl, H.sto (b := b) (i := 0) (lt_ rfl) fun w6 H => call (qr_uint (H.obj QRd p)) ?_⟩
  rintro _ w7 ⟨rfl, H⟩
  generalize hk : uintR bs 255 n.2 = k at *
  refine ⟨_, rfl, H.sto (b := b) (i := 1) (lt_ rfl) fun w8 H => call (qr_uint (H.obj QRd p)) ?_⟩
  rintro _ w9 ⟨rfl, H⟩
  generalize hd : uintR bs 4611686018427387903 k.2 = d at *
  refine ⟨_, rfl, H.sto (b := b) (i := 2) (lt_ rfl) fun w10 H => call (qr_uint (H.obj QRd p)) ?_⟩
  rintro _ w11 ⟨rfl, H⟩
  generalize hs : uintR bs 255 d.2 = sv at *
  refine ⟨_, rfl, H.sto (b := b) (i := 3) (lt_ rfl) fun w12 H => call (qr_err (H.obj QRd p)) ?_⟩
  rintro _ w13 ⟨rfl, H⟩
  have H : Hp w w13 (star (bk b Ty_api_Head #[.int .i64 n.1, .int .i64 k.1, .int .i64 d.1, .int .i64 sv.1]) (star (bk b3 Ty_api_Head zH.toArray) emp)) := (H.obj QRd p).drop.blk b
  let M : World → Prop := fun w' => Hp w w' (star (bk b Ty_api_Head #[.int .i64 n.1, .int .i64 k.1, .int .i64 d.1, .int .i64 sv.1]) (star (bk b3 Ty_api_Head zH.toArray) emp))
  have ha72 : a.1 = 72 ↔ (a.1.toNat : Int) = 72 := ⟨fun h => by rw [h]; rfl, fun h => UInt8.toNat_inj.1 (by show a.1.toNat = 72; omega)⟩
  refine ⟨_, rfl, fun x w' => x = !(okH1 bs) ∧ M w', ⟨fun h => ldH H (call (rcheckHead_c _ _ _ _ _) ?_), fun h => ⟨?_, H⟩⟩, ?_⟩
  · rintro _ w14 ⟨rfl, f14⟩
    refine ⟨_, rfl, ?_, H.fr0 f14⟩
    simp only [Bool.or_eq_false_iff, ne_eq, decide_not, Bool.not_eq_false', decide_eq_true_eq] at h
    have := hi1
    simp only [h.1, ha72.2 h.2, true_and] at this
    by_cases hmv : mayHeadV n.1 k.1 d.1 sv.1 = 0
    · rw [this.1 hmv]; simp [hmv]
    · cases hx : okH1 bs with
      | true => exact absurd (this.2 hx) hmv
      | false => simp [hmv]
  · cases hx : okH1 bs with
    | true =>
      obtain ⟨g1, g2, _⟩ := hi1.2 hx
      simp [g1, ha72.1 g2] at h
    | false => rfl
  rintro _ w14 ⟨rfl, H⟩
  refine ⟨fun h => retH (H.blk b3) rfl fun w15 H => Rt.ok ⟨H.fr, .inr ⟨?_, rfl⟩⟩, fun h => ?_⟩
  · unfold okH
    simp only [Bool.not_eq_true'] at h
    rw [h]; rfl
  · have h1 : okH1 bs = true := by simpa using h
    have hrH := hi2 (hi1.2 h1)
    obtain ⟨_, _, hmv⟩ := hi1.2 h1
    obtain ⟨m1, m2, m3, m4, m5, m6, m7⟩ := mayHead_ok hmv
    obtain ⟨n1, e1⟩ := Int.eq_ofNat_of_zero_le (by omega : 0 ≤ n.1)
    obtain ⟨k1, e2⟩ := Int.eq_ofNat_of_zero_le (by omega : 0 ≤ k.1)
    obtain ⟨d1, e3⟩ := Int.eq_ofNat_of_zero_le (by omega : 0 ≤ d.1)
    obtain ⟨s1, e4⟩ := Int.eq_ofNat_of_zero_le (by omega : 0 ≤ sv.1)
    have H : Hp w w14 (star (bk b Ty_api_Head #[.int .i64 n.1, .int .i64 k.1, .int .i64 d.1, .int .i64 sv.1]) (star (bk b3 Ty_api_Head zH.toArray) emp)) := H
    rw [e1, e2, e3, e4] at H hrH
    refine ldH H (call (rheadBytes_c (by omega) (by omega) (by omega) (by omega)) ?_)
    rintro _ w15 ⟨z, rfl, hM⟩
    have H := H.fr0 hM.fr
    have hzl := hM.byt.len
    have hbs : (readH bs).bs = headBs n1 k1 d1 s1 := by rw [hrH]; simp [Hd.bs]
    have ho2 : okH2 bs = (decide (((headBs n1 k1 d1 s1).length : Int) ≤ (bs.length : Int)) && decide (bs.take (headBs n1 k1 d1 s1).length = headBs n1 k1 d1 s1)) := by unfold okH2; rw [hbs]
    refine ⟨z, rfl, fun x w' => x = !(okH2 bs) ∧ Hp w w' (star (bk b Ty_api_Head #[.int .i64 (n1 : Int), .int .i64 (k1 : Int), .int .i64 (d1 : Int), .int .i64 (s1 : Int)]) (star (bk b3 Ty_api_Head zH.toArray) emp)), ⟨fun h5 => ?_, fun h5 => ⟨?_, H⟩⟩, ?_⟩
    · simp only [decide_eq_false_iff_not, hsl, hzl] at h5
      refine ⟨by omega, by omega, by omega, call (requal_c (xs := bs.take (headBs n1 k1 d1 s1).length) (cut_all (hb.fr0 H.fr) (by omega) (by omega) (by rw [hzl]; simp)) hM.byt (by simp; omega)) ?_⟩
      rintro _ w16 ⟨rfl, f16⟩
      refine ⟨_, rfl, ?_, H.fr0 f16⟩
      rw [ho2, show decide (((headBs n1 k1 d1 s1).length : Int) ≤ (bs.length : Int)) = true by simp; omega]
      rfl
    · simp only [decide_eq_true_eq, hsl, hzl] at h5
      rw [ho2, show decide (((headBs n1 k1 d1 s1).length : Int) ≤ (bs.length : Int)) = false by simp; omega]
      rfl
    rintro _ w16 ⟨rfl, H⟩
    refine ⟨fun h6 => retH (H.blk b3) rfl fun w17 H => Rt.ok ⟨H.fr, .inr ⟨?_, rfl⟩⟩, fun h6 => ldH H (retH (H.blk b3) rfl fun w17 H => Rt.ok ⟨H.fr, .inl ⟨?_, ?_⟩⟩)⟩
    · unfold okH
      simp only [Bool.not_eq_true'] at h6
      rw [h1, h6]; rfl
    · unfold okH
      simp only [Bool.not_eq_false'] at h6
      rw [h1, h6]; rfl
    · rw [hbs, hzl, hrH]; rfl
end Go.Proofs.YtnhgnfflihoaiaaGreatDoor
