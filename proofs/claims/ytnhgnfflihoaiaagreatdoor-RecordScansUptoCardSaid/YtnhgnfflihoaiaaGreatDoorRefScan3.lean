/-
  Contracts of the reference's Scan: the next record, all of it.
-/
import Derived.Test.YtnhgnfflihoaiaaGreatDoorRefScan2
namespace Go.Proofs.YtnhgnfflihoaiaaGreatDoor
open Go Go.Vc Go.Vc.Asn
theorem front10 (rest : List UInt8) : (rest.take (min rest.length 11)).drop 1 = (rest.drop 1).take 10 := by
  rw [List.drop_take]
  rcases Nat.le_total rest.length 11 with h | h
  · rw [Nat.min_eq_left h, List.take_of_length_le (by simp), List.take_of_length_le (by simp; omega)]
  · rw [Nat.min_eq_right h]
theorem nextR_eq (rest last : List UInt8) : nextR rest last =
    (let S := rnum 66000 0 0 ((rest.drop 1).take 10)
     let to := 1 + S.2.1 + S.1.toNat
     (if rest.head? ≠ some 82 then 32 else if S.2.2 ≠ 0 then (if S.2.2 = 30 then 30 else 31) else if rest.length < to + 4 then 30 else if le4 (crc (last ++ rest.take to)) ≠ (rest.take (to + 4)).drop to then 34 else if okB ((rest.take to).drop (1 + S.2.1)) = false then 31 else 0,
      (readB ((rest.take to).drop (1 + S.2.1))).1, to + 4, le4 (crc (last ++ rest.take to)))) := by
  unfold nextR
  rw [front10]
  simp [uintR]
set_option maxHeartbeats 1000000 in
theorem rnext_c {w : World} {s c : Slc} {rest chain : List UInt8} (hb : Byt w s rest) (hne : rest ≠ []) (hc : Byt w c chain) (hl : chain.length ≤ 4) (hm : rest.length ≤ 1099511627776) :
    Calls PP F_sherdref11_next #[c.v, s.v] w (Rt fun v w' => ((nextR rest chain).1 = 0 ∧ ∃ y : Slc, v = .tuple #[(nextR rest chain).2.1.v y, .int .i64 ((nextR rest chain).2.2.1 : Int), .int .i64 0] ∧ Hp w w' (star (own Ty_uint8 1 y ((nextR rest chain).2.1.ds.map u8v)) emp)) ∨
      ((nextR rest chain).1 ≠ 0 ∧ v = .tuple #[.agg zU.toArray, .int .i64 0, .int .i64 (nextR rest chain).1] ∧ Fr [] w w')) := by
  have hsl := hb.len
  have hsc := hb.cap
  have hN := nextR_eq rest chain
  have hrel := num_rel (rest.drop 1)
  have hB1 : uintR (rest.drop 1) 9223372036854775807 ⟨0, 0⟩ = ((rnum 9223372036854775807 0 0 (rest.drop 1)).1, ⟨(rnum 9223372036854775807 0 0 (rest.drop 1)).2.1, (rnum 9223372036854775807 0 0 (rest.drop 1)).2.2⟩) := by simp [uintR]
  have hsz := rnum_size 9223372036854775807 (rest.drop 1)
  have hnn : (rnum 9223372036854775807 0 0 (rest.drop 1)).2.2 = 0 → 0 ≤ (rnum 9223372036854775807 0 0 (rest.drop 1)).1 := fun he => by
    obtain ⟨m, _, _, e, _⟩ := rnum_inv 9223372036854775807 (rest.drop 1) 0 0 (by simp) he
    rw [e]; omega
  have hpos : 0 < rest.length := List.length_pos_iff.2 hne
  refine sim_sherdref11_next _ _ _ _ ?_
  unfold vc_sherdref11_next
  refine (Hp.start w).new fun b4 w1 H => ?_
  obtain ⟨a, ha, hcell⟩ := (hb.fr0 H.fr).get hpos
  refine ⟨a, ha, by omega, by omega, _, by simpa using hcell, fun h82 => ?_, fun h82 => ?_⟩
  · simp only [ne_eq, decide_not, Bool.not_eq_true', decide_eq_false_iff_not] at h82
    have h1 : (nextR rest chain).1 = 32 := by
      rw [hN]
      simp only
      rw [if_pos]
      obtain ⟨x, r, rfl⟩ := List.exists_cons_of_ne_nil hne
      intro h
      simp at h
      subst h
      exact h82 rfl
    exact retU (H.blk b4) rfl fun w2 H => Rt.ok (.inr ⟨by rw [h1]; simp, by rw [h1], H.fr⟩)
  simp only [ne_eq, decide_not, Bool.not_eq_false', decide_eq_true_eq] at h82
  have hhd : ¬ rest.head? ≠ some 82 := by
    obtain ⟨x, r, rfl⟩ := List.exists_cons_of_ne_nil hne
    simp at h82 ⊢
    exact UInt8.toNat_inj.1 (by show x.toNat = 82; omega)
  rw [hsl]
  refine ⟨by omega, by omega, by omega, call (qr_new (bs := rest.drop 1) H (cut_all (hb.fr0 H.fr) (by omega) (by omega) (by rw [Int.toNat_natCast]; exact (List.take_of_length_le (by simp)).symm)) (by simp; omega)) ?_⟩
  rintro _ w2 ⟨p, rfl, H⟩
  refine ⟨_, rfl, call (qr_uint H) ?_⟩
  rintro _ w3 ⟨rfl, H⟩
  rw [hB1] at H ⊢
  generalize hB : rnum 9223372036854775807 0 0 (rest.drop 1) = B at *
  generalize hS : rnum 66000 0 0 ((rest.drop 1).take 10) = S at *
  refine ⟨_, rfl, call (qr_err H) ?_⟩
  rintro _ w4 ⟨rfl, H⟩
  simp only at H ⊢
  refine ⟨_, rfl, fun x w' => x = (decide (B.2.2 = 31) || (decide (B.2.2 = 0) && decide (66000 < B.1))) ∧ Hp w w' (star (obj QRd p (rest.drop 1, ⟨B.2.1, B.2.2⟩)) (star (bk b4 Ty_api_Update zU.toArray) emp)), ⟨fun h => call (qr_err H) ?_, fun h => ⟨by rw [h]; rfl, H⟩⟩, ?_⟩
  · rintro _ w5 ⟨rfl, H⟩
    exact ⟨_, rfl, by rw [h]; rfl, H⟩
  rintro _ w5 ⟨rfl, H⟩
  refine ⟨fun hx => ?_, fun hx => ?_⟩
  · have h1 : (nextR rest chain).1 = 31 := by
      rw [hN]
      simp only
      rw [if_neg hhd]
      simp at hx
      rcases hrel with ⟨e1, ⟨e2, e3⟩ | ⟨e2, e3⟩⟩ | ⟨e1, e2⟩
      · rw [if_pos (by rw [e3]; simp), if_neg (by rw [e3]; simp)]
      · exfalso; rcases hx with hx | hx <;> omega
      · have : B.2.2 = 31 := by rcases hx with hx | hx <;> omega
        rw [e2, if_pos (by rw [this]; simp), if_neg (by rw [this]; simp)]
    exact retU (H.blk b4) rfl fun w6 H => Rt.ok (.inr ⟨by rw [h1]; simp, by rw [h1], H.fr⟩)
  refine call (qr_at H) ?_
  rintro _ w6 ⟨rfl, H⟩
  refine ⟨_, rfl, call (qr_err H) ?_⟩
  rintro _ w7 ⟨rfl, H⟩
  simp only at H ⊢
  have hx1 : ¬ B.2.2 = 31 ∧ (B.2.2 = 0 → B.1 ≤ 66000) := by simpa using hx
  have hBS : S = B := by
    rcases hrel with ⟨e1, ⟨e2, e3⟩ | ⟨e2, e3⟩⟩ | ⟨e1, e2⟩
    · have := hx1.2 e1; omega
    · exact e3
    · exact e2
  subst hBS
  simp at hsz
  refine ⟨_, rfl, ?_⟩
  have e3 : wr .i64 (1 + (S.2.1 : Int)) = ((1 + S.2.1 : Nat) : Int) := by rw [wr64 (by omega) (by omega)]; omega
  rw [e3]
  have H := (H.obj QRd p).drop
  by_cases he : S.2.2 = 0
  rotate_left
  · have h1 : (nextR rest chain).1 = 30 := by
      have : S.2.2 = 30 := by
        rcases hrel with ⟨e1, _⟩ | ⟨e1, _⟩
        · exact absurd e1 he
        · rcases e1 with e1 | e1
          · exact e1
          · exact absurd e1 hx1.1
      rw [hN]
      simp only
      rw [if_neg hhd, if_pos he, if_pos this]
    refine ⟨fun _ => retU (H.blk b4) rfl fun w8 H => Rt.ok (.inr ⟨by rw [h1]; simp, by rw [h1], H.fr⟩), fun h => ?_⟩
    simp [he] at h
  have hn0 := hnn he
  have hn1 := hx1.2 he
  obtain ⟨n, hn⟩ := Int.eq_ofNat_of_zero_le hn0
  rw [hn] at hn1 ⊢
  have e4 : wr .i64 (((1 + S.2.1 : Nat) : Int) + (n : Int)) = ((1 + S.2.1 + n : Nat) : Int) := by rw [wr64 (by omega) (by omega)]; omega
  have e5 : wr .i64 (((1 + S.2.1 + n : Nat) : Int) + 4) = ((1 + S.2.1 + n + 4 : Nat) : Int) := by rw [wr64 (by omega) (by omega)]; omega
  rw [e4, e5]
  have hto : 1 + S.2.1 + S.1.toNat = 1 + S.2.1 + n := by rw [hn]; simp
  simp only [hto] at hN
  simp only [if_neg hhd, he, ne_eq, not_true_eq_false, if_false] at hN
  refine ⟨fun h => ?_, fun h => ?_⟩
  · simp [he] at h
    rw [if_pos (by omega)] at hN
    have h1 : (nextR rest chain).1 = 30 := by rw [hN]
    exact retU (H.blk b4) rfl fun w8 H => Rt.ok (.inr ⟨by rw [h1]; simp, by rw [h1], H.fr⟩)
  simp [he] at h
  rw [if_neg (by omega)] at hN
  refine ⟨by omega, by omega, by omega, by omega, by omega, by omega, ?_⟩
  simp only [Int.toNat_natCast]
  have H := H.drew 1
  have hB7 := hb.fr0 H.fr
  have hcut1 : Byt (w7.drewN 1) (s.cut 1 (Int.toNat 0) (1 + S.2.1 + n)) (rest.take (1 + S.2.1 + n)) := cut_all hB7 (by simp) (by omega) (by simp)
  refine call (summed_c (hc.fr0 H.fr) hcut1 (by simp; omega)) ?_
  rintro _ w8 ⟨z, rfl, hM⟩
  have H := H.fr0 hM.fr
  have hcut2 : Byt w8 (s.cut 1 (1 + S.2.1 + n) (1 + S.2.1 + n + 4)) ((rest.take (1 + S.2.1 + n + 4)).drop (1 + S.2.1 + n)) := cut_all (hb.fr0 H.fr) (by omega) (by omega) (by rw [List.drop_take])
  refine ⟨z, rfl, call (requal_c hM.byt hcut2 (by rw [le4_len]; omega)) ?_⟩
  rintro _ w9 ⟨rfl, f9⟩
  have H := H.fr0 f9
  refine ⟨_, rfl, fun h6 => ?_, fun h6 => ?_⟩
  · simp only [Bool.not_eq_true', decide_eq_false_iff_not] at h6
    rw [if_pos h6] at hN
    have h1 : (nextR rest chain).1 = 34 := by rw [hN]
    exact retU (H.blk b4) rfl fun w8 H => Rt.ok (.inr ⟨by rw [h1]; simp, by rw [h1], H.fr⟩)
  simp only [Bool.not_eq_false', decide_eq_true_eq] at h6
  rw [if_neg (by simpa using h6)] at hN
  refine ⟨by omega, by omega, by omega, ?_⟩
  have hcut3 : Byt w9 (s.cut 1 (1 + S.2.1) (1 + S.2.1 + n)) ((rest.take (1 + S.2.1 + n)).drop (1 + S.2.1)) := cut_all (hb.fr0 H.fr) (by omega) (by omega) (by rw [List.drop_take])
  refine call (rupdate_c hcut3 (by simp; omega)) ?_
  generalize hbd : (rest.take (1 + S.2.1 + n)).drop (1 + S.2.1) = bd at *
  rintro _ w10 (⟨hok, y, rfl, K⟩ | ⟨hok, rfl, f10⟩)
  · rw [hok] at hN
    have h1 : nextR rest chain = (0, (readB bd).1, 1 + S.2.1 + n + 4, le4 (crc (chain ++ rest.take (1 + S.2.1 + n)))) := by rw [hN]; simp
    rw [h1]
    have H := H.beside K
    refine ⟨_, _, _, _, _, _, y, _, rfl, H.new fun b w11 H => H.stoAll (b := b) (by rfl) fun w12 H => ⟨fun h => by simp at h, fun _ => ?_⟩⟩
    refine ldU (H.blk b) (retU (H.blk b4) rfl fun w13 H => Rt.ok (.inl ⟨rfl, y, rfl, ?_⟩))
    exact ((H.blk b).drop.own y).ent (Ent.star (Ent.refl _) Asn.emp_l')
  · rw [hok] at hN
    have h1 : (nextR rest chain).1 = 31 := by rw [hN]; simp
    have H := H.fr0 f10
    refine ⟨_, _, _, _, _, _, Slc.nil, _, rfl, H.new fun b w11 H => H.stoAll (b := b) (by rfl) fun w12 H => ⟨fun _ => ?_, fun h => by simp at h⟩⟩
    exact retU (H.blk b4) rfl fun w8 H => Rt.ok (.inr ⟨by rw [h1]; simp, by rw [h1], H.fr⟩)
/-! ## All of it -/
def QW (p : Nat) (x : List UInt8 × Int) : Asn := ex fun s : Slc => star (bk p Ty_sherdref11_Writer #[s.v, .int .i64 x.2]) (own Ty_uint8 1 s (x.1.map u8v))
def rowU (u : Upd) : Asn := own Ty_uint8 1 u.data (u.ds.map u8v)
theorem all_snoc {α : Type} (f : α → Asn) (x : α) : ∀ l : List α, Ent (star (f x) (all f l)) (all f (l ++ [x]))
  | [] => Ent.refl _
  | y :: l => left.trans (Ent.star (Ent.refl _) (all_snoc f x l))
abbrev UT := Int × ByteArray × Int × Int × Bool × Bool × Slc × Int × Int
def relN (N : Int × Up × Nat × List UInt8) : Option UT → Asn
  | none => emp
  | some (k, key, cnt, cli, fin, has, d, n, e) => lift (e = N.1 ∧ (N.1 = 0 → k = N.2.1.kind ∧ key = N.2.1.key ∧ cnt = N.2.1.cnt ∧ cli = N.2.1.cli ∧ fin = N.2.1.fin ∧ has = N.2.1.has ∧ n = (N.2.2.1 : Int))) (if N.1 = 0 then own Ty_uint8 1 d (N.2.1.ds.map u8v) else emp)
def relB (oN : Option UT) : Option Nat → Option Unit → Asn
  | none, _ => emp
  | some b, none => bk b Ty_api_Update zU.toArray
  | some b, some _ => match oN with
    | some (k, key, cnt, cli, fin, has, d, _, _) => bk b Ty_api_Update #[.int .i64 k, .string key, .int .i64 cnt, .int .i64 cli, .bool fin, .bool has, d.v]
    | none => emp
theorem upd_one (u : Upd) : ∀ v ∈ u.cells, v.oneCell' = true := by
  intro v hv
  simp [Upd.cells] at hv
  rcases hv with rfl | rfl | rfl | rfl | rfl | rfl | rfl <;> rfl
def scanOut (l m : Slc) (X : List Upd) (marks : List Nat) (q : Nat) (last : List UInt8) : Asn :=
  star (own Ty_api_Update 7 l (X.map Upd.cells).flatten) (star (own Ty_int 1 m (marks.map fun n => Value.int .i64 ((n : Nat) : Int))) (star (all rowU X) (star (obj QW q (last, (X.length : Int))) emp)))
set_option maxHeartbeats 2000000 in
theorem rscan_c {w : World} {s : Slc} {bs : List UInt8} (hb : Byt w s bs) (hm : bs.length ≤ 1099511627776) :
    Calls PP F_sherdref11_Scan #[s.v] w (Rt fun v w' =>
      (okH bs = false ∧ Fr [] w w' ∧ v = .tuple #[.agg #[.int .i64 0, .int .i64 0, .int .i64 0, .int .i64 0], Slc.nil.v, Slc.nil.v, .int .i64 0, .pointer none, .int .i64 63]) ∨
      (okH bs = true ∧ ∃ (q : Nat) (X : List Upd) (su se : Slc), X.map Vc_up = (scanT bs).1 ∧ v = .tuple #[(readH bs).v, su.v, se.v, .int .i64 (scanT bs).2.2.1, .pointer (some (blk q)), .int .i64 0] ∧
        Hp w w' (scanOut su se X ((readH bs).bs.length :: (scanT bs).2.1) q (scanT bs).2.2.2.2))) := by
  have hsl := hb.len
  have hsc := hb.cap
  refine sim_sherdref11_Scan _ _ _ ?_
  unfold vc_sherdref11_Scan
  refine (Hp.start w).new fun b3 w1 H => call (rhead_c (hb.fr0 H.fr) hm) ?_
  rintro _ w2 ⟨f2, ⟨hok, rfl⟩ | ⟨hok, rfl⟩⟩
  rotate_left
  · have H := H.fr0 f2
    refine ⟨0, 0, 0, 0, 0, false, rfl, H.new fun b14 w3 H => H.stoAll (b := b14) (by rfl) fun w4 H => ⟨fun _ => ?_, fun h => by simp at h⟩⟩
    exact retH (H.blk b3) rfl fun w5 H => Rt.ok (.inl ⟨hok, H.fr, rfl⟩)
  have H := H.fr0 f2
  obtain ⟨l1, l2, l3, l4⟩ := okH_len hok
  have hT : scanT bs = scanA bs (readH bs).bs.length (headLast bs) := rfl
  have hhL : headLast bs = (bs.drop ((readH bs).bs.length - 4)).take ((readH bs).bs.length - ((readH bs).bs.length - 4)) := by unfold headLast; rw [List.drop_take]
  generalize hhl : (readH bs).bs.length = hl at *
  generalize hRH : readH bs = RH at *
  obtain ⟨hn, hk, hd, hs⟩ := RH
  have ew : wr .i64 ((hl : Int) - 4) = ((hl - 4 : Nat) : Int) := by rw [wr64 (by omega) (by omega)]; omega
  refine ⟨hn, hk, hd, hs, _, true, rfl, H.new fun b14 w3 H => H.stoAll (b := b14) (by rfl) fun w4 H => ⟨fun h => by simp at h, fun _ => New.intro fun b32 w5 nb => ?_⟩⟩
  have H5 : Hp w w5 (star (own Ty_uint8 1 ⟨some (blk b32), 0, 0⟩ []) (star (bk b14 Ty_api_Head #[.int .i64 hn, .int .i64 hk, .int .i64 hd, .int .i64 hs]) (star (bk b3 Ty_api_Head zH.toArray) emp))) := H.row nb rfl (by simp) (by decide)
  rw [ew]
  refine ⟨by omega, by omega, by omega, ?_⟩
  have hL4 : (headLast bs).length = 4 := by rw [hhL]; simp only [List.length_take, List.length_drop]; omega
  have hcutL : Byt w5 (s.cut 1 (Int.toNat ((hl - 4 : Nat) : Int)) (Int.toNat (hl : Int))) (headLast bs) := cut_all (hb.fr0 H5.fr) (by omega) (by omega) (by rw [Int.toNat_natCast, Int.toNat_natCast]; exact hhL)
  have hcl := hcutL.len
  refine H5.app slT_sl_uint8 hcutL (one_u8 _) (by unfold maxLen; simp only; omega) (by simp only; omega) fun s38 w6 H _ => ?_
  rw [List.nil_append] at H
  refine H.new fun q w7 H => H.newRow (e := Ty_int) (n := 1) (size := 1) [.int .i64 (hl : Int)] rfl rfl (by decide) fun b45 w8 H => ?_
  have H := H.nilRow Ty_api_Update 7
  let Base : Slc → Slc → Slc → List Upd → List Nat → List UInt8 → Asn := fun m l c X es last => star (bk q Ty_sherdref11_Writer #[c.v, .int .i64 (X.length : Int)]) (star (own Ty_uint8 1 c (last.map u8v)) (star (own Ty_api_Update 7 l (X.map Upd.cells).flatten) (star (own Ty_int 1 m ((hl :: es).map fun n => Value.int .i64 ((n : Nat) : Int))) (star (bk b14 Ty_api_Head #[.int .i64 hn, .int .i64 hk, .int .i64 hd, .int .i64 hs]) (star (bk b3 Ty_api_Head zH.toArray) (all rowU X))))))
  let Inv : Nat → Slc → Slc → World → Prop := fun a m l w' => ∃ c X es last, a ≤ bs.length ∧ last.length = 4 ∧ hl ≤ a ∧ X.length ≤ a ∧ es.length = X.length ∧ scanT bs = (X.map Vc_up ++ (scanA bs a last).1, es ++ (scanA bs a last).2.1, (scanA bs a last).2.2) ∧ Hp w w' (Base m l c X es last)
  have hfin : ∀ (m l c : Slc) (X : List Upd) (es : List Nat) (last : List UInt8) (w' : World), Hp w w' (star (bk q Ty_sherdref11_Writer #[c.v, .int .i64 (X.length : Int)]) (star (own Ty_uint8 1 c (last.map u8v)) (star (own Ty_api_Update 7 l (X.map Upd.cells).flatten) (star (own Ty_int 1 m ((hl :: es).map fun n => Value.int .i64 ((n : Nat) : Int))) (star (bk b14 Ty_api_Head #[.int .i64 hn, .int .i64 hk, .int .i64 hd, .int .i64 hs]) (all rowU X)))))) → Hp w w' (scanOut l m X (hl :: es) q last) := by
    intro m l c X es last w' H
    have H1 := (H.blk b14).drop
    have H2 := (((H1.own c).blk q)).assoc'
    have H3 := Hp.exI (f := fun s : Slc => star (bk q Ty_sherdref11_Writer #[s.v, .int .i64 (X.length : Int)]) (own Ty_uint8 1 s (last.map u8v))) c H2
    have H4 := ((H3.take (all rowU X)).own m).own l
    refine H4.ent ?_
    unfold scanOut
    exact Ent.star (Ent.refl _) (Ent.star (Ent.refl _) (Ent.star (Ent.refl _) (Ent.refl _)))
  have hret : ∀ (m l c : Slc) (X : List Upd) (es : List Nat) (last : List UInt8) (why : Int) (w' : World), Hp w w' (Base m l c X es last) → scanT bs = (X.map Vc_up, es, why, (scanT bs).2.2.2.1, last) →
      ∃ x0 : Int, w'.cell? ((blk b14).add 0) = some (.int .i64 x0) ∧ ∃ x1 : Int, w'.cell? ((blk b14).add 1) = some (.int .i64 x1) ∧ ∃ x2 : Int, w'.cell? ((blk b14).add 2) = some (.int .i64 x2) ∧ ∃ x3 : Int, w'.cell? ((blk b14).add 3) = some (.int .i64 x3) ∧
        StoN (blk b3) 0 [.int .i64 x0, .int .i64 x1, .int .i64 x2, .int .i64 x3] w' fun w5 => ∃ y0 : Int, w5.cell? ((blk b3).add 0) = some (.int .i64 y0) ∧ ∃ y1 : Int, w5.cell? ((blk b3).add 1) = some (.int .i64 y1) ∧ ∃ y2 : Int, w5.cell? ((blk b3).add 2) = some (.int .i64 y2) ∧ ∃ y3 : Int, w5.cell? ((blk b3).add 3) = some (.int .i64 y3) ∧
        Rt (fun v w' => (okH bs = false ∧ Fr [] w w' ∧ v = .tuple #[.agg #[.int .i64 0, .int .i64 0, .int .i64 0, .int .i64 0], Slc.nil.v, Slc.nil.v, .int .i64 0, .pointer none, .int .i64 63]) ∨ (okH bs = true ∧ ∃ (q : Nat) (X : List Upd) (su se : Slc), X.map Vc_up = (scanT bs).1 ∧ v = .tuple #[(Hd.mk hn hk hd hs).v, su.v, se.v, .int .i64 (scanT bs).2.2.1, .pointer (some (blk q)), .int .i64 0] ∧ Hp w w' (scanOut su se X (hl :: (scanT bs).2.1) q (scanT bs).2.2.2.2)))
          (.returned (.tuple #[.agg #[.int .i64 y0, .int .i64 y1, .int .i64 y2, .int .i64 y3], l.v, m.v, .int .i64 why, .pointer (some (blk q)), .int .i64 0])) w5 := by
    intro m l c X es last why w' H hE
    have H : Hp w w' (star (bk q Ty_sherdref11_Writer #[c.v, .int .i64 (X.length : Int)]) (star (own Ty_uint8 1 c (last.map u8v)) (star (own Ty_api_Update 7 l (X.map Upd.cells).flatten) (star (own Ty_int 1 m ((hl :: es).map fun n => Value.int .i64 ((n : Nat) : Int))) (star (bk b14 Ty_api_Head #[.int .i64 hn, .int .i64 hk, .int .i64 hd, .int .i64 hs]) (star (bk b3 Ty_api_Head zH.toArray) (all rowU X))))))) := H
    refine ldH H (retH (H.blk b3) rfl fun w5 H => Rt.ok (.inr ⟨hok, q, X, l, m, by rw [hE], by rw [hE]; rfl, ?_⟩))
    rw [hE]
    exact hfin _ _ _ _ _ _ _ H
  refine ⟨fun m l w' => ∃ c X es last, scanT bs = (X.map Vc_up, es, 0, (scanT bs).2.2.2.1, last) ∧ Hp w w' (Base m l c X es last), ⟨fun at_ m l w' => ∃ a : Nat, at_ = (a : Int) ∧ Inv a m l w', fun at_ _ _ _ => bs.length - at_.toNat, ⟨hl, rfl, s38, [], [], headLast bs, l1, hL4, Nat.le_refl _, Nat.zero_le _, rfl, by rw [hT]; simp, ?_⟩, ?_⟩, ?_⟩
  · exact ((((((H.blk b3).blk b14).own ⟨some (blk b45), 1, 1⟩).own Slc.nil).own s38).blk q).ent (Ent.star (Ent.refl _) (Ent.star (Ent.refl _) (Ent.star (Ent.refl _) (Ent.star (Ent.refl _) (Ent.refl _)))))
  · rintro _ m l w9 ⟨a, rfl, c, X, es, last, ha, hl4, hla, hXa, hes, hTe, H⟩
    refine ⟨fun hlt => ?_, fun hge => ?_⟩
    · simp only [decide_eq_true_eq, hsl] at hlt
      have hal : a < bs.length := by omega
      generalize hN : nextR (bs.drop a) last = N at *
      have hrb : ∀ (t : UT) (oB : Option Nat), relB (some t) oB none = relB none oB none := fun t oB => by cases oB <;> rfl
      refine ⟨c, by omega, by omega, by omega, fun oN oB oX w' => Hp w w' (star (relN N oN) (star (relB oN oB oX) (Base m l c X es last))), ?_, ?_, ?_, ?_, ?_, ?_⟩
      · exact (H.drew 1).ent (emp_l.trans (Ent.star (Ent.refl _) emp_l))
      · intro oB w10 H
        have H : Hp w w10 (star (bk q Ty_sherdref11_Writer #[c.v, .int .i64 (X.length : Int)]) _) := H.drop.drop
        exact H.cell (b := q) (i := 0) rfl
      · intro oB w10 H
        have H2 : Hp w w10 (star (bk q Ty_sherdref11_Writer #[c.v, .int .i64 (X.length : Int)]) (star (own Ty_uint8 1 c (last.map u8v)) _)) := H.drop.drop
        have hcB : Byt w10 c last := Hp.byt (s := c) H2
        have hcut : Byt w10 (s.cut 1 (Int.toNat (a : Int)) (Int.toNat (s.l : Int))) (bs.drop a) := cut_all (hb.fr0 H.fr) (by omega) (by omega) (by rw [Int.toNat_natCast, Int.toNat_natCast, List.take_of_length_le (by simp; omega)])
        refine call (rnext_c hcut (by intro e; have := congrArg List.length e; simp at this; omega) hcB (by omega) (by simp; omega)) ?_
        rw [hN]
        rintro _ w11 (⟨h0, y, rfl, K⟩ | ⟨h0, rfl, f11⟩)
        · refine ⟨_, _, _, _, _, _, y, _, _, rfl, ?_⟩
          dsimp only
          rw [hrb]
          have H3 := (H.beside K).ent ((Ent.star emp_r' (Ent.refl _)).trans (Ent.star (Ent.refl _) emp_l'))
          refine H3.ent (Ent.star ?_ (Ent.refl _))
          intro w S hp
          refine ⟨⟨h0.symm, fun _ => ⟨rfl, rfl, rfl, rfl, rfl, rfl, rfl⟩⟩, ?_⟩
          rw [if_pos h0]
          exact hp
        · refine ⟨_, _, _, _, _, _, Slc.nil, _, _, rfl, ?_⟩
          dsimp only
          rw [hrb]
          have H3 := H.fr0 f11
          refine H3.ent (Ent.star ?_ (Ent.refl _))
          intro w S hp
          refine ⟨⟨rfl, fun h => absurd h h0⟩, ?_⟩
          rw [if_neg h0]
          exact hp
      · intro oN w10 H
        refine H.new fun b w11 H => ?_
        refine H.ent (left.trans (Ent.star (Ent.refl _) ?_))
        exact Ent.star (Ent.refl _) emp_l'
      · intro k key cnt cli fin has d n e b w10 H
        have H : Hp w w10 (star (bk b Ty_api_Update zU.toArray) (star (relN N (some (k, key, cnt, cli, fin, has, d, n, e))) (Base m l c X es last))) := H.ent left
        exact H.stoAll (b := b) (by rfl) fun w11 H => H.ent left
      · intro k key cnt cli fin has d n e b w10 H
        obtain ⟨⟨rfl, hkk⟩, H⟩ := Hp.lift H
        refine ⟨fun h0 => ?_, fun h0 => ?_⟩
        · simp only [ne_eq, decide_not, Bool.not_eq_true', decide_eq_false_iff_not] at h0
          rw [if_neg h0] at H
          have hst := scanA_stop (bs := bs) (at_ := a) (last := last) hal (by rw [hN]; exact h0)
          rw [hst, hN] at hTe
          refine hret m l c X es last N.1 w10 H.drop.drop ?_
          rw [hTe]
          simp
        · simp only [ne_eq, decide_not, Bool.not_eq_false', decide_eq_true_eq] at h0
          obtain ⟨rfl, rfl, rfl, rfl, rfl, rfl, rfl⟩ := hkk h0
          rw [if_pos h0] at H
          have hnx := scanA_next (bs := bs) (at_ := a) (last := last) hal (by rw [hN]; exact h0)
          obtain ⟨n1, n2, n3, n4, more, n5⟩ := next_inv (rest := bs.drop a) (last := last) (by rw [hN]; exact h0)
          rw [hN] at hnx n1 n2 n3 n4 n5
          have hl5 := congrArg List.length n5
          have h4s := recSum_len last N.2.1.body
          simp at hl5
          have hstep : N.2.2.1 + a ≤ bs.length := by omega
          have hst5 : 5 ≤ N.2.2.1 := by rw [n3]; simp [recPre]
          have hdrop : bs.drop (a + (recPre N.2.1.body).length) = recSum last N.2.1.body ++ more := by
            rw [← List.drop_drop, n5, List.append_assoc, List.drop_left]
          let u : Upd := ⟨N.2.1.kind, N.2.1.key, N.2.1.cnt, N.2.1.cli, N.2.1.fin, N.2.1.has, d, N.2.1.ds⟩
          have H : Hp w w10 (star (own Ty_uint8 1 d (N.2.1.ds.map u8v)) (star (bk b Ty_api_Update #[.int .i64 N.2.1.kind, .string N.2.1.key, .int .i64 N.2.1.cnt, .int .i64 N.2.1.cli, .bool N.2.1.fin, .bool N.2.1.has, d.v]) (star (bk q Ty_sherdref11_Writer #[c.v, .int .i64 (X.length : Int)]) (star (own Ty_uint8 1 c (last.map u8v)) (star (own Ty_api_Update 7 l (X.map Upd.cells).flatten) (star (own Ty_int 1 m ((hl :: es).map fun n => Value.int .i64 ((n : Nat) : Int))) (star (bk b14 Ty_api_Head #[.int .i64 hn, .int .i64 hk, .int .i64 hd, .int .i64 hs]) (star (bk b3 Ty_api_Head zH.toArray) (all rowU X))))))))) := H
          have hll := (H.cel (s := l)).len
          rw [Upd.flat_len] at hll
          have hml := (H.cel (s := m)).len
          simp at hml
          have e1 : wr .i64 ((a : Int) + (N.2.2.1 : Int)) = ((a + N.2.2.1 : Nat) : Int) := by rw [wr64 (by omega) (by omega)]; omega
          have e2 : wr .i64 (((a + N.2.2.1 : Nat) : Int) - 4) = ((a + N.2.2.1 - 4 : Nat) : Int) := by rw [wr64 (by omega) (by omega)]; omega
          rw [e1, e2]
          have H := (H.own c).drop
          refine New.intro fun b135 w11 nb => ?_
          have H2 : Hp w w11 (star (own Ty_uint8 1 ⟨some (blk b135), 0, 0⟩ []) _) := H.row nb rfl (by simp) (by decide)
          refine ⟨by omega, by omega, by omega, ?_⟩
          simp only [Int.toNat_natCast]
          have hcut : Byt w11 (s.cut 1 (a + N.2.2.1 - 4) (a + N.2.2.1)) (recSum last N.2.1.body) := cut_all (hb.fr0 H2.fr) (by omega) (by omega) (by
            rw [show a + N.2.2.1 - 4 = a + (recPre N.2.1.body).length by omega, hdrop, show a + N.2.2.1 - (a + (recPre N.2.1.body).length) = (recSum last N.2.1.body).length by omega, List.take_left])
          have hcl := hcut.len
          refine H2.app slT_sl_uint8 hcut (one_u8 _) (by unfold maxLen; simp only; omega) (by simp only; omega) fun s141 w12 H _ => ?_
          rw [List.nil_append] at H
          refine H.sto (b := q) (i := 0) (lt_ rfl) fun w13 H => ⟨_, H.cell (b := q) (i := 1) rfl, ?_⟩
          rw [wr64 (by omega) (by omega)]
          refine H.sto (b := q) (i := 1) (lt_ rfl) fun w14 H => ldU (H.blk b) ?_
          have H := (H.blk b).drop
          refine H.newRow (e := Ty_api_Update) (n := 1) (size := 7) u.cells rfl rfl (by decide) fun b168 w15 H => ?_
          refine H.app (s := l) slT_sl_api_Update (H.cel (s := ⟨some (blk b168), 1, 1⟩)) (upd_one u) (by unfold maxLen; simp only; omega) (by simp only; omega) fun l' w16 H _ => ?_
          have H := (H.own ⟨some (blk b168), 1, 1⟩).drop
          refine H.newRow (e := Ty_int) (n := 1) (size := 1) [.int .i64 ((a + N.2.2.1 : Nat) : Int)] rfl rfl (by decide) fun b174 w17 H => ?_
          refine H.app (s := m) slT_sl_int (H.cel (s := ⟨some (blk b174), 1, 1⟩)) (by intro v hv; simp at hv; subst hv; rfl) (by unfold maxLen; simp only; omega) (by simp only; omega) fun m' w18 H _ => ?_
          have H := (H.own ⟨some (blk b174), 1, 1⟩).drop
          have H3 := ((((H.take (all rowU X)).own d).assoc').ent (Ent.star (all_snoc rowU u X) (Ent.refl _)))
          have H4 := (((((H3.blk b3).blk b14).own m').own l').own s141).blk q
          refine ⟨⟨a + N.2.2.1, rfl, s141, X ++ [u], es ++ [a + N.2.2.1], recSum last N.2.1.body, by omega, h4s, by omega, by simp; omega, by simp [hes], ?_, ?_⟩, by first | omega | (dsimp only; omega)⟩
          · rw [hTe, hnx, n4]
            have : Vc_up u = N.2.1 := rfl
            simp [this]
          · refine H4.ent ?_
            have eX : (((X ++ [u]).length : Nat) : Int) = (X.length : Int) + 1 := by simp
            have eU : ((X ++ [u]).map Upd.cells).flatten = (X.map Upd.cells).flatten ++ u.cells := by simp
            have eM : ((hl :: (es ++ [a + N.2.2.1])).map fun n => Value.int .i64 ((n : Nat) : Int)) = ((hl :: es).map fun n => Value.int .i64 ((n : Nat) : Int)) ++ [.int .i64 ((a + N.2.2.1 : Nat) : Int)] := by simp
            show Ent _ (star (bk q Ty_sherdref11_Writer #[s141.v, .int .i64 (((X ++ [u]).length : Nat) : Int)]) _)
            rw [eX, eU, eM]
            exact Ent.star (Ent.refl _) (Ent.star (Ent.refl _) (Ent.star (Ent.refl _) (Ent.star (Ent.refl _) (Ent.star (Ent.refl _) (Ent.star (Ent.refl _) emp_r')))))
    · simp only [decide_eq_false_iff_not, hsl] at hge
      rw [scanA_end (by omega)] at hTe
      refine ⟨c, X, es, last, ?_, H⟩
      rw [hTe]
      simp
  · rintro m l w9 ⟨c, X, es, last, hE, H⟩
    exact hret m l c X es last 0 w9 H hE
end Go.Proofs.YtnhgnfflihoaiaaGreatDoor
