/-
  Contract of TableHolds: what a table holds is a function of which updates came.
-/
import Derived.Test.YtgnceldnfefnmaaLawSix
namespace Go.Tab
open Go Go.Vc Go.Vc.Asn
/-- What m of the moves tell of a key's tag. -/
def anyF (ms : List Mv) (k : ByteArray) (t : Tg) : Bool := ms.any fun m => m.hit k t && m.fin
def anyH (ms : List Mv) (k : ByteArray) (t : Tg) : Bool := ms.any fun m => m.hit k t && (m.both || !m.fin)
theorem anyF_snoc (ms : List Mv) (m : Mv) (k : ByteArray) (t : Tg) : anyF (ms ++ [m]) k t = (anyF ms k t || (m.hit k t && m.fin)) := by unfold anyF; simp
theorem anyH_snoc (ms : List Mv) (m : Mv) (k : ByteArray) (t : Tg) : anyH (ms ++ [m]) k t = (anyH ms k t || (m.hit k t && (m.both || !m.fin))) := by unfold anyH; simp
end Go.Tab
namespace Go.Proofs.Ytgnceldnfefnmaa
open Go Go.Vc Go.Vc.Asn Go.Tab Go.Sort
section
variable {w0 w : World} {F : Asn} {n : Nat} {T : Tc} {p : Nat}
/-- An entry whose data is but to be read. -/
def entR (e : Ec) : Asn := rdp e.s e.data
def entsR (s : Slc) (es : List Ec) : Asn := star (own Ty_api_Entry 5 s (es.flatMap Ec.c)) (all entR es)
theorem entR_at {es : List Ec} {e : Ec} (he : e ∈ es) (H : Hp w0 w (star (all entR es) F)) : Byt w e.s e.data := by
  induction es generalizing F with
  | nil => cases he
  | cons x r ih =>
    have H : Hp w0 w (star (star (entR x) (all entR r)) F) := H
    rcases List.mem_cons.1 he with rfl | h
    · have H : Hp w0 w (star (rdp e.s e.data) (star (all entR r) F)) := H.assoc
      exact H.rdp
    · exact ih h H.assoc.swap
theorem RdE.rents {F' : Asn} {s : Slc} {es : List Ec} [Take (entsR s es) F F'] : RdE w0 F s es := fun _ _ H => by
  have H := (H.take (entsR s es)).assoc
  exact ⟨H.cel (s := s), fun e he => entR_at he H.swap⟩
theorem entsR_nil : Ent F (star (entsR Slc.nil []) F) := entsA_nil
set_option maxHeartbeats 2000000 in
theorem expected_c {s : Slc} {ms : List Mv} (j : Int) (hn4 : n ≤ 1000) (hM : RdM w0 F s ms) (hl : ms.length ≤ 137438953472) (H : Hp w0 w F) :
    Calls PP F_sherdlaw15_expected #[.int .i64 (n : Int), s.v, .string (keyB j)] w (Rt fun v w' => ∃ so es, v = Slc.v so ∧ es.map Ec.abs = listC n (DB (keyB j)) (feS ms (keyB j)) (heS ms (keyB j)) ∧ Hp w0 w' (star (entsR so es) F)) := by
  have hsl := (hM _ _ (H.ent emp_l)).flen mv_len (by decide)
  have hks := key_size j
  have hF0 := feS_ok ms (keyB j)
  have hS1 := six_feS ms (keyB j)
  have hS2 := six_heS ms (keyB j)
  have hFE := fun t => any_fe ms (keyB j) t
  have hHE := fun t => any_he ms (keyB j) t
  refine sim_sherdlaw15_expected _ _ _ _ _ ?_
  unfold vc_sherdlaw15_expected
  refine ⟨fun t w' => ∃ es, es.map Ec.abs = (listC n (DB (keyB j)) (feS ms (keyB j)) (heS ms (keyB j))).reverse ∧ es.length ≤ 60 ∧ Hp w0 w' (star (entsR t es) F), ?_, ?_⟩
  · refine ⟨fun t f i w' => ∃ (q : Nat) (es : List Ec), i = (q : Int) - 1 ∧ q ≤ 60 ∧ es.map Ec.abs = (((ups q).filter (isU (feS ms (keyB j)) (heS ms (keyB j)))).map (enC (DB (keyB j)) (feS ms (keyB j)) (heS ms (keyB j)))).reverse ∧ f = (((ups q).countP (fun t => decide (t ∈ feS ms (keyB j))) : Nat) : Int) ∧ (ups q).countP (fun t => decide (t ∈ feS ms (keyB j))) ≤ n ∧ Hp w0 w' (star (entsR t es) F), fun _ _ i _ => (i + 1).toNat, ⟨60, [], rfl, Nat.le_refl _, rfl, rfl, Nat.zero_le _, H.ent entsR_nil⟩, ?_⟩
    rintro t _ _ w1 ⟨q, es, rfl, hq, hes, rfl, hcn, H⟩
    have hlen : es.length ≤ 60 - q := by
      have h1 := congrArg List.length hes
      simp only [List.length_map, List.length_reverse] at h1
      have h2 := List.length_filter_le (isU (feS ms (keyB j)) (heS ms (keyB j))) (ups q)
      have h3 : (ups q).length = 60 - q := by unfold ups; simp
      omega
    refine ⟨fun h => ?_, fun h => ?_⟩
    rotate_left
    · have hq0 : q = 0 := by simp only [decide_eq_false_iff_not] at h; omega
      subst hq0
      have hfl := ups_few hF0.1 hS1 hcn
      refine ⟨es, ?_, by omega, H⟩
      rw [hes]
      congr 1
      unfold listC
      rw [ups_list (n := n) hF0.1 hS1 hS2 fun i hi _ => by rw [hfl]; exact ⟨fun _ => Nat.zero_le _, fun _ => ltT_asymm (tagN_pos i)⟩]
    have hq0 : 0 < q := by simp only [decide_eq_true_eq] at h; omega
    obtain ⟨i, rfl⟩ : ∃ i, q = i + 1 := ⟨q - 1, by omega⟩
    have ei : (((i + 1 : Nat) : Int) - 1) = (i : Int) := by omega
    rw [ei]
    have et : (wr .i64 ((wr .i64 ((i : Int).tdiv 5)) + 1), wr .i64 (((i : Int).tmod 5) + 1)) = tagN i := by
      have h1 : (i : Int).tdiv 5 = ((i / 5 : Nat) : Int) := by rw [Int.tdiv_eq_ediv_of_nonneg (by omega)]; omega
      have h2 : (i : Int).tmod 5 = ((i % 5 : Nat) : Int) := by rw [Int.tmod_eq_emod_of_nonneg (by omega)]; omega
      rw [h1, h2]
      rw [wr64 (n := ((i / 5 : Nat) : Int)) (by omega) (by omega), wr64 (by omega) (by omega), wr64 (by omega) (by omega)]
      rfl
    have et1 : wr .i64 ((wr .i64 ((i : Int).tdiv 5)) + 1) = (tagN i).1 := congrArg Prod.fst et
    have et2 : wr .i64 (((i : Int).tmod 5) + 1) = (tagN i).2 := congrArg Prod.snd et
    rw [et1, et2]
    have hups : ups i = tagN i :: ups (i + 1) := ups_cons (by omega)
    generalize hT : tagN i = tg at *
    refine ⟨fun t f w' => ∃ es : List Ec, es.map Ec.abs = (((ups i).filter (isU (feS ms (keyB j)) (heS ms (keyB j)))).map (enC (DB (keyB j)) (feS ms (keyB j)) (heS ms (keyB j)))).reverse ∧ f = (((ups i).countP (fun t => decide (t ∈ feS ms (keyB j))) : Nat) : Int) ∧ (ups i).countP (fun t => decide (t ∈ feS ms (keyB j))) ≤ n ∧ Hp w0 w' (star (entsR t es) F), ?_, ?_⟩
    rotate_left
    · rintro t2 _ w2 ⟨es2, he2, rfl, hc2, H⟩
      have e1 : wr .i64 ((i : Int) - 1) = (i : Int) - 1 := wr64 (by omega) (by omega)
      exact ⟨⟨i, es2, by rw [e1], by omega, he2, rfl, hc2, H⟩, by dsimp only; rw [e1]; omega⟩
    refine H.new fun b65 w2 H => H.stoAll (b := b65) (by rfl) fun w3 H => ⟨_, H.cell (b := b65) (i := 0) rfl, _, H.cell (b := b65) (i := 1) rfl, H.new fun b74 w4 H => H.stoAll (b := b74) (by rfl) fun w5 H => ?_⟩
    refine ⟨fun x w' => ∃ (m : Nat) (d : Slc) (bs : List UInt8), x = (m : Int) ∧ m ≤ ms.length ∧ bs = (if anyH (ms.take m) (keyB j) tg then dataB (keyB j) tg else []) ∧ Hp w0 w' (star (bk b74 Ty_api_Entry #[.int .i64 tg.1, .int .i64 tg.2, .bool (anyF (ms.take m) (keyB j) tg), .bool (anyH (ms.take m) (keyB j) tg), d.v]) (star (rdp d bs) (star (bk b65 Ty_api_Tag #[.int .i64 tg.1, .int .i64 tg.2]) (star (entsR t es) F)))), fun x _ => ms.length - x.toNat, ⟨0, Slc.nil, [], rfl, Nat.zero_le _, rfl, ?_⟩, ?_⟩
    · have H := ((H.nilRow Ty_uint8 1).ent (Ent.star (rdp_of (d := Slc.nil) (bs := [])) (Ent.refl _)))
      exact (H.swap : _)
    rintro _ w6 ⟨m, d, bs, rfl, hm, rfl, H⟩
    refine ⟨fun h => ?_, fun h => ?_⟩
    · have hlt : m < ms.length := by rw [hsl] at h; simp only [decide_eq_true_eq] at h; omega
      have hx : ms[m]? = some ms[m] := List.getElem?_eq_getElem hlt
      have htk : ms.take (m + 1) = ms.take m ++ [ms[m]] := by rw [List.take_succ_eq_append_getElem hlt]
      have HM : Hp w0 w6 (star (star (bk b74 Ty_api_Entry #[.int .i64 tg.1, .int .i64 tg.2, .bool (anyF (ms.take m) (keyB j) tg), .bool (anyH (ms.take m) (keyB j) tg), d.v]) (star (rdp d (if anyH (ms.take m) (keyB j) tg then dataB (keyB j) tg else [])) (star (bk b65 Ty_api_Tag #[.int .i64 tg.1, .int .i64 tg.2]) (entsR t es)))) F) := H.ent ((Ent.star (Ent.refl _) ((Ent.star (Ent.refl _) Asn.assoc').trans Asn.assoc')).trans Asn.assoc')
      obtain ⟨a, ha, hc⟩ := (hM _ _ HM).elem mv_len hx (by decide)
      have ewr : wr .i64 ((m : Int) + 1) = ((m + 1 : Nat) : Int) := by rw [wr64 (by omega) (by omega)]; omega
      generalize ms[m] = mv at *
      clear HM
      refine ⟨fun w' => ∃ (d : Slc) (bs : List UInt8), bs = (if anyH (ms.take (m + 1)) (keyB j) tg then dataB (keyB j) tg else []) ∧ Hp w0 w' (star (bk b74 Ty_api_Entry #[.int .i64 tg.1, .int .i64 tg.2, .bool (anyF (ms.take (m + 1)) (keyB j) tg), .bool (anyH (ms.take (m + 1)) (keyB j) tg), d.v]) (star (rdp d bs) (star (bk b65 Ty_api_Tag #[.int .i64 tg.1, .int .i64 tg.2]) (star (entsR t es) F)))), ?_, fun w7 ⟨d, bs, hb, H⟩ => ⟨⟨m + 1, d, bs, by rw [ewr], by omega, hb, H⟩, by dsimp only; rw [ewr]; omega⟩⟩
      rw [htk, anyF_snoc, anyH_snoc]
      refine ⟨a, ha, by omega, by omega, _, hc 0 _ rfl, _, hc 1 _ rfl, _, hc 2 _ rfl, _, hc 3 _ rfl, _, hc 4 _ rfl, H.new fun b106 w7 H => H.stoAll (b := b106) (by rfl) fun w8 H => ?_⟩
      refine ⟨fun x w' => x = !(mv.hit (keyB j) tg) ∧ Hp w0 w' (star (bk b106 Ty_sherdlaw15_Move mv.c.toArray) (star (bk b74 Ty_api_Entry #[.int .i64 tg.1, .int .i64 tg.2, .bool (anyF (ms.take m) (keyB j) tg), .bool (anyH (ms.take m) (keyB j) tg), d.v]) (star (rdp d (if anyH (ms.take m) (keyB j) tg then dataB (keyB j) tg else [])) (star (bk b65 Ty_api_Tag #[.int .i64 tg.1, .int .i64 tg.2]) (star (entsR t es) F))))), ?_, ?_⟩
      · have H := H.drew 1
        refine ⟨_, H.cell (b := b106) (i := 0) rfl, call (keyOf_c mv.key) ?_⟩
        rintro _ w9 ⟨rfl, f⟩
        have H := H.fr0 f
        have hkk : ((keyB mv.key).toList = (keyB j).toList) ↔ keyB mv.key = keyB j := by
          constructor
          · intro e
            rw [ByteArray.toList_eq, ByteArray.toList_eq] at e
            rw [← eta (keyB mv.key), ← eta (keyB j), e]
          · intro e; rw [e]
        refine ⟨_, rfl, fun h => ⟨?_, H⟩, fun h => ?_⟩
        · have h : keyB mv.key ≠ keyB j := by simpa [hkk] using h
          unfold Mv.hit
          simp [h]
        · have h : keyB mv.key = keyB j := by simpa [hkk] using h
          refine ⟨_, H.cell (b := b106) (i := 0) rfl, _, H.cell (b := b106) (i := 1) rfl, _, H.cell (b := b106) (i := 2) rfl, _, H.cell (b := b106) (i := 3) rfl, _, H.cell (b := b106) (i := 4) rfl, _, H.cell (b := b65) (i := 0) rfl, _, H.cell (b := b65) (i := 1) rfl, call (tagOf_c mv) ?_⟩
          rintro _ w10 ⟨rfl, f⟩
          have H := H.fr0 f
          refine ⟨_, _, rfl, H.cell (b := b65) (i := 0) rfl, H.cell (b := b65) (i := 1) rfl, ?_, H⟩
          unfold Mv.hit
          rw [h]
          congr 1
          rw [Bool.eq_iff_iff]
          simp only [Bool.and_eq_true, decide_eq_true_eq, Prod.ext_iff, true_and]
      · rintro _ w9 ⟨rfl, H⟩
        refine ⟨fun h => ?_, fun h => ?_⟩
        · have h : mv.hit (keyB j) tg = false := by simpa using h
          rw [h]
          simp only [Bool.false_and, Bool.or_false]
          exact ⟨d, _, rfl, H.drop⟩
        have h : mv.hit (keyB j) tg = true := by simpa using h
        rw [h]
        simp only [Bool.true_and]
        refine ⟨_, H.cell (b := b74) (i := 2) rfl, anyF (ms.take m) (keyB j) tg || mv.fin, fun h1 => ⟨_, H.cell (b := b106) (i := 1) rfl, by rw [h1]; rfl⟩, fun h1 => by rw [h1]; rfl, H.sto (b := b74) (i := 2) (by show 2 < 5; decide) fun w10 H => ⟨_, H.cell (b := b106) (i := 2) rfl, mv.both || !mv.fin, fun h1 => ⟨_, H.cell (b := b106) (i := 1) rfl, by rw [h1]; rfl⟩, fun h1 => by rw [h1]; rfl, fun h2 => ?_, fun h2 => ?_⟩⟩
        · refine H.sto (b := b74) (i := 3) (by show 3 < 5; decide) fun w11 H => ⟨_, H.cell (b := b65) (i := 0) rfl, _, H.cell (b := b65) (i := 1) rfl, call (dataOf_c (keyB j) tg (by omega)) ?_⟩
          rintro _ w12 ⟨d2, rfl, K⟩
          have H := H.join K
          refine ⟨_, rfl, H.sto (b := b74) (i := 4) (by show 4 < 5; decide) fun w13 H => ⟨d2, _, rfl, ?_⟩⟩
          rw [h2]
          simp only [Bool.or_true, if_true]
          have H := (H.blk b106).drop
          have H := H.swap
          exact ((((H.take (rdp d (if anyH (ms.take m) (keyB j) tg then dataB (keyB j) tg else [])))).drop).take (rdp d2 (dataB (keyB j) tg))).swap
        · rw [h2]
          simp only [Bool.or_false]
          exact ⟨d, _, rfl, ((H.blk b106).drop.blk b74)⟩
    · have hme : m = ms.length := by rw [hsl] at h; simp only [decide_eq_false_iff_not] at h; omega
      subst hme
      rw [List.take_length] at H
      have eF : anyF ms (keyB j) tg = decide (tg ∈ feS ms (keyB j)) := hFE tg
      have eH : anyH ms (keyB j) tg = decide (tg ∈ heS ms (keyB j)) := hHE tg
      rw [eF, eH] at H
      have hU : isU (feS ms (keyB j)) (heS ms (keyB j)) tg = (decide (tg ∈ feS ms (keyB j)) || decide (tg ∈ heS ms (keyB j))) := rfl
      generalize hfb : decide (tg ∈ feS ms (keyB j)) = fb at *
      generalize hhb : decide (tg ∈ heS ms (keyB j)) = hb at *
      refine ⟨fun t2 w' => ∃ es2 : List Ec, es2.map Ec.abs = (((ups i).filter (isU (feS ms (keyB j)) (heS ms (keyB j)))).map (enC (DB (keyB j)) (feS ms (keyB j)) (heS ms (keyB j)))).reverse ∧ Hp w0 w' (star (bk b74 Ty_api_Entry #[.int .i64 tg.1, .int .i64 tg.2, .bool fb, .bool hb, d.v]) (star (entsR t2 es2) F)), ⟨_, H.cell (b := b74) (i := 2) rfl, fb || hb, fun h1 => ⟨_, H.cell (b := b74) (i := 3) rfl, by rw [h1]; rfl⟩, fun h1 => by rw [h1]; rfl, fun h2 => ?_, fun h2 => ?_⟩, ?_⟩
      · refine ⟨_, H.cell (b := b74) (i := 0) rfl, _, H.cell (b := b74) (i := 1) rfl, _, H.cell (b := b74) (i := 2) rfl, _, H.cell (b := b74) (i := 3) rfl, _, H.cell (b := b74) (i := 4) rfl, H.newRow (e := Ty_api_Entry) (n := 1) (size := 5) (Ec.c ⟨tg, fb, hb, d, if hb then dataB (keyB j) tg else []⟩) rfl rfl (by decide) fun b230 w7 H => ?_⟩
        have H := (H.take (entsR t es)).assoc
        have htl := ents_l (s := t) (es := es) H
        refine H.app (s := t) slT_sl_api_Entry (H.cel (s := ⟨some (blk b230), 1, 1⟩)) (fun u hu => one_ent [⟨tg, fb, hb, d, if hb then dataB (keyB j) tg else []⟩] u (by simpa using hu)) (by unfold maxLen; simp only; omega) (by simp only; omega) fun s'' w8 H _ => ?_
        refine ⟨es ++ [⟨tg, fb, hb, d, if hb then dataB (keyB j) tg else []⟩], ?_, ?_⟩
        · rw [hups, List.filter_cons, hU, h2, if_pos rfl, List.map_append, hes, List.map_cons, List.map_cons, List.map_nil, List.reverse_cons]
          congr 1
          simp only [List.cons.injEq, and_true]
          unfold enC Ec.abs
          have e1 : decide (tg ∈ feS ms (keyB j)) = fb := hfb
          have e2 : decide (tg ∈ heS ms (keyB j)) = hb := hhb
          rw [e1, e2]
          congr 1
          rw [DB_key]
          subst hhb
          by_cases hx : tg ∈ heS ms (keyB j) <;> simp [hx]
        · have H := ((H.own ⟨some (blk b230), 1, 1⟩).drop.blk b65).drop
          have H := H.take (rdp d (if hb = true then dataB (keyB j) tg else []))
          have H := (H.take (all entR es)).swap.assoc'
          have H := H.ent (Ent.star (all_snoc entR ⟨tg, fb, hb, d, if hb then dataB (keyB j) tg else []⟩ es) (Ent.refl _))
          have H := (H.own s'').assoc'.blk b74
          unfold entsR
          have eF : ∀ e' : Ec, (es ++ [e']).flatMap Ec.c = es.flatMap Ec.c ++ e'.c := fun e' => by simp
          rw [eF]
          exact H.ent (Ent.star (Ent.refl _) Asn.assoc')
      · refine ⟨es, ?_, H.swap.drop.swap.drop⟩
        rw [hups, List.filter_cons, hU, h2, if_neg (by simp)]
        exact hes
      · rintro t2 w7 ⟨es2, he2, H⟩
        have hcnt : (ups i).countP (fun t => decide (t ∈ feS ms (keyB j))) = (ups (i + 1)).countP (fun t => decide (t ∈ feS ms (keyB j))) + (if fb = true then 1 else 0) := by
          rw [hups, List.countP_cons, hfb]
        have hl2 : es2.length ≤ 60 := by
          have h1 := congrArg List.length he2
          simp only [List.length_map, List.length_reverse] at h1
          have h2 := List.length_filter_le (isU (feS ms (keyB j)) (heS ms (keyB j))) (ups i)
          have h3 : (ups i).length = 60 - i := by unfold ups; simp
          omega
        refine ⟨fun f w' => f = (((ups i).countP (fun t => decide (t ∈ feS ms (keyB j))) : Nat) : Int) ∧ Hp w0 w' (star (entsR t2 es2) F), ⟨_, H.cell (b := b74) (i := 2) rfl, fun h1 => ⟨?_, H.drop⟩, fun h1 => ⟨?_, H.drop⟩⟩, ?_⟩
        · rw [hcnt, h1, wr64 (by omega) (by omega)]; simp
        · rw [hcnt, h1]; simp
        rintro _ w8 ⟨rfl, H⟩
        refine ⟨fun h => ?_, fun h => ?_⟩
        · simp only [decide_eq_true_eq] at h
          have hf1 : fb = true := by
            cases fb with
            | true => rfl
            | false => simp at hcnt; omega
          rw [hf1, if_pos rfl] at hcnt
          have hf : tagN i ∈ feS ms (keyB j) := by rw [hT]; rw [hf1] at hfb; simpa using hfb
          have hfl := ups_floor (n := n) hF0.1 hS1 (by omega) hf (by omega)
          refine ⟨es2, ?_, hl2, H⟩
          rw [he2]
          congr 1
          unfold listC
          rw [ups_list (n := n) hF0.1 hS1 hS2 fun i' _ _ => by rw [hfl, ← Bool.not_eq_true, tagN_lt]; omega]
        · simp only [decide_eq_false_iff_not] at h
          exact ⟨es2, he2, rfl, by omega, H⟩
  · rintro t w1 ⟨es, hes, hl60, H⟩
    have H := H.assoc
    have htl := ents_l (s := t) (es := es) H
    refine ⟨fun o i w' => ∃ m : Nat, i = (m : Int) ∧ m ≤ es.length ∧ Hp w0 w' (star (own Ty_api_Entry 5 o ((es.reverse.take m).flatMap Ec.c)) (star (own Ty_api_Entry 5 t (es.flatMap Ec.c)) (star (all entR es) F))), fun _ i _ => es.length - i.toNat, ⟨0, rfl, Nat.zero_le _, H.nilRow Ty_api_Entry 5⟩, ?_⟩
    rintro o _ w2 ⟨m, rfl, hm, H⟩
    refine ⟨fun h => ?_, fun h => ?_⟩
    · have hlt : m < es.length := by rw [htl] at h; simp only [decide_eq_true_eq] at h; omega
      have hx : es[es.length - 1 - m]? = some (es[es.length - 1 - m]'(by omega)) := List.getElem?_eq_getElem (by omega)
      have htk : es.reverse.take (m + 1) = es.reverse.take m ++ [es[es.length - 1 - m]'(by omega)] := by
        rw [List.take_succ_eq_append_getElem (by simp; omega), List.getElem_reverse]
      obtain ⟨a, ha, hc⟩ := ent_get (s := t) (es := es) H hx
      have hol : o.l = m := by
        have := ents_l (s := o) (es := es.reverse.take m) H
        rw [List.length_take, List.length_reverse] at this
        omega
      have e1 : wr .i64 (wr .i64 ((t.l : Int) - 1) - (m : Int)) = ((es.length - 1 - m : Nat) : Int) := by rw [htl, wr64 (n := (es.length : Int) - 1) (by omega) (by omega), wr64 (by omega) (by omega)]; omega
      have ewr : wr .i64 ((m : Int) + 1) = ((m + 1 : Nat) : Int) := by rw [wr64 (by omega) (by omega)]; omega
      rw [e1, Int.toNat_natCast]
      generalize (es[es.length - 1 - m]'(by omega)) = e at *
      refine ⟨a, ha, by omega, by omega, _, hc 0 _ rfl, _, hc 1 _ rfl, _, hc 2 _ rfl, _, hc 3 _ rfl, _, hc 4 _ rfl, H.newRow (e := Ty_api_Entry) (n := 1) (size := 5) e.c rfl rfl (by decide) fun b38 w3 H => ?_⟩
      refine H.app (s := o) slT_sl_api_Entry (H.cel (s := ⟨some (blk b38), 1, 1⟩)) (fun u hu => one_ent [e] u (by simpa using hu)) (by unfold maxLen; simp only; omega) (by simp only; omega) fun s' w4 H _ => ?_
      have H := ((H.own ⟨some (blk b38), 1, 1⟩).drop.own s')
      refine ⟨⟨m + 1, by rw [ewr], by omega, ?_⟩, by dsimp only; rw [ewr]; omega⟩
      have eF : (es.reverse.take (m + 1)).flatMap Ec.c = (es.reverse.take m).flatMap Ec.c ++ e.c := by rw [htk]; simp
      rw [eF]
      exact H
    · have hme : m = es.length := by rw [htl] at h; simp only [decide_eq_false_iff_not] at h; omega
      subst hme
      rw [List.take_of_length_le (by simp)] at H
      refine Rt.ok ⟨o, es.reverse, rfl, by rw [List.map_reverse, hes, List.reverse_reverse], ?_⟩
      exact ((H.swap.drop).ent (Ent.star (Ent.refl _) (Ent.star (all_perm (List.reverse_perm es).symm) (Ent.refl _)))).assoc'
/-- The finalized tags of these entries. -/
def finT (es : List Ec) : List Tg := (es.filter (·.fin)).map (·.tag)
theorem finT_snoc (es : List Ec) (e : Ec) : finT (es ++ [e]) = finT es ++ (if e.fin then [e.tag] else []) := by
  unfold finT
  rw [List.filter_append, List.map_append]
  cases h : e.fin <;> simp [List.filter_cons, h]
theorem at_snoc (l : List Tg) (t : Tg) (m : Nat) : ((l ++ [t])[m]?).getD (0, 0) = if l.length = m then t else (l[m]?).getD (0, 0) := by
  split
  · rename_i h; subst h; simp
  · rename_i h
    rcases Nat.lt_or_ge m l.length with h1 | h1
    · rw [List.getElem?_append_left h1]
    · rw [List.getElem?_eq_none (by simp; omega), List.getElem?_eq_none h1]
set_option maxHeartbeats 2000000 in
theorem tableHolds_c {s : Slc} {ms : List Mv} (d : Int) (hM : Cel w s 5 (ms.flatMap Mv.c)) (hl : ms.length ≤ 137438953472) :
    Calls PP F_sherdlaw15_TableHolds #[.int .i64 d, s.v] w (Rt fun v w' => v = .bool true ∧ Fr [] w w') := by
  have hn1 := modI_lo d (m := 5) (by decide)
  have hn2 := modI_hi d (m := 5) (by decide)
  obtain ⟨n, hn⟩ := Int.eq_ofNat_of_zero_le hn1
  have hRM : ∀ F, RdM w F s ms := fun F w' A H => hM.fr0 H.fr
  refine sim_sherdlaw15_TableHolds _ _ _ _ ?_
  unfold vc_sherdlaw15_TableHolds
  refine call (small_c d) ?_
  rintro _ _ ⟨rfl, rfl⟩
  rw [hn]
  refine ⟨_, rfl, call (done_c (by omega) (hRM _) hl (Hp.start w)) ?_⟩
  rintro _ w1 ⟨p, T, rfl, hT, H⟩
  refine ⟨_, _, rfl, fun h => by simp at h, fun _ => ?_⟩
  have hf1 := feS_len ms
  have hf2 := heS_len ms
  have hb3 : ∀ k, (feS ms k).length + (heS ms k).length ≤ 1099511627776 := fun k => by have := hf1 k; have := hf2 k; omega
  refine ⟨fun i w' => ∃ j : Nat, i = (j : Int) ∧ j ≤ 3 ∧ Hp w w' (star (tabA p T) emp), fun i _ => 3 - i.toNat, ⟨0, rfl, by omega, H⟩, ?_⟩
  rintro _ w2 ⟨j, rfl, hj, H⟩
  refine ⟨fun h => ?_, fun h => ?_⟩
  rotate_left
  · refine call taken_c ?_
    rintro _ w3 ⟨rfl, f⟩
    exact ⟨_, rfl, Rt.ok ⟨rfl, H.fr.then_ f⟩⟩
  have hj3 : j < 3 := by simp only [decide_eq_true_eq] at h; omega
  have ewj : wr .i64 ((j : Int) + 1) = ((j + 1 : Nat) : Int) := by rw [wr64 (by omega) (by omega)]; omega
  refine ⟨fun w' => Hp w w' (star (tabA p T) emp), ?_, fun w3 H => ⟨⟨j + 1, by rw [ewj], by omega, H⟩, by dsimp only; rw [ewj]; omega⟩⟩
  refine call (keyOf_c (j : Int)) ?_
  rintro _ w3 ⟨rfl, f⟩
  have H := H.fr0 f
  refine ⟨_, rfl, call (expected_c (j : Int) (by omega) (hRM _) hl H) ?_⟩
  rintro _ w4 ⟨sW, ew, rfl, hew, H⟩
  refine ⟨_, rfl, call (entries_k (keyB j) hT (fun k t => Nat.le_trans (DB_len k t) (by decide)) (hb3 _) (H.take (tabA p T))) ?_⟩
  rintro _ w5 ⟨sE, es, rfl, hes, H⟩
  have hel : es.length ≤ 1099511627776 := by
    have h1 : es.length = (listC n (DB (keyB j)) (feS ms (keyB j)) (heS ms (keyB j))).length := by rw [← hes, List.length_map]
    have h2 := listC_len (n := n) (D := DB (keyB j)) (FE := feS ms (keyB j)) (HE := heS ms (keyB j))
    have := hb3 (keyB j)
    omega
  have hwl : ew.length ≤ 1099511627776 := by
    have h1 : ew.length = es.length := by rw [← List.length_map (f := Ec.abs), hew, ← hes, List.length_map]
    omega
  refine ⟨_, rfl, call (sameEntries_c (RdE.ents (es := es)) (RdE.rents (es := ew)) hel H) ?_⟩
  rintro _ w6 ⟨rfl, H⟩
  rw [hes, hew]
  refine ⟨_, rfl, fun h => by simp at h, fun _ => ?_⟩
  have H := H.drop.swap.assoc
  have hW := ents_l (s := sW) (es := ew) H
  have hfin : finT ew.reverse = sortD (cut n (feS ms (keyB j))) := by
    rw [← fins_list (n := n) (D := DB (keyB j)) (HE := heS ms (keyB j)) (feS_ok ms (keyB j)).1, ← hew, ← List.map_reverse, List.filter_map, List.map_map]
    rfl
  refine H.new fun b44 w7 H => H.stoAll (b := b44) (by rfl) fun w8 H => H.new fun b49 w9 H => H.stoAll (b := b49) (by rfl) fun w10 H => ?_
  refine ⟨fun f i w' => ∃ m : Nat, i = (m : Int) ∧ m ≤ ew.length ∧ f = (((finT (ew.reverse.take m)).length : Nat) : Int) ∧ Hp w w' (star (bk b49 Ty_api_Tag #[.int .i64 (((finT (ew.reverse.take m))[n]?).getD (0, 0)).1, .int .i64 (((finT (ew.reverse.take m))[n]?).getD (0, 0)).2]) (star (bk b44 Ty_api_Tag #[.int .i64 (((finT (ew.reverse.take m))[0]?).getD (0, 0)).1, .int .i64 (((finT (ew.reverse.take m))[0]?).getD (0, 0)).2]) (star (own Ty_api_Entry 5 sW (ew.flatMap Ec.c)) (star (all entR ew) (star (tabA p T) emp))))), fun _ i _ => ew.length - i.toNat, ⟨0, rfl, Nat.zero_le _, rfl, ?_⟩, ?_⟩
  · simpa [finT] using H
  rintro _ _ w11 ⟨m, rfl, hm, rfl, H⟩
  refine ⟨fun h => ?_, fun h => ?_⟩
  · have hlt : m < ew.length := by rw [hW] at h; simp only [decide_eq_true_eq] at h; omega
    have hx : ew[ew.length - 1 - m]? = some (ew[ew.length - 1 - m]'(by omega)) := List.getElem?_eq_getElem (by omega)
    have htk : ew.reverse.take (m + 1) = ew.reverse.take m ++ [ew[ew.length - 1 - m]'(by omega)] := by
      rw [List.take_succ_eq_append_getElem (by simp; omega), List.getElem_reverse]
    obtain ⟨a, ha, hc⟩ := ent_get (s := sW) (es := ew) H hx
    have e1 : wr .i64 (wr .i64 ((sW.l : Int) - 1) - (m : Int)) = ((ew.length - 1 - m : Nat) : Int) := by rw [hW, wr64 (n := (ew.length : Int) - 1) (by omega) (by omega), wr64 (by omega) (by omega)]; omega
    have ewr : wr .i64 ((m : Int) + 1) = ((m + 1 : Nat) : Int) := by rw [wr64 (by omega) (by omega)]; omega
    have hfl : (finT (ew.reverse.take m)).length ≤ ew.length := by
      unfold finT
      rw [List.length_map]
      refine Nat.le_trans (List.length_filter_le _ _) ?_
      rw [List.length_take, List.length_reverse]
      omega
    rw [e1, Int.toNat_natCast]
    generalize (ew[ew.length - 1 - m]'(by omega)) = e at *
    refine ⟨fun f w' => f = (((finT (ew.reverse.take (m + 1))).length : Nat) : Int) ∧ Hp w w' (star (bk b49 Ty_api_Tag #[.int .i64 (((finT (ew.reverse.take (m + 1)))[n]?).getD (0, 0)).1, .int .i64 (((finT (ew.reverse.take (m + 1)))[n]?).getD (0, 0)).2]) (star (bk b44 Ty_api_Tag #[.int .i64 (((finT (ew.reverse.take (m + 1)))[0]?).getD (0, 0)).1, .int .i64 (((finT (ew.reverse.take (m + 1)))[0]?).getD (0, 0)).2]) (star (own Ty_api_Entry 5 sW (ew.flatMap Ec.c)) (star (all entR ew) (star (tabA p T) emp))))), ?_, fun f w12 ⟨hf, H⟩ => ⟨⟨m + 1, by rw [ewr], by omega, hf, H⟩, by dsimp only; rw [ewr]; omega⟩⟩
    refine ⟨a, ha, by omega, by omega, _, hc 0 _ rfl, _, hc 1 _ rfl, _, hc 2 _ rfl, _, hc 3 _ rfl, _, hc 4 _ rfl, H.new fun b85 w12 H => H.stoAll (b := b85) (by rfl) fun w13 H => ⟨_, H.cell (b := b85) (i := 2) rfl, fun h1 => ?_, fun h1 => ?_⟩⟩
    · have h1 : e.fin = false := by simpa using h1
      rw [htk, finT_snoc, h1]
      simp only [Bool.false_eq_true, if_false, List.append_nil]
      exact ⟨trivial, H.drop⟩
    · have h1 : e.fin = true := by simpa using h1
      rw [htk, finT_snoc, h1, if_pos rfl, at_snoc, at_snoc]
      generalize finT (ew.reverse.take m) = L at *
      refine ⟨fun w' => Hp w w' (star (bk b49 Ty_api_Tag #[.int .i64 ((L[n]?).getD (0, 0)).1, .int .i64 ((L[n]?).getD (0, 0)).2]) (star (bk b44 Ty_api_Tag #[.int .i64 (if L.length = 0 then e.tag else (L[0]?).getD (0, 0)).1, .int .i64 (if L.length = 0 then e.tag else (L[0]?).getD (0, 0)).2]) (star (bk b85 Ty_api_Entry e.c.toArray) (star (own Ty_api_Entry 5 sW (ew.flatMap Ec.c)) (star (all entR ew) (star (tabA p T) emp)))))), ⟨fun h2 => ?_, fun h2 => ?_⟩, ?_⟩
      · simp only [decide_eq_true_eq] at h2
        rw [if_pos (by omega)]
        exact ⟨_, H.cell2 (b := b85) (i := 0) (j := 0) rfl, _, H.cell2 (b := b85) (i := 0) (j := 1) rfl, H.stoAll (b := b44) (by rfl) fun w14 H => (H.blk b44).blk b49 |>.ent (Ent.refl _)⟩
      · simp only [decide_eq_false_iff_not] at h2
        rw [if_neg (by omega)]
        exact (H.blk b44).blk b49
      intro w14 H
      refine ⟨fun w' => Hp w w' (star (bk b49 Ty_api_Tag #[.int .i64 (if L.length = n then e.tag else (L[n]?).getD (0, 0)).1, .int .i64 (if L.length = n then e.tag else (L[n]?).getD (0, 0)).2]) (star (bk b44 Ty_api_Tag #[.int .i64 (if L.length = 0 then e.tag else (L[0]?).getD (0, 0)).1, .int .i64 (if L.length = 0 then e.tag else (L[0]?).getD (0, 0)).2]) (star (bk b85 Ty_api_Entry e.c.toArray) (star (own Ty_api_Entry 5 sW (ew.flatMap Ec.c)) (star (all entR ew) (star (tabA p T) emp)))))), ⟨fun h2 => ?_, fun h2 => ?_⟩, ?_⟩
      · simp only [decide_eq_true_eq] at h2
        rw [if_pos (show L.length = n by omega)]
        exact ⟨_, H.cell2 (b := b85) (i := 0) (j := 0) rfl, _, H.cell2 (b := b85) (i := 0) (j := 1) rfl, H.stoAll (b := b49) (by rfl) fun w15 H => H⟩
      · simp only [decide_eq_false_iff_not] at h2
        rw [if_neg (show ¬ L.length = n by omega)]
        exact H
      intro w15 H
      refine ⟨?_, ((H.blk b85).drop.blk b44).blk b49⟩
      rw [wr64 (by omega) (by omega)]
      simp
  · have hme : m = ew.length := by rw [hW] at h; simp only [decide_eq_false_iff_not] at h; omega
    subst hme
    rw [List.take_of_length_le (by simp), hfin] at H
    have hnd := (feS_ok ms (keyB j)).1
    have e0 : (((sortD (cut n (feS ms (keyB j))))[0]?).getD (0, 0)) = top (feS ms (keyB j)) := by
      rw [← top_cut (n := n) hnd (feS_ok ms (keyB j)).2, top_fl]; rfl
    have en : (((sortD (cut n (feS ms (keyB j))))[n]?).getD (0, 0)) = fl n (feS ms (keyB j)) := by
      rw [← fl_cut (n := n) hnd]; rfl
    rw [e0, en] at H
    refine ⟨fun b w' => b = false ∧ Hp w w' (star (tabA p T) emp), ?_, ?_⟩
    · have H := H.drew 1
      refine ⟨_, H.cell (b := b44) (i := 0) rfl, _, H.cell (b := b44) (i := 1) rfl, call (top_k (keyB j) hT (hb3 _) (H.take (tabA p T))) ?_⟩
      rintro _ w12 ⟨rfl, H⟩
      refine ⟨_, _, rfl, H.cell (b := b44) (i := 0) rfl, H.cell (b := b44) (i := 1) rfl, fun h => by simp at h, fun _ => ?_⟩
      refine ⟨_, H.cell (b := b49) (i := 0) rfl, _, H.cell (b := b49) (i := 1) rfl, call (floor_k (keyB j) hT (hb3 _) H) ?_⟩
      rintro _ w13 ⟨rfl, H⟩
      refine ⟨_, _, rfl, H.cell (b := b49) (i := 0) rfl, H.cell (b := b49) (i := 1) rfl, by simp, ?_⟩
      exact H.swap.drop.swap.drop.swap.drop.swap.drop
    · rintro _ w12 ⟨rfl, H⟩
      exact ⟨fun h => by simp at h, fun _ => H⟩
end
end Go.Proofs.Ytgnceldnfefnmaa
