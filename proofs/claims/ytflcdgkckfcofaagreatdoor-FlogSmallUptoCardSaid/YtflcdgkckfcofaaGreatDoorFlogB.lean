/-
  Plain laws of a log's bytes; the contract of flog.made.
-/
import Derived.Test.YtflcdgkckfcofaaGreatDoorFlogA
namespace Go.Proofs.YtflcdgkckfcofaaGreatDoor
open Go Go.Vc Go.Vc.Asn Go.Disk
theorem logB_snoc : ∀ (last : List UInt8) (us : List Up) (u : Up), logB last (us ++ [u]) = logB last us ++ (recPre u.body ++ recSum (logLast last us) u.body)
  | last, [], u => by simp [logB, logLast]
  | last, x :: r, u => by simp [logB, logLast, logB_snoc _ r u]
theorem logLast_snoc : ∀ (last : List UInt8) (us : List Up) (u : Up), logLast last (us ++ [u]) = recSum (logLast last us) u.body
  | last, [], u => by simp [logLast]
  | last, x :: r, u => by simp [logLast, logLast_snoc _ r u]
theorem logLast_len : ∀ (last : List UInt8) (us : List Up), last.length = 4 → (logLast last us).length = 4
  | last, [], h => h
  | last, x :: r, _ => by rw [logLast]; exact logLast_len _ r (recSum_len _ _)
theorem recPre_len {u : Up} (h : u.may = 0) : (recPre u.body).length ≤ 65800 ∧ 2 ≤ (recPre u.body).length := by
  have hb := body_len h
  have h9 := uv_len9 (n := u.body.length) (by omega)
  have h0 := uv_len_pos u.body.length
  simp [recPre]
  omega
theorem logB_len : ∀ (last : List UInt8) (us : List Up), (∀ u ∈ us, u.may = 0) → (logB last us).length ≤ us.length * 66000
  | last, [], h => by simp [logB]
  | last, x :: r, h => by
    have h1 := recPre_len (h x (by simp))
    have h2 := logB_len (recSum last x.body) r fun u hu => h u (by simp [hu])
    simp [logB, recSum_len]
    omega
theorem logB_append : ∀ (last : List UInt8) (a b : List Up), logB last (a ++ b) = logB last a ++ logB (logLast last a) b
  | last, [], b => by simp [logB, logLast]
  | last, x :: r, b => by simp [logB, logLast, logB_append _ r b]
def Upo (us : List Up) : Prop := ∀ u ∈ us, u.may = 0 ∧ u.ownF = u
theorem Upo.take {us : List Up} (h : Upo us) (i : Nat) : Upo (us.take i) := fun u hu => h u (List.mem_of_mem_take hu)
theorem Upo.map {us : List Up} (h : Upo us) : us.map Up.ownF = us := by
  conv => rhs; rw [← List.map_id us]
  exact List.map_congr_left fun u hu => (h u hu).2
theorem logLast_append : ∀ (last : List UInt8) (a b : List Up), logLast last (a ++ b) = logLast (logLast last a) b
  | last, [], b => by simp [logLast]
  | last, x :: r, b => by simp [logLast, logLast_append _ r b]
def hLast (n k d s : Int) : List UInt8 := le4 (crc (headPre n.toNat k.toNat d.toNat s.toNat))
def hBs (n k d s : Int) : List UInt8 := headBs n.toNat k.toNat d.toNat s.toNat
theorem hLast_len (n k d s : Int) : (hLast n k d s).length = 4 := le4_len _
theorem hBs_len {n k d s : Int} (h : mayHeadV n k d s = 0) : (hBs n k d s).length ≤ 41 := by
  obtain ⟨h1, h2, h3, h4, h5, h6, h7⟩ := mayHead_ok h
  have := headPre_len (n := n.toNat) (k := k.toNat) (d := d.toNat) (s := s.toNat) (by omega) (by omega) (by omega) (by omega)
  simp [hBs, headBs, le4_len]
  omega
def badU : List Upd → Int
  | [] => 0
  | u :: r => if (Vc_up u).may ≠ 0 then (Vc_up u).may else badU r
theorem badU_take : ∀ (l : List Upd) (j : Nat) (h : j < l.length), (∀ u ∈ l.take j, (Vc_up u).may = 0) → (Vc_up l[j]).may ≠ 0 → badU l = (Vc_up l[j]).may
  | u :: r, 0, _, _, h2 => by simp only [badU, List.getElem_cons_zero] at h2 ⊢; rw [if_pos h2]
  | u :: r, j + 1, h, h1, h2 => by
    have e := h1 u (by simp)
    simp only [badU, List.getElem_cons_succ] at h2 ⊢
    rw [if_neg (by simp [e])]
    exact badU_take r j (by simpa using h) (fun v hv => h1 v (by simp [hv])) h2
theorem badU_ok : ∀ (l : List Upd), (∀ u ∈ l, (Vc_up u).may = 0) → badU l = 0
  | [], _ => rfl
  | u :: r, h => by rw [badU, if_neg (by simp [h u (by simp)])]; exact badU_ok r fun v hv => h v (by simp [hv])
theorem badU_zero : ∀ (l : List Upd), badU l = 0 → ∀ u ∈ l, (Vc_up u).may = 0
  | u :: r, h, v, hv => by
    rw [badU] at h
    by_cases h0 : (Vc_up u).may ≠ 0
    · rw [if_pos h0] at h; exact absurd h h0
    · rw [if_neg h0] at h
      rcases List.mem_cons.1 hv with rfl | hv
      · simpa using h0
      · exact badU_zero r h v hv
def UpsA (w0 : World) (A : Asn) (us : Slc) (l : List Upd) : Prop := ∀ w S, Fr [] w0 w → A.p w S → Ups w us l
section
variable {w0 w : World} {A F B : Asn} {us : Slc} {l : List Upd}
theorem UpsA.at_ (hU : UpsA w0 A us l) [h : Take A B F] (H : Hp w0 w B) : Ups w us l := by
  obtain ⟨f, S, _, S1, S2, _, _, ha, _⟩ := H.take A
  exact hU w S1 f ha
theorem rdU {j : Nat} (hj : j < l.length) (hU : Ups w us l) {Q : Addr → Int → ByteArray → Int → Int → Bool → Bool → Slc → Prop}
    (h : ∀ a, us.a = some a → Q a l[j].kind l[j].key l[j].cnt l[j].cli l[j].fin l[j].has l[j].data) :
    ∃ a37 : Addr, us.a = some a37 ∧ (0 : Int) ≤ (j : Int) ∧ ((j : Int) : Int) < us.l ∧ ∃ K41 : Int, w.cell? ((a37.add (Int.toNat (j : Int) * 7)).add 0) = some (.int .i64 K41) ∧ ∃ K43 : ByteArray, w.cell? ((a37.add (Int.toNat (j : Int) * 7)).add 1) = some (.string K43) ∧ ∃ C45 : Int, w.cell? ((a37.add (Int.toNat (j : Int) * 7)).add 2) = some (.int .i64 C45) ∧ ∃ C47 : Int, w.cell? ((a37.add (Int.toNat (j : Int) * 7)).add 3) = some (.int .i64 C47) ∧ ∃ F49 : Bool, w.cell? ((a37.add (Int.toNat (j : Int) * 7)).add 4) = some (.bool F49) ∧ ∃ H51 : Bool, w.cell? ((a37.add (Int.toNat (j : Int) * 7)).add 5) = some (.bool H51) ∧ ∃ D53 : Slc, w.cell? ((a37.add (Int.toNat (j : Int) * 7)).add 6) = some (Slc.v D53) ∧ Q a37 K41 K43 C45 C47 F49 H51 D53 := by
  obtain ⟨p, hp, hc⟩ := hU.get hj
  exact ⟨p, hp, by omega, by rw [hU.len]; omega, _, hc 0 _ rfl, _, hc 1 _ rfl, _, hc 2 _ rfl, _, hc 3 _ rfl, _, hc 4 _ rfl, _, hc 5 _ rfl, _, hc 6 _ rfl, h p hp⟩
theorem putU {u : Upd} (H : Hp w0 w A) {cs : Array Value} (hcs : cs.size = 7) {Q : Nat → World → Int → ByteArray → Int → Int → Bool → Bool → Slc → Prop}
    (h : ∀ b w', Hp w0 w' (star (bk b Ty_api_Update u.cells.toArray) A) → Q b w' u.kind u.key u.cnt u.cli u.fin u.has u.data) :
    New w cs Ty_api_Update fun b55 w56 => StoN (blk b55) 0 u.cells w56 fun w58 => ∃ K60 : Int, w58.cell? ((blk b55).add 0) = some (.int .i64 K60) ∧ ∃ K62 : ByteArray, w58.cell? ((blk b55).add 1) = some (.string K62) ∧ ∃ C64 : Int, w58.cell? ((blk b55).add 2) = some (.int .i64 C64) ∧ ∃ C66 : Int, w58.cell? ((blk b55).add 3) = some (.int .i64 C66) ∧ ∃ F68 : Bool, w58.cell? ((blk b55).add 4) = some (.bool F68) ∧ ∃ H70 : Bool, w58.cell? ((blk b55).add 5) = some (.bool H70) ∧ ∃ D72 : Slc, w58.cell? ((blk b55).add 6) = some (Slc.v D72) ∧ Q b55 w58 K60 K62 C64 C66 F68 H70 D72 := by
  refine H.new fun b w1 H => H.stoAll (b := b) (by rw [hcs]; rfl) fun w2 H => ?_
  exact ⟨_, H.cell (b := b) (i := 0) rfl, _, H.cell (b := b) (i := 1) rfl, _, H.cell (b := b) (i := 2) rfl, _, H.cell (b := b) (i := 3) rfl, _, H.cell (b := b) (i := 4) rfl, _, H.cell (b := b) (i := 5) rfl, _, H.cell (b := b) (i := 6) rfl, h b w2 H⟩
theorem wrj {j : Nat} (h : j < 9223372036854775807) : wr .i64 ((j : Int) + 1) = ((j + 1 : Nat) : Int) := by rw [wr64 (by omega) (by omega)]; rfl
theorem take_snoc {α : Type} {l : List α} {j : Nat} (h : j < l.length) : l.take (j + 1) = l.take j ++ [l[j]] := List.take_succ_eq_append_getElem h
theorem made_c {n k d s : Int} (hG : GT w0) (hU : UpsA w0 A us l) (hl : l.length ≤ 1048576) (H : Hp w0 w (star A F)) :
    Calls PP F_flog_made #[.agg #[.int .i64 n, .int .i64 k, .int .i64 d, .int .i64 s], us.v] w (Rt fun v w' =>
      (∃ e ev, e ≠ 0 ∧ e = (if mayHeadV n k d s ≠ 0 then mayHeadV n k d s else badU l) ∧ v = .tuple #[Slc.nil.v, .pointer none, ev] ∧ ErrV w' ev e ∧ Hp w0 w' (star A F)) ∨
      (mayHeadV n k d s = 0 ∧ badU l = 0 ∧ ∃ q z, v = .tuple #[Slc.v z, .pointer (some (blk q)), .nilIface] ∧
        Hp w0 w' (star (own Ty_uint8 1 z ((hBs n k d s ++ logB (hLast n k d s) (l.map Vc_up)).map u8v)) (star (PW q (logLast (hLast n k d s) (l.map Vc_up), (l.length : Int))) (star A F))))) := by
  refine sim_flog_made _ _ _ _ _ _ _ ?_
  unfold vc_flog_made
  have hGp := hG.pos
  refine H.new fun b0 w1 H => ?_
  have H := H.drop
  refine call (newH_c (hG.fr0 H.fr)) ?_
  rintro _ w2 (⟨h, rfl, f⟩ | ⟨hm, q, z, rfl, H2⟩)
  · refine ⟨none, _, _, rfl, fun _ => call where_c ?_, fun h' => absurd (by simpa using h') h⟩
    rintro ev w3 ⟨hE, f3⟩
    exact ⟨ev, rfl, Rt.ok (.inl ⟨_, ev, h, by rw [if_pos h], rfl, hE, (H.fr0 f).fr0 f3⟩)⟩
  have H := H.beside (H2.ent (Ent.star (Ent.refl _) Asn.emp_r'))
  refine ⟨_, _, _, rfl, fun h => absurd h (by decide), fun _ => ?_⟩
  have hbl := hBs_len hm
  refine ⟨fun d' i w' => ∃ j : Nat, i = (j : Int) ∧ j ≤ l.length ∧ (∀ u ∈ l.take j, (Vc_up u).may = 0) ∧ Hp w0 w' (star (own Ty_uint8 1 d' ((hBs n k d s ++ logB (hLast n k d s) ((l.take j).map Vc_up)).map u8v)) (star (PW q (logLast (hLast n k d s) ((l.take j).map Vc_up), (j : Int))) (star A F))), fun _ i _ => l.length - i.toNat, ⟨0, rfl, Nat.zero_le _, fun u hu => by simp at hu, ?_⟩, ?_⟩
  · have H := H.assoc
    have H := H.swap
    simpa [logB, logLast, hBs, hLast] using H
  rintro d' _ w3 ⟨j, rfl, hj, hok, H⟩
  have hUw := hU.at_ (A := A) H
  refine ⟨fun h => ?_, fun h => ?_⟩
  · have hlt : j < l.length := by rw [hUw.len] at h; simp at h; omega
    refine rdU hlt hUw fun a ha => ?_
    refine putU (u := l[j]) H rfl fun b w4 H => ?_
    have hd := (hU.at_ (A := A) H).dat _ (List.getElem_mem hlt)
    have H := H.take (PW q (logLast (hLast n k d s) ((l.take j).map Vc_up), (j : Int)))
    have hd2 := hd.1
    refine call (putH_c hG (Nat.lt_of_lt_of_le hGp (Nat.le_refl _)) (logLast_len _ _ (hLast_len _ _ _ _)) (by omega) hd2 H) ?_
    rintro _ w5 (⟨h0, rfl, H⟩ | ⟨h0, y, rfl, H⟩)
    · refine ⟨_, _, rfl, fun _ => call where_c ?_, fun h' => absurd (by simpa using h') h0⟩
      rintro ev w6 ⟨hE, f6⟩
      refine ⟨ev, rfl, Rt.ok (.inl ⟨_, ev, h0, ?_, rfl, hE, ?_⟩)⟩
      · rw [if_neg (by simpa using hm), badU_take l j hlt hok h0]; rfl
      · exact (H.fr0 f6).drop.drop.drop
    · refine ⟨_, _, rfl, fun h' => absurd h' (by decide), fun _ => ?_⟩
      have hmay : (Vc_up l[j]).may = 0 := h0
      have hok2 : ∀ u ∈ l.take (j + 1), (Vc_up u).may = 0 := fun u hu => by
        rw [take_snoc hlt] at hu
        rcases List.mem_append.1 hu with hu | hu
        · exact hok u hu
        · rw [List.mem_singleton.1 hu]; exact hmay
      have hokU : ∀ u ∈ (l.take j).map Vc_up, u.may = 0 := fun u hu => by obtain ⟨v, hv, rfl⟩ := List.mem_map.1 hu; exact hok v hv
      have hlen := logB_len (hLast n k d s) ((l.take j).map Vc_up) hokU
      rw [List.length_map, List.length_take_of_le hj] at hlen
      have hrl := recPre_len hmay
      have H := H.assoc
      have hy := H.cel (s := y)
      have hyl := hy.lenM
      have hdl := (H.cel (s := d')).lenM
      rw [List.length_append] at hyl hdl
      have h4 : (recSum (logLast (hLast n k d s) ((l.take j).map Vc_up)) (bodyBs l[j].kind.toNat l[j].key l[j].cnt.toNat l[j].cli.toNat l[j].fin l[j].has l[j].ds)).length = 4 := le4_len _
      have h5 : (recPre (bodyBs l[j].kind.toNat l[j].key l[j].cnt.toNat l[j].cli.toNat l[j].fin l[j].has l[j].ds)).length ≤ 65800 := hrl.1
      have hjm : j * 66000 ≤ 1048576 * 66000 := Nat.mul_le_mul (by omega) (Nat.le_refl _)
      refine Hp.app slT_sl_uint8 (H.own d') hy (one_u8 _) (by unfold maxLen; omega) (by omega) fun d2 w6 H _ => ⟨⟨j + 1, wrj (j := j) (by omega), hlt, hok2, ?_⟩, ?_⟩
      · have H := (H.blk b).drop
        have H := (H.own y).drop
        have H := H.own d2
        have e1 : (l.take (j + 1)).map Vc_up = (l.take j).map Vc_up ++ [Vc_up l[j]] := by rw [take_snoc hlt, List.map_append]; rfl
        have e2 : ∀ X Y Z : List UInt8, (X ++ (Y ++ Z)).map u8v = (X ++ Y).map u8v ++ Z.map u8v := fun X Y Z => by simp
        rw [e1, logB_snoc, logLast_snoc, e2]
        exact H
      · rw [wrj (j := j) (by omega)]; dsimp only; omega
  · have hje : j = l.length := by rw [hUw.len] at h; simp at h; omega
    subst hje
    rw [List.take_length] at H hok
    exact Rt.ok (.inr ⟨hm, badU_ok l hok, q, d', rfl, H⟩)
end
end Go.Proofs.YtflcdgkckfcofaaGreatDoor
