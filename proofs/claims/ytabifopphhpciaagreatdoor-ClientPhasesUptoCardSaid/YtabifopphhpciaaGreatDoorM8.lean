/-
  A client is made; an operation begins; what a tick asks.
-/
import Derived.Test.YtabifopphhpciaaGreatDoorM7
import Derived.Test.YtabifopphhpciaaGreatDoorM6
import Derived.ArgAppend
import Derived.Deep.Upon
import Derived.Laws.Append
import Derived.Lib.ConvBytes
namespace Go.Proofs.YtabifopphhpciaaGreatDoor
open Go Go.Vc Go.Vc.Asn Go.Gf
section
variable {w0 w : World} {F Cd : Asn} {p o g n k : Nat} {x : Cl} {y : Opn} {s sc v : Slc} {rs : Rws} {t : Tg} {bs : List UInt8} {key : ByteArray} {b : Bool}
theorem bclone_c (hB : Byt w s bs) (hl : bs.length ≤ 1099511627776) : Calls PP F_bytes_Clone #[s.v] w (Rt fun v w' => ∃ o, v = o.v ∧ Hp w w' (star (own Ty_uint8 1 o (bs.map u8v)) emp)) := by
  refine sim_bytes_Clone _ _ _ ?_
  unfold vc_bytes_Clone
  refine ⟨fun h => Rt.ok ⟨_, rfl, ?_⟩, fun h => ?_⟩
  · have : bs = [] := by
      cases bs with
      | nil => rfl
      | cons b r =>
        obtain ⟨p, hp, _⟩ := hB.get (i := 0) (by simp)
        rw [hp] at h; simp at h
    subst this
    exact (Hp.start w).nilRow Ty_uint8 1
  · refine (Hp.start w).newRow (n := 0) (size := 1) [] rfl rfl (by unfold maxLen; omega) fun b w1 H => ?_
    have hsl := hB.len
    refine Hp.app (s := ⟨some (blk b), 0, 0⟩) slT_sl_uint8 H (hB.fr0 H.fr) (one_u8 _) (by unfold maxLen; simp only; omega) (by simp only; omega) fun o w2 H _ => Rt.ok ⟨o, rfl, ?_⟩
    exact H
theorem begin_c {Vp : Asn} (hC : ∀ {w' : World} {A' : Asn}, Hp w0 w' (star Cd A') → RdCode w' x.cd g sc rs n k) (hV : ∀ {w' : World} {A' : Asn}, Hp w0 w' (star Vp A') → Byt w' v bs) (hc : x.cfg.Ok) (hn : x.cfg.N = (n : Int)) (hn2 : n ≤ 255) (hnow : x.now = none) (h0 : 0 ≤ x.ops) (h1 : x.ops < 4611686018427387903) (hk : 1 ≤ key.size) (hk2 : key.size ≤ 64) (hb : bs.length ≤ 65536)
    (H : Hp w0 w (star (cliA p x) (star Vp (star Cd F)))) :
    Calls PP F_client_Client_begin #[.pointer (some (blk p)), .bool b, .string key, v.v] w (Rt fun z w' => ∃ o val ph r ms, z = .tuple #[.int .i64 (x.ops + 1), Slc.v r, .int .i64 0] ∧ ms.map Ms.abs = (allOf n).map (reqOf x.id ⟨x.ops + 1, b, key, val, bs, .ask, Tg.zero, ph⟩ (partOf rs bs k)) ∧
      Hp w0 w' (star (msgsA r ms) (star (cliA p { x with ops := x.ops + 1, now := some o }) (star (opnA o ⟨x.ops + 1, b, key, val, bs, .ask, Tg.zero, ph⟩) (star (phA ph (x.cfg, [])) (star Cd (star Vp F))))))) := by
  obtain ⟨gm, H⟩ := cl_open H
  refine sim_client_Client_begin _ _ _ _ _ _ ?_
  unfold vc_client_Client_begin
  have hvl := (hV (H.take Vp)).len
  refine ⟨_, rfl, _, H.cell (b := p) (i := 7) rfl, fun h => by simp [hnow] at h, fun _ => ⟨fun h => ?_, fun _ => ⟨fun h => ?_, fun _ => ⟨_, H.cell (b := p) (i := 5) rfl, fun h => ?_, fun _ => ⟨_, H.cell (b := p) (i := 5) rfl, ?_⟩⟩⟩⟩⟩
  · simp at h; omega
  · simp at h; omega
  · simp at h; omega
  rw [wr64 (n := x.ops + 1) (by omega) (by omega)]
  refine H.sto (b := p) (i := 5) (by simp) fun w1 H => ?_
  have H := H.drew 1
  refine ⟨_, H.cell (b := p) (i := 5) rfl, call (bclone_c (hV (H.take Vp)) (by omega)) ?_⟩
  rintro _ w2 ⟨val, rfl, J⟩
  have H := H.join J
  refine ⟨_, rfl, H.cell (b := p) (i := 5) rfl, H.new fun o w3 H => H.sto (b := p) (i := 7) (by simp) fun w4 H => ?_⟩
  have H := H.drew 1
  refine ⟨_, H.cell (b := p) (i := 5) rfl, ?_⟩
  have H := H.take Cd
  have H : Hp w0 _ (star (opnR o ⟨x.ops + 1, b, key, val, bs, .ask, Tg.zero, 0⟩ .nilIface (.pointer none)) _) := ((H.own val).blk o).assoc'
  have H := cl_close (x := { x with ops := x.ops + 1, now := some o }) ((H.take (mp sK iK gm x.used)).blk p)
  refine call (enter_c (x := { x with ops := x.ops + 1, now := some o }) (y := ⟨x.ops + 1, b, key, val, bs, .ask, Tg.zero, 0⟩) (st := .ask) (t := Tg.zero) hC hc hn hn2 hb rfl H) ?_
  rintro _ w5 ⟨ph, r, ms, rfl, hms, H⟩
  obtain ⟨gm2, H2⟩ := cl_open (H.take (cliA p { x with ops := x.ops + 1, now := some o }))
  exact ⟨_, rfl, H2.cell (b := p) (i := 5) rfl, Rt.ok ⟨o, val, ph, r, ms, rfl, hms, H⟩⟩
theorem put_c {Vp : Asn} (hC : ∀ {w' : World} {A' : Asn}, Hp w0 w' (star Cd A') → RdCode w' x.cd g sc rs n k) (hV : ∀ {w' : World} {A' : Asn}, Hp w0 w' (star Vp A') → Byt w' v bs) (hc : x.cfg.Ok) (hn : x.cfg.N = (n : Int)) (hn2 : n ≤ 255) (hnow : x.now = none) (h0 : 0 ≤ x.ops) (h1 : x.ops < 4611686018427387903) (hk : 1 ≤ key.size) (hk2 : key.size ≤ 64) (hb : bs.length ≤ 65536)
    (H : Hp w0 w (star (cliA p x) (star Vp (star Cd F)))) :
    Calls PP F_client_Client_Put #[.pointer (some (blk p)), .string key, v.v] w (Rt fun z w' => ∃ o val ph r ms, z = .tuple #[.int .i64 (x.ops + 1), Slc.v r, .int .i64 0] ∧ ms.map Ms.abs = (allOf n).map (reqOf x.id ⟨x.ops + 1, true, key, val, bs, .ask, Tg.zero, ph⟩ (partOf rs bs k)) ∧
      Hp w0 w' (star (msgsA r ms) (star (cliA p { x with ops := x.ops + 1, now := some o }) (star (opnA o ⟨x.ops + 1, true, key, val, bs, .ask, Tg.zero, ph⟩) (star (phA ph (x.cfg, [])) (star Cd (star Vp F))))))) := by
  refine sim_client_Client_Put _ _ _ _ _ ?_
  unfold vc_client_Client_Put
  refine ⟨fun h => by simp at h, fun _ => call (begin_c hC hV hc hn hn2 hnow h0 h1 hk hk2 hb H) ?_⟩
  rintro _ w1 ⟨o, val, ph, r, ms, rfl, hms, H⟩
  exact ⟨_, _, _, rfl, Rt.ok ⟨o, val, ph, r, ms, rfl, hms, H⟩⟩
theorem putBad_c (hnow : x.now = none) (hk : key.size < 1 ∨ 64 < key.size) (H : Hp w0 w (star (cliA p x) F)) :
    Calls PP F_client_Client_Put #[.pointer (some (blk p)), .string key, v.v] w (Rt fun z w' => z = .tuple #[.int .i64 0, Slc.v Slc.nil, .int .i64 74] ∧ w' = w) := by
  obtain ⟨gm, H⟩ := cl_open H
  refine sim_client_Client_Put _ _ _ _ _ ?_
  unfold vc_client_Client_Put
  refine ⟨fun h => by simp at h, fun _ => call (Post := fun z w' => z = .tuple #[.int .i64 0, Slc.v Slc.nil, .int .i64 74] ∧ w' = w) ?_ ?_⟩
  · refine sim_client_Client_begin _ _ _ _ _ _ ?_
    unfold vc_client_Client_begin
    refine ⟨_, rfl, _, H.cell (b := p) (i := 7) rfl, fun h => by simp [hnow] at h, fun _ => ⟨fun h => Rt.ok ⟨rfl, rfl⟩, fun h => ?_⟩⟩
    simp at h; omega
  · rintro _ w1 ⟨rfl, rfl⟩
    exact ⟨_, _, _, rfl, Rt.ok ⟨rfl, rfl⟩⟩
theorem tick_c {c : Cfg} {L : List (Int × Rp)} (hC : ∀ {w' : World} {A' : Asn}, Hp w0 w' (star Cd A') → RdCode w' x.cd g sc rs n k) (hn : c.N = (n : Int)) (hn2 : n ≤ 255) (hb : y.bs.length ≤ 65536) (hnow : x.now = some o) (hr : y.stg ≠ .read)
    (H : Hp w0 w (star (cliA p x) (star (opnA o y) (star (phA y.ph (c, L)) (star Cd F))))) :
    Calls PP F_client_Client_Tick #[.pointer (some (blk p))] w (Rt fun v w' => ∃ r ms, v = Slc.v r ∧ ms.map Ms.abs = (missing L n).map (reqOf x.id y (partOf rs y.bs k)) ∧ Hp w0 w' (star (msgsA r ms) (star (cliA p x) (star (opnA o y) (star (phA y.ph (c, L)) (star Cd F)))))) := by
  have H0 := H
  obtain ⟨gm, H⟩ := cl_open H
  have H := op_open (H.take (opnA o y))
  rw [hnow, Option.map_some] at H
  refine sim_client_Client_Tick _ _ _ ?_
  unfold vc_client_Client_Tick
  refine ⟨false, fun _ => ⟨_, rfl, _, H.cell (b := p) (i := 7) rfl, rfl⟩, fun h => by simp at h, fun h => by simp at h, fun _ => ⟨_, rfl, _, H.cell (b := p) (i := 7) rfl, _, rfl, _, H.cell (b := o) (i := 7) rfl, ?_⟩⟩
  refine call (pmissing_c hn hn2 (H0.take (phA y.ph (c, L)))) ?_
  rintro _ w1 ⟨sM, rfl, J⟩
  have f1 := J.fr
  refine ⟨_, rfl, J.new fun b25 w2 J => J.sto (b := b25) (i := 0) (by simp) fun w3 J => ?_⟩
  have H := H.fr0 J.fr
  refine ⟨fun w' => Hp w w' (star (bk b25 Ty_sl_int #[sM.v]) (star (own Ty_int 1 sM ((missing L n).map iK)) emp)), ⟨_, H.cell (b := p) (i := 7) rfl, _, rfl, _, H.cell (b := o) (i := 4) rfl, tasR ⟨_, rfl, J.new fun b53 w4 J => ?_⟩⟩, ?_⟩
  · refine (show StoN (blk b53) 0 [] w4 _ from ?_)
    refine ⟨fun h => absurd (of_decide_eq_true h) hr, fun _ => ?_⟩
    exact (J.blk b53).drop
  · rintro w4 J
    have H := H0.fr0 J.fr
    refine ⟨_, J.cell (b := b25) (i := 0) rfl, call (requests_c (hC (H.take Cd)) (fun i hi => missing_in i hi) hb (Nat.le_trans missing_len hn2) hnow (J.cel (s := sM)) H) ?_⟩
    rintro _ w5 ⟨r, ms, rfl, hms, J2⟩
    exact ⟨_, rfl, Rt.ok ⟨r, ms, rfl, hms, H.join J2⟩⟩
end
end Go.Proofs.YtabifopphhpciaaGreatDoor

namespace Go.Vc
def badB (x : Cl) (y : Opn) (m : Ms) : Bool := (((decide (m.cl ≠ x.id) || decide (m.op ≠ y.op)) || decide (m.key.toList ≠ y.key.toList)) || decide (m.sv < 0)) || decide (x.cfg.N ≤ m.sv)
def goodB (y : Opn) (m : Ms) : Bool :=
  match y.stg with
  | .ask => decide (m.k = 2) && m.top.valid
  | .write => decide (m.k = 4) && (decide (m.tag.n = y.tag.n) && decide (m.tag.c = y.tag.c))
  | .fin => decide (m.k = 6) && (decide (m.tag.n = y.tag.n) && decide (m.tag.c = y.tag.c))
  | .read => decide (m.k = 8) && ((decide (m.tag.n = y.tag.n) && decide (m.tag.c = y.tag.c)) && m.top.valid)
def countsB (x : Cl) (y : Opn) (m : Ms) : Bool := !badB x y m && goodB y m
end Go.Vc
namespace Go.Proofs.YtabifopphhpciaaGreatDoor
open Go Go.Vc Go.Vc.Asn Go.Gf
section
variable {w0 w : World} {F Cd : Asn} {p o g n k : Nat} {x : Cl} {y : Opn} {m : Ms} {sc : Slc} {rs : Rws} {t : Tg}
theorem counts_c (hnow : x.now = some o) (H : Hp w0 w (star (cliA p x) (star (opnA o y) F))) :
    Calls PP F_client_Client_counts #[.pointer (some (blk p)), .agg m.c.toArray] w (Rt fun v w' => v = .bool (countsB x y m) ∧ Fr [] w w') := by
  obtain ⟨gm, H⟩ := cl_open H
  have H0 := op_open (H.take (opnA o y))
  rw [hnow, Option.map_some] at H0
  clear H
  refine sim_client_Client_counts _ _ _ _ _ _ _ _ _ _ _ _ _ _ ?_
  unfold vc_client_Client_counts
  refine nw fun b w1 J f1 => ?_
  have H := H0.fr0 f1
  refine ⟨_, rfl, _, H.cell (b := p) (i := 7) rfl, decide (m.cl ≠ x.id), fun _ => ⟨_, H.cell (b := p) (i := 3) rfl, rfl⟩, fun h => by simp at h, decide (m.cl ≠ x.id) || decide (m.op ≠ y.op), fun h => ⟨_, rfl, _, H.cell (b := o) (i := 0) rfl, by rw [h, Bool.false_or]⟩, fun h => by rw [h, Bool.true_or], (decide (m.cl ≠ x.id) || decide (m.op ≠ y.op)) || decide (m.key.toList ≠ y.key.toList), fun h => ⟨_, rfl, _, H.cell (b := o) (i := 2) rfl, by rw [h, Bool.false_or]⟩, fun h => by rw [h, Bool.true_or], badB x y m, fun h => ⟨_, H.cell2 (b := p) (i := 0) (j := 0) rfl, by unfold badB; rw [h, Bool.false_or]⟩, fun h => by unfold badB; rw [h, Bool.true_or], fun q => ?_⟩
  have H := H.drew q
  have J := J.drew q
  refine ⟨fun hb => Rt.ok ⟨by unfold countsB; rw [hb]; rfl, J.fr⟩, fun hb => ⟨_, rfl, _, H.cell (b := o) (i := 4) rfl, ?_⟩⟩
  have ec : countsB x y m = goodB y m := by unfold countsB; rw [hb]; rfl
  rw [ec]
  refine tasA ⟨_, rfl, fun hA => ?_, fun hA => tasW ⟨_, rfl, fun hW => ?_, fun hW => tasF ⟨_, rfl, fun hF => ?_, fun hF => tasR ⟨_, rfl, fun hR => ?_, fun hR => ?_⟩⟩⟩⟩
  · have hA : y.stg = .ask := of_decide_eq_true hA
    have eg : goodB y m = (decide (m.k = 2) && m.top.valid) := by unfold goodB; rw [hA]
    refine ⟨fun b w' => b = goodB y m ∧ Fr [] w w', ⟨fun h => call (valid_c (t := m.top)) ?_, fun h => ⟨by rw [eg, h, Bool.false_and], J.fr⟩⟩, ?_⟩
    · rintro _ w2 ⟨rfl, f2⟩
      exact ⟨_, rfl, by rw [eg, h, Bool.true_and], J.fr.then_ f2⟩
    · rintro _ w2 ⟨rfl, f2⟩
      exact Rt.ok ⟨rfl, f2⟩
  · have hW : y.stg = .write := of_decide_eq_true hW
    have eg : goodB y m = (decide (m.k = 4) && (decide (m.tag.n = y.tag.n) && decide (m.tag.c = y.tag.c))) := by unfold goodB; rw [hW]
    exact ⟨goodB y m, fun h => ⟨_, H.cell2 (b := o) (i := 5) (j := 0) rfl, _, H.cell2 (b := o) (i := 5) (j := 1) rfl, by rw [eg, h, Bool.true_and]⟩, fun h => by rw [eg, h, Bool.false_and], fun q => Rt.ok ⟨rfl, (J.drew q).fr⟩⟩
  · have hF : y.stg = .fin := of_decide_eq_true hF
    have eg : goodB y m = (decide (m.k = 6) && (decide (m.tag.n = y.tag.n) && decide (m.tag.c = y.tag.c))) := by unfold goodB; rw [hF]
    exact ⟨goodB y m, fun h => ⟨_, H.cell2 (b := o) (i := 5) (j := 0) rfl, _, H.cell2 (b := o) (i := 5) (j := 1) rfl, by rw [eg, h, Bool.true_and]⟩, fun h => by rw [eg, h, Bool.false_and], fun q => Rt.ok ⟨rfl, (J.drew q).fr⟩⟩
  · have hR : y.stg = .read := of_decide_eq_true hR
    have eg : goodB y m = (decide (m.k = 8) && ((decide (m.tag.n = y.tag.n) && decide (m.tag.c = y.tag.c)) && m.top.valid)) := by unfold goodB; rw [hR]
    have J := J.drew 1
    have H := H.drew 1
    refine ⟨fun b w' => b = goodB y m ∧ Fr [] w w', ⟨_, J.cell (b := b) (i := 0) rfl, fun h => ⟨_, J.cell2 (b := b) (i := 5) (j := 0) rfl, _, J.cell2 (b := b) (i := 5) (j := 1) rfl, _, H.cell2 (b := o) (i := 5) (j := 0) rfl, _, H.cell2 (b := o) (i := 5) (j := 1) rfl, fun h2 => ⟨_, J.cell2 (b := b) (i := 7) (j := 0) rfl, _, J.cell2 (b := b) (i := 7) (j := 1) rfl, call (valid_c (t := m.top)) ?_⟩, fun h2 => ⟨by rw [eg, h2, Bool.false_and, Bool.and_false], J.fr⟩⟩, fun h => ⟨by rw [eg, h, Bool.false_and], J.fr⟩⟩, ?_⟩
    · rintro _ w2 ⟨rfl, f2⟩
      exact ⟨_, rfl, by rw [eg, h, h2, Bool.true_and, Bool.true_and], J.fr.then_ f2⟩
    · rintro _ w2 ⟨rfl, f2⟩
      exact Rt.ok ⟨rfl, f2⟩
  · cases hy : y.stg <;> simp [hy] at hA hW hF hR
end
end Go.Proofs.YtabifopphhpciaaGreatDoor

namespace Go.Proofs.YtabifopphhpciaaGreatDoor
open Go Go.Vc Go.Vc.Asn Go.Gf
def usedOf (x : Cl) (k : ByteArray) : Int := (llook x.used k).getD 0
def Rs.no : Rs := ⟨0, false, 0, Tg.zero, Slc.nil⟩
theorem und_maps : PP.underlying Ty_map_string_int64 = some (.map Ty_string Ty_int64) := by kernel_rfl
theorem keyT_s : KeyT PP Ty_string sK := keyT_str (by kernel_rfl)
theorem zero_i64 (w : World) : (zeroValue Ty_int64).run PP w = .ok (.int .i64 0) w := run_zero (by unfold zeroB; kernel_rfl)
theorem used_v (x : Cl) (k : ByteArray) : ((llook x.used k).map iK).getD (.int .i64 0) = .int .i64 (usedOf x k) := by
  unfold usedOf
  cases llook x.used k <;> rfl
abbrev chA (p o b5 b8 gm : Nat) (x : Cl) (y : Opn) (t : Tg) (F : Asn) : Asn :=
  star (bk b8 Ty_api_Result #[.int .i64 0, .bool false, .int .i64 0, .int .i64 0, .int .i64 0, Slc.nil.v]) (star (bk b5 Ty_api_Tag #[.int .i64 t.n, .int .i64 t.c])
    (star (bk o Ty_client_operation #[.int .i64 y.op, .bool y.put, .string y.key, y.val.v, stgV y.stg, .int .i64 y.tag.n, .int .i64 y.tag.c, .pointer (some (blk y.ph))]) (star (own Ty_uint8 1 y.val (y.bs.map u8v))
      (star (bk p Ty_client_Client #[.int .i64 x.cfg.N, .int .i64 x.cfg.K, .int .i64 x.cfg.D, .int .i64 x.id, .pointer (some (blk x.cd)), .int .i64 x.ops, .map (some gm), .pointer (some (blk o))]) (star (mp sK iK gm x.used) F)))))
def chB (o3 : Option Nat) (o4 : Option Unit) (u : Tg) (A : Asn) : Asn :=
  match o3, o4 with
  | none, _ => A
  | some b, none => star (bk b Ty_api_Tag #[.int .i64 0, .int .i64 0]) A
  | some b, some _ => star (bk b Ty_api_Tag #[.int .i64 u.n, .int .i64 u.c]) A
section
variable {w0 w : World} {F Cd : Asn} {p o g n k : Nat} {x : Cl} {y : Opn} {sc : Slc} {rs : Rws} {t : Tg}
theorem chosenPut_c (hC : ∀ {w' : World} {A' : Asn}, Hp w0 w' (star Cd A') → RdCode w' x.cd g sc rs n k) (hc : x.cfg.Ok) (hn : x.cfg.N = (n : Int)) (hn2 : n ≤ 255) (hb : y.bs.length ≤ 65536) (hnow : x.now = some o)
    (hput : y.put = true) (hv : t.valid = true) (hu : 0 ≤ usedOf x y.key) (hu2 : usedOf x y.key ≤ 4611686018427387903) (hi : 1 ≤ x.id) (hi2 : x.id ≤ 65535) (hm : (t.next (usedOf x y.key) x.id).n ≤ 4611686018427387903)
    (H : Hp w0 w (star (cliA p x) (star (opnA o y) (star Cd F)))) :
    Calls PP F_client_Client_chosen #[.pointer (some (blk p)), t.v] w (Rt fun v w' => ∃ ph r ms, v = .tuple #[Slc.v r, Rs.no.v, .bool false] ∧ ms.map Ms.abs = (allOf n).map (reqOf x.id { y with stg := .write, tag := t.next (usedOf x y.key) x.id, ph := ph } (partOf rs y.bs k)) ∧
      Hp w0 w' (star (msgsA r ms) (star (cliA p { x with used := lput x.used y.key (t.next (usedOf x y.key) x.id).n }) (star (opnA o { y with stg := .write, tag := t.next (usedOf x y.key) x.id, ph := ph }) (star (phA ph (x.cfg, [])) (star Cd F)))))) := by
  obtain ⟨gm, H⟩ := cl_open H
  have H := op_open (H.take (opnA o y))
  rw [hnow, Option.map_some] at H
  refine sim_client_Client_chosen _ _ _ _ _ ?_
  unfold vc_client_Client_chosen
  refine H.new fun b5 w1 H => H.new fun b8 w2 H => ⟨_, rfl, _, H.cell (b := p) (i := 7) rfl, _, rfl, _, H.cell (b := o) (i := 1) rfl, fun h => by rw [hput] at h; simp at h, fun _ => ?_⟩
  have H := H.drew 1
  generalize hnt : t.next (usedOf x y.key) x.id = nt at *
  have H : Hp w0 (w2.drewN 1) (chA p o b5 b8 gm x y t (star Cd F)) := H
  refine ⟨t.n, t.c, some gm, y.key, x.id, fun o1 o2 o3 o4 w' => (o1 = none ∨ o1 = some (usedOf x y.key)) ∧ (o2 = none ∨ (o1 = some (usedOf x y.key) ∧ o2 = some (nt.n, nt.c, 0))) ∧ Hp w0 w' (chB o3 o4 nt (chA p o b5 b8 gm x y t (star Cd F))), ⟨.inl rfl, .inl rfl, H⟩, ?_, ?_, ?_, ?_, ?_, ?_, ?_, ?_, ?_⟩
  · rintro o1 (_ | b) w3 ⟨_, _, H⟩
    · have H : Hp w0 w3 (chA p o b5 b8 gm x y t (star Cd F)) := H
      exact ⟨H.cell (b := b5) (i := 0) rfl, H.cell (b := b5) (i := 1) rfl⟩
    · have H : Hp w0 w3 (star (bk b Ty_api_Tag #[.int .i64 0, .int .i64 0]) (chA p o b5 b8 gm x y t (star Cd F))) := H
      exact ⟨H.cell (b := b5) (i := 0) rfl, H.cell (b := b5) (i := 1) rfl⟩
  · rintro (_ | b) w3 ⟨_, _, H⟩
    · have H : Hp w0 w3 (chA p o b5 b8 gm x y t (star Cd F)) := H
      exact H.cell (b := p) (i := 6) rfl
    · have H : Hp w0 w3 (star (bk b Ty_api_Tag #[.int .i64 0, .int .i64 0]) (chA p o b5 b8 gm x y t (star Cd F))) := H
      exact H.cell (b := p) (i := 6) rfl
  · rintro (_ | b) w3 ⟨_, _, H⟩
    · have H : Hp w0 w3 (chA p o b5 b8 gm x y t (star Cd F)) := H
      exact H.cell (b := o) (i := 2) rfl
    · have H : Hp w0 w3 (star (bk b Ty_api_Tag #[.int .i64 0, .int .i64 0]) (chA p o b5 b8 gm x y t (star Cd F))) := H
      exact H.cell (b := o) (i := 2) rfl
  · rintro o1 (_ | b) w3 ⟨_, _, H⟩
    · have H : Hp w0 w3 (chA p o b5 b8 gm x y t (star Cd F)) := H
      exact H.cell (b := p) (i := 3) rfl
    · have H : Hp w0 w3 (star (bk b Ty_api_Tag #[.int .i64 0, .int .i64 0]) (chA p o b5 b8 gm x y t (star Cd F))) := H
      exact H.cell (b := p) (i := 3) rfl
  · rintro (_ | b) w3 ⟨_, _, H⟩
    · have H' : Hp w0 w3 (chA p o b5 b8 gm x y t (star Cd F)) := H
      refine Hp.lkp (g := gm) (ev := iK) H' keyT_s und_maps (zero_i64 _) ?_
      simp only [Bool.false_eq_true, if_false]
      rw [used_v]
      exact ⟨_, rfl, .inr rfl, .inl trivial, H⟩
    · have H' : Hp w0 w3 (star (bk b Ty_api_Tag #[.int .i64 0, .int .i64 0]) (chA p o b5 b8 gm x y t (star Cd F))) := H
      refine Hp.lkp (g := gm) (ev := iK) H' keyT_s und_maps (zero_i64 _) ?_
      simp only [Bool.false_eq_true, if_false]
      rw [used_v]
      exact ⟨_, rfl, .inr rfl, .inl trivial, H⟩
  · rintro m o3 w3 ⟨h1, _, H⟩
    obtain rfl : m = usedOf x y.key := by simpa using h1
    refine call (tnext_c (t := t) hv hu hu2 hi hi2) ?_
    rintro _ w4 ⟨hw, f4⟩
    rw [hnt, if_neg (by omega)] at hw
    exact ⟨_, _, _, hw, .inr rfl, .inr ⟨rfl, rfl⟩, H.fr0 f4⟩
  · rintro o1 o2 w3 ⟨h1, h2, H⟩
    have H : Hp w0 w3 (chA p o b5 b8 gm x y t (star Cd F)) := H
    exact H.new fun b w4 H => ⟨h1, h2, H⟩
  · rintro m C118 C119 N120 b w3 ⟨h1, h2, H⟩
    have H : Hp w0 w3 (star (bk b Ty_api_Tag #[.int .i64 0, .int .i64 0]) (chA p o b5 b8 gm x y t (star Cd F))) := H
    obtain ⟨rfl, rfl, rfl⟩ : C118 = nt.n ∧ C119 = nt.c ∧ N120 = 0 := by
      rcases h2 with h2 | ⟨_, h2⟩
      · simp at h2
      · simpa using h2
    exact H.stoAll (b := b) (by rfl) fun w4 H => ⟨h1, h2, H⟩
  · rintro m C118 C119 N120 b w3 ⟨h1, h2, H⟩
    have H : Hp w0 w3 (star (bk b Ty_api_Tag #[.int .i64 nt.n, .int .i64 nt.c]) (chA p o b5 b8 gm x y t (star Cd F))) := H
    obtain ⟨rfl, rfl, rfl⟩ : C118 = nt.n ∧ C119 = nt.c ∧ N120 = 0 := by
      rcases h2 with h2 | ⟨_, h2⟩
      · simp at h2
      · simpa using h2
    refine ⟨fun h => absurd h (by decide), fun _ => ?_⟩
    have H := H.drew 1
    refine ⟨_, H.cell (b := p) (i := 6) rfl, _, H.cell (b := o) (i := 2) rfl, _, H.cell (b := b) (i := 0) rfl, Hp.mup (g := gm) (ev := iK) (v := nt.n) H keyT_s und_maps fun w4 H => ?_⟩
    refine ⟨_, H.cell (b := b) (i := 0) rfl, _, H.cell (b := b) (i := 1) rfl, ?_⟩
    have H := ((H.blk b).drop.blk b5).drop
    have H := H.take Cd
    have H : Hp w0 w4 (star (opnR o y (stgV y.stg) (.pointer (some (blk y.ph)))) _) := ((H.own y.val).blk o).assoc'
    have H := cl_close (x := { x with used := lput x.used y.key nt.n }) (((H.take (mp sK iK gm (lput x.used y.key nt.n))).blk p).ent (by rw [hnow]; exact Ent.refl _))
    refine call (enter_c (x := { x with used := lput x.used y.key nt.n }) (y := y) (st := .write) (t := nt) hC hc hn hn2 hb hnow H) ?_
    rintro _ w5 ⟨ph, r, ms, rfl, hms, H⟩
    refine ⟨_, rfl, H.stoAll (b := b8) (by rfl) fun w6 H => ⟨_, H.cell (b := b8) (i := 0) rfl, _, H.cell (b := b8) (i := 1) rfl, _, H.cell (b := b8) (i := 2) rfl, _, H.cell (b := b8) (i := 3) rfl, _, H.cell (b := b8) (i := 4) rfl, _, H.cell (b := b8) (i := 5) rfl, Rt.ok ⟨ph, r, ms, rfl, hms, (H.blk b8).drop⟩⟩⟩
end
end Go.Proofs.YtabifopphhpciaaGreatDoor

namespace Go.Proofs.YtabifopphhpciaaGreatDoor
open Go Go.Vc Go.Vc.Asn Go.Gf
section
variable {w0 w : World} {A F Cd : Asn} {p o g n k : Nat} {x : Cl} {y : Opn} {sc : Slc} {rs : Rws} {t : Tg} {c : Cfg} {L : List (Int × Rp)}
theorem rd_now [h : Take (cliA p x) A F] (H : Hp w0 w A) (hnow : x.now = some o) : w.cell? ((blk p).add 7) = some (.pointer (some (blk o))) := by
  obtain ⟨gm, H⟩ := cl_open (H.take (cliA p x))
  have := H.cell (b := p) (i := 7) rfl
  rw [this, hnow]
  rfl
theorem rd_stg [h : Take (opnA o y) A F] (H : Hp w0 w A) : w.cell? ((blk o).add 4) = some (stgV y.stg) := (op_open (H.take (opnA o y))).cell (b := o) (i := 4) rfl
theorem rd_tagn [h : Take (opnA o y) A F] (H : Hp w0 w A) : w.cell? (((blk o).add 5).add 0) = some (.int .i64 y.tag.n) := (op_open (H.take (opnA o y))).cell2 (b := o) (i := 5) (j := 0) rfl
theorem rd_tagc [h : Take (opnA o y) A F] (H : Hp w0 w A) : w.cell? (((blk o).add 5).add 1) = some (.int .i64 y.tag.c) := (op_open (H.take (opnA o y))).cell2 (b := o) (i := 5) (j := 1) rfl
theorem rd_ph [h : Take (opnA o y) A F] (H : Hp w0 w A) : w.cell? ((blk o).add 7) = some (.pointer (some (blk y.ph))) := (op_open (H.take (opnA o y))).cell (b := o) (i := 7) rfl
theorem metAsk_c (hC : ∀ {w' : World} {A' : Asn}, Hp w0 w' (star Cd A') → RdCode w' x.cd g sc rs n k) (hc : x.cfg.Ok) (hn : x.cfg.N = (n : Int)) (hn2 : n ≤ 255) (hb : y.bs.length ≤ 65536) (hnow : x.now = some o) (hs : y.stg = .ask) (hL : L.length ≤ 255) (ht : topOf L L.length = t)
    (hput : y.put = true) (hv : t.valid = true) (hu : 0 ≤ usedOf x y.key) (hu2 : usedOf x y.key ≤ 4611686018427387903) (hi : 1 ≤ x.id) (hi2 : x.id ≤ 65535) (hm : (t.next (usedOf x y.key) x.id).n ≤ 4611686018427387903)
    (H : Hp w0 w (star (cliA p x) (star (opnA o y) (star (phA y.ph (c, L)) (star Cd F))))) :
    Calls PP F_client_Client_met #[.pointer (some (blk p))] w (Rt fun v w' => ∃ ph r ms, v = .tuple #[Slc.v r, Rs.no.v, .bool false] ∧ ms.map Ms.abs = (allOf n).map (reqOf x.id { y with stg := .write, tag := t.next (usedOf x y.key) x.id, ph := ph } (partOf rs y.bs k)) ∧
      Hp w0 w' (star (msgsA r ms) (star (cliA p { x with used := lput x.used y.key (t.next (usedOf x y.key) x.id).n }) (star (opnA o { y with stg := .write, tag := t.next (usedOf x y.key) x.id, ph := ph }) (star (phA ph (x.cfg, [])) (star Cd (star (phA y.ph (c, L)) F))))))) := by
  refine sim_client_Client_met _ _ _ ?_
  unfold vc_client_Client_met
  refine H.new fun b3 w1 H => ⟨_, rfl, _, rd_now (x := x) H hnow, H.new fun b11 w2 H => ⟨fun _ _ => False, ⟨_, rfl, _, rd_stg (y := y) H, tasA ⟨_, rfl, fun _ => ?_, fun h => ?_⟩⟩, fun _ _ h => h.elim⟩⟩
  · refine call (top_c hL ((H.take (phA y.ph (c, L))).take (opnA o y))) ?_
    rintro _ w3 ⟨rfl, H⟩
    rw [ht]
    refine ⟨_, _, rfl, call (chosenPut_c hC hc hn hn2 hb hnow hput hv hu hu2 hi hi2 hm (((H.take Cd).take (opnA o y)).take (cliA p x))) ?_⟩
    rintro _ w4 ⟨ph, r, ms, rfl, hms, H⟩
    refine ⟨_, _, _, _, _, _, _, _, rfl, H.stoAll (b := b3) (by rfl) fun w5 H => ⟨_, H.cell (b := b3) (i := 0) rfl, _, H.cell (b := b3) (i := 1) rfl, _, H.cell (b := b3) (i := 2) rfl, _, H.cell (b := b3) (i := 3) rfl, _, H.cell (b := b3) (i := 4) rfl, _, H.cell (b := b3) (i := 5) rfl, Rt.ok ⟨ph, r, ms, rfl, hms, ?_⟩⟩⟩
    have H := ((H.blk b3).drop.blk b11).drop
    exact H
  · rw [hs] at h
    exact absurd h (by decide)
theorem metWrite_c (hC : ∀ {w' : World} {A' : Asn}, Hp w0 w' (star Cd A') → RdCode w' x.cd g sc rs n k) (hc : x.cfg.Ok) (hn : x.cfg.N = (n : Int)) (hn2 : n ≤ 255) (hb : y.bs.length ≤ 65536) (hnow : x.now = some o) (hs : y.stg = .write)
    (H : Hp w0 w (star (cliA p x) (star (opnA o y) (star Cd F)))) :
    Calls PP F_client_Client_met #[.pointer (some (blk p))] w (Rt fun v w' => ∃ ph r ms, v = .tuple #[Slc.v r, Rs.no.v, .bool false] ∧ ms.map Ms.abs = (allOf n).map (reqOf x.id { y with stg := .fin, ph := ph } (partOf rs y.bs k)) ∧
      Hp w0 w' (star (msgsA r ms) (star (cliA p x) (star (opnA o { y with stg := .fin, ph := ph }) (star (phA ph (x.cfg, [])) (star Cd F)))))) := by
  refine sim_client_Client_met _ _ _ ?_
  unfold vc_client_Client_met
  refine H.new fun b3 w1 H => ⟨_, rfl, _, rd_now (x := x) H hnow, H.new fun b11 w2 H => ⟨fun _ _ => False, ⟨_, rfl, _, rd_stg (y := y) H, tasA ⟨_, rfl, fun h => ?_, fun _ => tasW ⟨_, rfl, fun _ => ?_, fun h => ?_⟩⟩⟩, fun _ _ h => h.elim⟩⟩
  · rw [hs] at h
    exact absurd h (by decide)
  · have H := H.drew 1
    refine ⟨_, rd_tagn (y := y) H, _, rd_tagc (y := y) H, _, H.cell (b := b11) (i := 0) rfl, _, H.cell (b := b11) (i := 1) rfl, _, H.cell (b := b11) (i := 2) rfl, _, H.cell (b := b11) (i := 3) rfl, _, H.cell (b := b11) (i := 4) rfl, _, H.cell (b := b11) (i := 5) rfl, ?_⟩
    have H : Hp w0 _ (star (opnR o y (stgV y.stg) (.pointer (some (blk y.ph)))) _) := (H.take Cd).take (opnA o y)
    refine call (enter_c (st := .fin) (t := y.tag) hC hc hn hn2 hb hnow (H.take (cliA p x))) ?_
    rintro _ w3 ⟨ph, r, ms, rfl, hms, H⟩
    refine ⟨_, rfl, H.cell (b := b11) (i := 0) rfl, H.cell (b := b11) (i := 1) rfl, H.cell (b := b11) (i := 2) rfl, H.cell (b := b11) (i := 3) rfl, H.cell (b := b11) (i := 4) rfl, H.cell (b := b11) (i := 5) rfl, H.stoAll (b := b3) (by rfl) fun w5 H => ⟨_, H.cell (b := b3) (i := 0) rfl, _, H.cell (b := b3) (i := 1) rfl, _, H.cell (b := b3) (i := 2) rfl, _, H.cell (b := b3) (i := 3) rfl, _, H.cell (b := b3) (i := 4) rfl, _, H.cell (b := b3) (i := 5) rfl, Rt.ok ⟨ph, r, ms, rfl, hms, ?_⟩⟩⟩
    exact ((H.blk b3).drop.blk b11).drop
  · rw [hs] at h
    exact absurd h (by decide)
theorem metFin_c (hnow : x.now = some o) (hs : y.stg = .fin) (H : Hp w0 w (star (cliA p x) (star (opnA o y) F))) :
    Calls PP F_client_Client_met #[.pointer (some (blk p))] w (Rt fun v w' => v = .tuple #[Slc.v Slc.nil, (Rs.mk y.op y.put 0 y.tag Slc.nil).v, .bool true] ∧ Hp w0 w' (star (cliA p { x with now := none }) (star (opnA o y) F))) := by
  refine sim_client_Client_met _ _ _ ?_
  unfold vc_client_Client_met
  refine H.new fun b3 w1 H => ⟨_, rfl, _, rd_now (x := x) H hnow, H.new fun b11 w2 H => ⟨fun e w' => e = true ∧ Hp w0 w' (star (bk b11 Ty_api_Result #[.int .i64 y.op, .bool y.put, .int .i64 0, .int .i64 y.tag.n, .int .i64 y.tag.c, Slc.nil.v]) (star (bk b3 Ty_api_Result #[.int .i64 0, .bool false, .int .i64 0, .int .i64 0, .int .i64 0, Slc.nil.v]) (star (cliA p { x with now := none }) (star (opnA o y) F)))), ⟨_, rfl, _, rd_stg (y := y) H, tasA ⟨_, rfl, fun h => ?_, fun _ => tasW ⟨_, rfl, fun h => ?_, fun _ => tasF ⟨_, rfl, fun _ => ?_, fun h => ?_⟩⟩⟩⟩, ?_⟩⟩
  · rw [hs] at h
    exact absurd h (by decide)
  · rw [hs] at h
    exact absurd h (by decide)
  · refine ⟨_, rd_tagn (y := y) H, _, rd_tagc (y := y) H, call (end_c (t := y.tag) (v := Slc.nil) hnow ((H.take (opnA o y)).take (cliA p x))) ?_⟩
    rintro _ w3 ⟨rfl, H⟩
    refine ⟨_, _, _, _, _, _, _, rfl, H.stoAll (b := b11) (by rfl) fun w4 H => ⟨rfl, ?_⟩⟩
    exact (((H.take (opnA o y)).take (cliA p { x with now := none })).blk b3).blk b11
  · rw [hs] at h
    exact absurd h (by decide)
  · rintro _ w3 ⟨rfl, H⟩
    have H := H.drew 1
    refine ⟨_, H.cell (b := b11) (i := 0) rfl, _, H.cell (b := b11) (i := 1) rfl, _, H.cell (b := b11) (i := 2) rfl, _, H.cell (b := b11) (i := 3) rfl, _, H.cell (b := b11) (i := 4) rfl, _, H.cell (b := b11) (i := 5) rfl, H.stoAll (b := b3) (by rfl) fun w5 H => ⟨_, H.cell (b := b3) (i := 0) rfl, _, H.cell (b := b3) (i := 1) rfl, _, H.cell (b := b3) (i := 2) rfl, _, H.cell (b := b3) (i := 3) rfl, _, H.cell (b := b3) (i := 4) rfl, _, H.cell (b := b3) (i := 5) rfl, Rt.ok ⟨rfl, ?_⟩⟩⟩
    exact ((H.blk b3).drop.blk b11).drop
end
end Go.Proofs.YtabifopphhpciaaGreatDoor

namespace Go.Vc
def repl (y : Opn) (L : List (Int × Rp)) (m : Ms) : Rp :=
  if y.stg = .ask then { (llook L m.sv).getD Rp.no with top := ((llook L m.sv).getD Rp.no).top.max m.top } else (llook L m.sv).getD Rp.no
end Go.Vc
namespace Go.Proofs.YtabifopphhpciaaGreatDoor
open Go Go.Vc Go.Vc.Asn Go.Gf
abbrev haA (p o b14 b17 : Nat) (x : Cl) (y : Opn) (L : List (Int × Rp)) (m : Ms) (F : Asn) : Asn :=
  star (bk b17 Ty_api_Result #[.int .i64 0, .bool false, .int .i64 0, .int .i64 0, .int .i64 0, Slc.nil.v]) (star (bk b14 Ty_api_Message m.c.toArray) (star (cliA p x) (star (opnA o y) (star (phA y.ph (x.cfg, L)) F))))
def haB (o3 : Option Nat) (o4 : Option Unit) (r : Rp) (A : Asn) : Asn :=
  match o3, o4 with
  | none, _ => A
  | some b, none => star (bk b Ty_client_reply #[.int .i64 0, .int .i64 0, .bool false, Slc.nil.v]) A
  | some b, some _ => star (bk b Ty_client_reply #[.int .i64 r.top.n, .int .i64 r.top.c, .bool r.has, r.data.v]) A
section
variable {w0 w : World} {A F Cd : Asn} {p o g n k : Nat} {x : Cl} {y : Opn} {m : Ms} {sc : Slc} {rs : Rws} {t : Tg} {L : List (Int × Rp)}
theorem counts_sv (h : countsB x y m = true) : 0 ≤ m.sv ∧ m.sv < x.cfg.N := by
  unfold countsB badB at h
  simp only [Bool.and_eq_true, Bool.not_eq_true', Bool.or_eq_false_iff, decide_eq_false_iff_not] at h
  omega
theorem handle_c {Pm : Slc → Rs → Bool → Asn → Prop} (hc : x.cfg.Ok) (hnow : x.now = some o) (hcount : countsB x y m = true) (hr : y.stg ≠ .read)
    (met : (x.cfg.N + x.cfg.K + 1) / 2 ≤ ((lput L m.sv (repl y L m)).length : Int) → ∀ (w : World) (F : Asn), Hp w0 w (star (cliA p x) (star (opnA o y) (star (phA y.ph (x.cfg, lput L m.sv (repl y L m))) (star Cd F)))) →
      Calls PP F_client_Client_met #[.pointer (some (blk p))] w (Rt fun v w' => ∃ r R e A', v = .tuple #[Slc.v r, Rs.v R, .bool e] ∧ Pm r R e A' ∧ Hp w0 w' (star A' F)))
    (H : Hp w0 w (star (cliA p x) (star (opnA o y) (star (phA y.ph (x.cfg, L)) (star Cd F))))) :
    Calls PP F_client_Client_Handle #[.pointer (some (blk p)), .agg m.c.toArray] w (Rt fun v w' =>
      (((lput L m.sv (repl y L m)).length : Int) < (x.cfg.N + x.cfg.K + 1) / 2 ∧ v = .tuple #[Slc.v Slc.nil, Rs.no.v, .bool false] ∧ Hp w0 w' (star (cliA p x) (star (opnA o y) (star (phA y.ph (x.cfg, lput L m.sv (repl y L m))) (star Cd F))))) ∨
      ((x.cfg.N + x.cfg.K + 1) / 2 ≤ ((lput L m.sv (repl y L m)).length : Int) ∧ ∃ r R e A', v = .tuple #[Slc.v r, Rs.v R, .bool e] ∧ Pm r R e A' ∧ Hp w0 w' (star A' F))) := by
  refine sim_client_Client_Handle _ _ _ _ _ _ _ _ _ _ _ _ _ _ ?_
  unfold vc_client_Client_Handle
  refine H.new fun b14 w1 H => H.new fun b17 w2 H => ⟨fun b w' => b = false ∧ Hp w0 w' (haA p o b14 b17 x y L m (star Cd F)), ⟨fun _ => call (counts_c (m := m) hnow (((H.take (opnA o y)).take (cliA p x)))) ?_, fun h => by simp at h⟩, ?_⟩
  · rintro _ w3 ⟨rfl, f3⟩
    exact ⟨_, rfl, by rw [hcount]; rfl, H.fr0 f3⟩
  clear H
  rintro _ w3 ⟨rfl, H⟩
  obtain ⟨hs0, hs1⟩ := counts_sv hcount
  refine ⟨fun h => by simp at h, fun _ => ⟨_, rfl, _, rd_now (x := x) H hnow, _, rfl, ?_⟩⟩
  have H := H.drew 1
  generalize hR : (llook L m.sv).getD Rp.no = r
  have hrep : repl y L m = if y.stg = .ask then { r with top := r.top.max m.top } else r := by unfold repl; rw [hR]
  refine ⟨some (blk y.ph), m.sv, fun o1 o3 o4 w' => (o1 = none ∨ o1 = some (r.top.n, r.top.c, r.has, r.data, (llook L m.sv).isSome)) ∧ Hp w0 w' (haB o3 o4 r (haA p o b14 b17 x y L m (star Cd F))), ⟨.inl rfl, H⟩, ?_, ?_, ?_, ?_, ?_, ?_⟩
  · rintro (_ | b) w4 ⟨_, H⟩
    · have H : Hp w0 w4 (haA p o b14 b17 x y L m (star Cd F)) := H
      exact rd_ph (y := y) H
    · have H : Hp w0 w4 (star (bk b Ty_client_reply #[.int .i64 0, .int .i64 0, .bool false, Slc.nil.v]) (haA p o b14 b17 x y L m (star Cd F))) := H
      exact rd_ph (y := y) H
  · rintro (_ | b) w4 ⟨_, H⟩
    · have H : Hp w0 w4 (haA p o b14 b17 x y L m (star Cd F)) := H
      exact H.cell (b := b14) (i := 2) rfl
    · have H : Hp w0 w4 (star (bk b Ty_client_reply #[.int .i64 0, .int .i64 0, .bool false, Slc.nil.v]) (haA p o b14 b17 x y L m (star Cd F))) := H
      exact H.cell (b := b14) (i := 2) rfl
  · rintro (_ | b) w4 ⟨_, H⟩
    · have H' : Hp w0 w4 (haA p o b14 b17 x y L m (star Cd F)) := H
      refine call (pget_c (s := m.sv) (H'.take (phA y.ph (x.cfg, L)))) ?_
      rintro _ w5 ⟨rfl, f5⟩
      rw [hR]
      exact ⟨_, _, _, _, _, rfl, .inr rfl, H.fr0 f5⟩
    · have H' : Hp w0 w4 (star (bk b Ty_client_reply #[.int .i64 0, .int .i64 0, .bool false, Slc.nil.v]) (haA p o b14 b17 x y L m (star Cd F))) := H
      refine call (pget_c (s := m.sv) (H'.take (phA y.ph (x.cfg, L)))) ?_
      rintro _ w5 ⟨rfl, f5⟩
      rw [hR]
      exact ⟨_, _, _, _, _, rfl, .inr rfl, H.fr0 f5⟩
  · rintro o1 w4 ⟨h1, H⟩
    have H : Hp w0 w4 (haA p o b14 b17 x y L m (star Cd F)) := H
    exact H.new fun b w5 H => ⟨h1, H⟩
  · rintro C64 C65 h66 d67 G68 b w4 ⟨h1, H⟩
    have H : Hp w0 w4 (star (bk b Ty_client_reply #[.int .i64 0, .int .i64 0, .bool false, Slc.nil.v]) (haA p o b14 b17 x y L m (star Cd F))) := H
    obtain ⟨rfl, rfl, rfl, rfl, rfl⟩ : C64 = r.top.n ∧ C65 = r.top.c ∧ h66 = r.has ∧ d67 = r.data ∧ G68 = (llook L m.sv).isSome := by simpa using h1
    exact H.stoAll (b := b) (by rfl) fun w5 H => ⟨h1, H⟩
  · rintro C64 C65 h66 d67 G68 b w4 ⟨h1, H⟩
    have H : Hp w0 w4 (star (bk b Ty_client_reply #[.int .i64 r.top.n, .int .i64 r.top.c, .bool r.has, r.data.v]) (haA p o b14 b17 x y L m (star Cd F))) := H
    refine ⟨fun w' => Hp w0 w' (star (bk b Ty_client_reply #[.int .i64 (repl y L m).top.n, .int .i64 (repl y L m).top.c, .bool (repl y L m).has, (repl y L m).data.v]) (haA p o b14 b17 x y L m (star Cd F))), ⟨_, rd_stg (y := y) H, tasA ⟨_, rfl, fun hA => ?_, fun hA => tasR ⟨_, rfl, fun h => absurd (of_decide_eq_true h) hr, fun _ => ?_⟩⟩⟩, ?_⟩
    · have hA : y.stg = .ask := of_decide_eq_true hA
      refine ⟨_, H.cell2 (b := b) (i := 0) (j := 0) rfl, _, H.cell2 (b := b) (i := 0) (j := 1) rfl, _, H.cell2 (b := b14) (i := 7) (j := 0) rfl, _, H.cell2 (b := b14) (i := 7) (j := 1) rfl, ?_⟩
      refine H.newRow (e := Ty_api_Tag) (n := 2) (size := 2) (r.top.cells ++ m.top.cells) rfl rfl (by decide) fun b172 w5 H => ?_
      refine call (tmax_c (H.cel (s := ⟨some (blk b172), 2, 2⟩))) ?_
      rintro _ w6 ⟨rfl, f6⟩
      have H := (H.fr0 f6).drop
      refine ⟨_, _, rfl, StoN.two (H.sto2 (b := b) (i := 0) (j := 0) (by simp) fun w7 H => H.sto2 (b := b) (i := 0) (j := 1) (by simp) fun w8 H => ?_)⟩
      rw [hrep, if_pos hA]
      exact H
    · rw [hrep, if_neg (of_decide_eq_false hA)]
      exact H
    · intro w5 H
      have H := H.drew 1
      refine ⟨_, rd_ph (y := y) H, _, H.cell (b := b14) (i := 2) rfl, _, H.cell (b := b) (i := 0) rfl, _, H.cell (b := b) (i := 1) rfl, _, H.cell (b := b) (i := 2) rfl, _, H.cell (b := b) (i := 3) rfl, ?_⟩
      refine call (panswer_c (r := repl y L m) hs0 hs1 (H.take (phA y.ph (x.cfg, L)))) ?_
      rintro _ w6 ⟨rfl, H⟩
      refine ⟨_, _, rfl, _, rd_ph (y := y) H, call (pmet_c hc H) ?_⟩
      rintro _ w7 ⟨rfl, f7⟩
      have H := H.fr0 f7
      have H := (H.blk b).drop
      refine ⟨_, rfl, fun h => ?_, fun h => ?_⟩
      · have hq : ((lput L m.sv (repl y L m)).length : Int) < (x.cfg.N + x.cfg.K + 1) / 2 := by
          have h : decide ((x.cfg.N + x.cfg.K + 1) / 2 ≤ ((lput L m.sv (repl y L m)).length : Int)) = false := by simpa using h
          have := of_decide_eq_false h
          omega
        refine H.stoAll (b := b17) (by rfl) fun w8 H => ⟨_, H.cell (b := b17) (i := 0) rfl, _, H.cell (b := b17) (i := 1) rfl, _, H.cell (b := b17) (i := 2) rfl, _, H.cell (b := b17) (i := 3) rfl, _, H.cell (b := b17) (i := 4) rfl, _, H.cell (b := b17) (i := 5) rfl, Rt.ok (.inl ⟨hq, rfl, ?_⟩)⟩
        have H := ((H.blk b17).drop.blk b14).drop
        exact ((H.take (phA y.ph (x.cfg, lput L m.sv (repl y L m)))).take (opnA o y)).take (cliA p x)
      · have hq : (x.cfg.N + x.cfg.K + 1) / 2 ≤ ((lput L m.sv (repl y L m)).length : Int) := by
          have h : decide ((x.cfg.N + x.cfg.K + 1) / 2 ≤ ((lput L m.sv (repl y L m)).length : Int)) = true := by simpa using h
          exact of_decide_eq_true h
        have H := (H.blk b14).drop
        have H := (((H.take Cd).take (phA y.ph (x.cfg, lput L m.sv (repl y L m)))).take (opnA o y)).take (cliA p x)
        refine call (met hq _ _ H) ?_
        rintro _ w8 ⟨r2, R, e, A', rfl, hP, H⟩
        have H := H.blk b17
        refine ⟨_, _, _, _, _, _, _, _, rfl, H.stoAll (b := b17) (by rfl) fun w9 H => ⟨_, H.cell (b := b17) (i := 0) rfl, _, H.cell (b := b17) (i := 1) rfl, _, H.cell (b := b17) (i := 2) rfl, _, H.cell (b := b17) (i := 3) rfl, _, H.cell (b := b17) (i := 4) rfl, _, H.cell (b := b17) (i := 5) rfl, Rt.ok (.inr ⟨hq, r2, R, e, A', rfl, hP, H.drop⟩)⟩⟩
end
end Go.Proofs.YtabifopphhpciaaGreatDoor

namespace Go.Proofs.YtabifopphhpciaaGreatDoor
open Go Go.Vc Go.Vc.Asn Go.Gf
def codeA (q g : Nat) (s : Slc) (rs : Rws) (n k : Nat) : Asn := star (bk q Ty_code_Code #[.pointer (some (blk g)), .int .i64 (n : Int), .int .i64 (k : Int), s.v]) (star (rwsA s rs) (fieldA g))
section
variable {w0 w : World} {A F Cd : Asn} {p o q g n k : Nat} {x : Cl} {y : Opn} {m : Ms} {s sc : Slc} {rs : Rws} {t : Tg} {L : List (Int × Rp)} {bs : List UInt8}
theorem rdCode (hG : Gen n k (mt rs)) (hk : 1 ≤ k) (hkn : k ≤ n) (hn : n ≤ 255) (H : Hp w0 w (star (codeA q g s rs n k) F)) : RdCode w q g s rs n k := by
  have H := H.assoc
  have H2 := H.drop.assoc
  exact ⟨H.isBlk (b := q), (H2.drop).isBlk (b := g), rdR (H2.assoc), hG, hk, hkn, hn⟩
theorem codeNewA_c (hk : 1 ≤ k) (hkn : k ≤ n) (hn : n ≤ 255) :
    Calls PP F_code_New #[.int .i64 (n : Int), .int .i64 (k : Int)] w (Rt fun v w' => ∃ q g s rs, v = .tuple #[.pointer (some (blk q)), .int .i64 0] ∧ Gen n k (mt rs) ∧ Hp w w' (star (codeA q g s rs n k) emp)) := by
  refine sim_code_New _ _ _ _ ?_
  unfold vc_code_New
  refine ⟨fun h => ?_, fun _ => call std_c ?_⟩
  · simp at h; omega
  · rintro _ w1 ⟨g, rfl, H⟩
    refine ⟨_, rfl, call (generator_c (H.isBlk (b := g)) hk hkn hn) ?_⟩
    rintro _ w2 ⟨s, rs, rfl, hG, H2⟩
    have H3 := H.join H2
    refine ⟨s, rfl, H3.new fun q w3 H => Rt.ok ⟨q, g, s, rs, rfl, hG, ?_⟩⟩
    exact (H.assoc'.assoc').ent (Ent.star assoc (Ent.refl _))
theorem newA_c {c : Cfg} {id : Int} (hc : c.Ok) (hi : 1 ≤ id) (hi2 : id ≤ 65535) (hn : c.N = (n : Int)) (hk : c.K = (k : Int)) :
    Calls PP F_client_New #[c.v, .int .i64 id] w (Rt fun v w' => ∃ p q g sc rs, v = .tuple #[.pointer (some (blk p)), .int .i64 0] ∧ Gen n k (mt rs) ∧ Hp w w' (star (cliA p ⟨c, id, q, 0, [], none⟩) (star (codeA q g sc rs n k) emp))) := by
  obtain ⟨h1, h2, h3, h4, h5⟩ := hc
  refine sim_client_New _ _ _ _ _ _ ?_
  unfold vc_client_New
  refine (Hp.start w).new fun b w1 H => call (check_c ⟨h1, h2, h3, h4, h5⟩) ?_
  rintro _ w2 ⟨rfl, f2⟩
  have H := H.fr0 f2
  refine ⟨_, rfl, fun h => absurd h (by decide), fun _ => ⟨fun h => ?_, fun _ => ⟨_, H.cell (b := b) (i := 0) rfl, _, H.cell (b := b) (i := 1) rfl, ?_⟩⟩⟩
  · simp at h; omega
  rw [hn, hk]
  refine call (codeNewA_c (by omega) (by omega) (by omega)) ?_
  rintro _ w3 ⟨q, g, sc, rs, rfl, hG, J⟩
  have H := H.join J
  refine ⟨_, _, rfl, fun h => absurd h (by decide), fun _ => ⟨_, H.cell (b := b) (i := 0) rfl, _, H.cell (b := b) (i := 1) rfl, _, H.cell (b := b) (i := 2) rfl, H.newM sK iK fun gm w4 H => H.new fun p w5 H => Rt.ok ⟨p, q, g, sc, rs, rfl, hG, ?_⟩⟩⟩
  have H := (H.blk b).drop
  exact cl_close (g := gm) (H.blk p)
def modI (k n : Int) : Int := if k.tmod n < 0 then k.tmod n + n else k.tmod n
theorem modI_bounds {k n : Int} (hn : 0 < n) : 0 ≤ modI k n ∧ modI k n < n := by
  have h1 : n.tmod n = 0 := Int.tmod_self
  have h2 := Int.tmod_lt_of_pos k hn
  have h3 : -n < k.tmod n := by
    have := Int.lt_tmod_of_pos k hn
    omega
  unfold modI
  split <;> omega
theorem mod_c {k n : Int} (hn : 0 < n) (hn2 : n ≤ 1000) : Calls PP F_sherdlaw18_mod #[.int .i64 k, .int .i64 n] w (Rt fun v w' => v = .int .i64 (modI k n) ∧ w' = w) := by
  have hb := modI_bounds (k := k) hn
  refine sim_sherdlaw18_mod _ _ _ _ ?_
  unfold vc_sherdlaw18_mod
  refine ⟨by omega, fun r w' => r = modI k n ∧ w' = w, ⟨fun h => ⟨?_, rfl⟩, fun h => ⟨?_, rfl⟩⟩, fun r w' h => ?_⟩
  · have h := of_decide_eq_true h
    unfold modI at hb ⊢
    rw [if_pos h] at hb ⊢
    rw [wr64 (by omega) (by omega)]
  · have h := of_decide_eq_false h
    unfold modI
    rw [if_neg h]
  · obtain ⟨rfl, rfl⟩ := h
    exact Rt.ok ⟨rfl, rfl⟩
theorem only_c {b : Bool} : Calls PP F_sherdlaw18_only #[.bool b, t.v] w (Rt fun v w' => v = (if b then t else Tg.zero).v ∧ Fr [] w w') := by
  refine sim_sherdlaw18_only _ _ _ _ _ ?_
  unfold vc_sherdlaw18_only
  refine nw fun b1 w1 H _ => H.new fun b2 w2 H => ⟨fun h => H.stoAll (b := b2) (by rfl) fun w3 H => ⟨_, H.cell (b := b2) (i := 0) rfl, _, H.cell (b := b2) (i := 1) rfl, Rt.ok ⟨?_, H.fr⟩⟩, fun h => H.stoAll (b := b2) (by rfl) fun w3 H => ⟨_, H.cell (b := b2) (i := 0) rfl, _, H.cell (b := b2) (i := 1) rfl, Rt.ok ⟨?_, H.fr⟩⟩⟩
  · rw [h]; rfl
  · rw [h]; rfl
theorem value_c (hB : Byt w s bs) (hl : bs.length ≤ 1099511627776) : Calls PP F_sherdlaw18_value #[s.v] w (Rt fun v w' => ∃ o, v = Slc.v o ∧ Hp w w' (star (own Ty_uint8 1 o ((bs.take 300).map u8v)) emp)) := by
  refine sim_sherdlaw18_value _ _ _ ?_
  unfold vc_sherdlaw18_value
  have hsl := hB.len
  refine (Hp.start w).newRow (n := 0) (size := 1) [] rfl rfl (by unfold maxLen; omega) fun b w1 H => ?_
  have em : minI (s.l : Int) 300 = ((min bs.length 300 : Nat) : Int) := by
    unfold minI
    rw [hsl]
    split <;> omega
  have hc := hB.cap
  rw [em]
  refine ⟨by omega, by omega, by omega, ?_⟩
  have hcut : Byt w1 (s.cut 1 (Int.toNat 0) (Int.toNat ((min bs.length 300 : Nat) : Int))) (bs.take 300) := by
    have h2 := Cel.cut (hB.fr0 H.fr) (l := 0) (k := min bs.length 300) (Nat.zero_le _) (by omega)
    unfold Byt
    rw [List.map_take]
    rw [Nat.sub_zero, Nat.mul_one, Nat.zero_mul, List.drop_zero] at h2
    have e : (bs.map u8v).take (min bs.length 300) = (bs.map u8v).take 300 := by
      rw [Nat.min_comm, ← List.take_take, List.take_of_length_le (l := bs.map u8v) (by simp)]
    rw [e] at h2
    exact h2
  have hcl := hcut.len
  have htl : (bs.take 300).length ≤ 300 := by rw [List.length_take]; omega
  refine Hp.app (s := ⟨some (blk b), 0, 0⟩) slT_sl_uint8 H hcut (one_u8 _) (by unfold maxLen; simp only; omega) (by simp only; omega) fun o w2 H _ => Rt.ok ⟨o, rfl, ?_⟩
  exact H
end
end Go.Proofs.YtabifopphhpciaaGreatDoor

namespace Go.Proofs.YtabifopphhpciaaGreatDoor
open Go Go.Vc Go.Vc.Asn Go.Gf
section
variable {w0 w : World} {s P : Slc} {n : Nat} {ps is : List Int}
theorem town_c {a b : Int} : Calls PP F_sherdlaw18_town #[.int .i64 a, .int .i64 b] w (Rt fun v w' => ∃ tp N K sv, v = .pointer (some (blk tp)) ∧ 1 ≤ N ∧ N ≤ 7 ∧ 1 ≤ K ∧ K ≤ N ∧ Hp w w' (star (bk tp Ty_sherdlaw18_Town #[.int .i64 N, .int .i64 K, .int .i64 0, Slc.v sv]) emp)) := by
  refine sim_sherdlaw18_town _ _ _ _ ?_
  unfold vc_sherdlaw18_town
  refine call (mod_c (by decide) (by decide)) ?_
  rintro _ w9 ⟨rfl, hw⟩
  rw [hw]
  clear hw
  have hb := modI_bounds (k := a) (n := 7) (by decide)
  refine ⟨_, rfl, ?_⟩
  rw [wr64 (n := modI a 7 + 1) (by omega) (by omega)]
  generalize hN : modI a 7 + 1 = N
  refine nw fun tp w1 H _ => call (mod_c (by omega) (by omega)) ?_
  rintro _ _ ⟨rfl, rfl⟩
  have hb2 := modI_bounds (k := b) (n := N) (by omega)
  refine ⟨_, rfl, H.sto2 (b := tp) (i := 0) (j := 1) (by simp) fun w2 H => ?_⟩
  rw [wr64 (n := modI b N + 1) (by omega) (by omega)] at H
  generalize hK : modI b N + 1 = K at H
  refine ⟨fun i w' => ∃ (q : Nat) (sv : Slc) (vs : List Value), i = (q : Int) ∧ (q : Int) ≤ N ∧ vs.length = q ∧ (∀ u ∈ vs, u.oneCell' = true) ∧ Hp w w' (star (bk tp Ty_sherdlaw18_Town #[.int .i64 N, .int .i64 K, .int .i64 0, Slc.v sv]) (star (own Ty_p_sherdlaw18_Plain 1 sv vs) emp)), fun i _ => (N - i).toNat, ⟨0, Slc.nil, [], rfl, by omega, rfl, by simp, ((H.blk tp).nilRow _ 1).swap⟩, ?_⟩
  clear H
  rintro _ w3 ⟨q, sv, vs, rfl, hq, hvl, hvo, H⟩
  refine ⟨_, H.cell2 (b := tp) (i := 0) (j := 0) rfl, fun h => ?_, fun h => ?_⟩
  · have h := of_decide_eq_true h
    have e1 : wr .i64 ((q : Int) + 1) = ((q + 1 : Nat) : Int) := by rw [wr64 (by omega) (by omega)]; omega
    have hsl : sv.l = vs.length := by
      have := (H.cel (s := sv)).len
      omega
    refine ⟨_, H.cell (b := tp) (i := 3) rfl, H.new fun b30 w4 H => H.newRow (e := Ty_p_sherdlaw18_Plain) (n := 1) (size := 1) [.pointer (some (blk b30))] rfl rfl (by decide) fun b33 w5 H => ?_⟩
    refine H.app (s := sv) slT_sl_p_sherdlaw18_Plain (H.cel (s := ⟨some (blk b33), 1, 1⟩)) (fun u hu => by rw [List.mem_singleton.1 hu]; rfl) (by unfold maxLen; simp only; omega) (by simp only; omega) fun s' w6 H _ => ?_
    refine H.sto (b := tp) (i := 3) (by simp) fun w7 H => ⟨⟨q + 1, s', vs ++ [.pointer (some (blk b30))], e1, by omega, by simp [hvl], fun u hu => ?_, ?_⟩, by rw [e1]; dsimp only; omega⟩
    · rcases List.mem_append.1 hu with hu | hu
      · exact hvo u hu
      · rw [List.mem_singleton.1 hu]; rfl
    · have H := ((H.own ⟨some (blk b33), 1, 1⟩).drop.blk b30).drop
      exact (H.own s').blk tp
  · have h := of_decide_eq_false h
    exact Rt.ok ⟨tp, N, K, sv, rfl, by omega, by omega, by omega, by omega, (((H.own sv).drop).blk tp)⟩
def idOf (is : List Int) : Int := match is with | [] => 1 | i :: _ => modI i 5 + 1
theorem idOf_bounds (is : List Int) : 1 ≤ idOf is ∧ idOf is ≤ 5 := by
  unfold idOf
  cases is with
  | nil => decide
  | cons i r =>
    have := modI_bounds (k := i) (n := 5) (by decide)
    dsimp only
    omega
theorem id_c {a b : Int} {V Pk : Slc} (hI : Cel w s 1 (is.map iK)) : Calls PP F_sherdlaw18_Tale_id #[.agg #[.int .i64 a, .int .i64 b, V.v, s.v, Pk.v], .int .i64 0] w (Rt fun v w' => v = .int .i64 (idOf is) ∧ Fr [] w w') := by
  refine sim_sherdlaw18_Tale_id _ _ _ _ _ _ _ _ ?_
  unfold vc_sherdlaw18_Tale_id
  have hl := hI.len
  simp only [List.length_map] at hl
  refine nw fun b w1 _ f1 => ⟨fun h => ?_, fun h => ?_⟩
  · have h := of_decide_eq_true h
    cases is with
    | nil => simp at hl; omega
    | cons i r =>
      obtain ⟨a, ha, hc⟩ := (hI.fr0 f1).at_ 0 (iK i) rfl
      refine ⟨a, ha, by omega, by omega, _, hc, call (mod_c (by decide) (by decide)) ?_⟩
      rintro _ _ ⟨rfl, rfl⟩
      have := modI_bounds (k := i) (n := 5) (by decide)
      refine ⟨_, rfl, Rt.ok ⟨?_, f1⟩⟩
      rw [wr64 (by omega) (by omega)]
      rfl
  · have h := of_decide_eq_false h
    cases is with
    | nil => exact Rt.ok ⟨rfl, f1⟩
    | cons i r => simp at hl; omega
theorem allOf_succ (k : Nat) : allOf (k + 1) = allOf k ++ [(k : Int)] := by
  unfold allOf
  rw [List.range_succ, List.map_append]
  rfl
theorem mixed_c {f : Nat} (hf : f ≤ 3) (hn : 1 ≤ n) (hn2 : n ≤ 255) (hP : Cel w P 1 (ps.map iK)) (hpl : ps.length ≤ 1099511627776) :
    Calls PP F_sherdlaw18_mixed #[.int .i64 (n : Int), P.v, .int .i64 (f : Int)] w (Rt fun v w' => ∃ (s : Slc) (l : List Int), v = Slc.v s ∧ l.Perm (allOf n) ∧ Hp w w' (star (own Ty_int 1 s (l.map iK)) emp)) := by
  refine sim_sherdlaw18_mixed _ _ _ _ _ ?_
  unfold vc_sherdlaw18_mixed
  have hPl : P.l = ps.length := by have := hP.len; simp only [List.length_map] at this; omega
  refine ⟨fun s i w' => ∃ k : Nat, i = (k : Int) ∧ k ≤ n ∧ Hp w w' (star (own Ty_int 1 s ((allOf k).map iK)) emp), fun _ i _ => n - i.toNat, ⟨0, rfl, Nat.zero_le _, (Hp.start w).nilRow Ty_int 1⟩, ?_⟩
  rintro s _ w1 ⟨k, rfl, hk, H⟩
  have hal : ∀ k, (allOf k).length = k := fun k => by unfold allOf; simp
  have hsl : s.l = k := by
    have := (H.cel (s := s)).len
    simp only [List.length_map, hal] at this
    omega
  refine ⟨fun h => ?_, fun h => ?_⟩
  · have h := of_decide_eq_true h
    have e1 : wr .i64 ((k : Int) + 1) = ((k + 1 : Nat) : Int) := by rw [wr64 (by omega) (by omega)]; omega
    refine H.newRow (e := Ty_int) (n := 1) (size := 1) [.int .i64 (k : Int)] rfl rfl (by decide) fun b w4 H => ?_
    refine H.app (s := s) slT_sl_int (H.cel (s := ⟨some (blk b), 1, 1⟩)) (one_i _) (by unfold maxLen; simp only; omega) (by simp only; omega) fun s' w5 H _ => ?_
    have H := (H.own ⟨some (blk b), 1, 1⟩).drop
    refine ⟨⟨k + 1, e1, by omega, ?_⟩, by rw [e1]; dsimp only; omega⟩
    rw [allOf_succ, List.map_append]
    exact H
  · have h := of_decide_eq_false h
    obtain rfl : k = n := by omega
    refine ⟨fun i w' => ∃ (q : Nat) (l : List Int), i = (q : Int) ∧ q ≤ k ∧ l.Perm (allOf k) ∧ Hp w w' (star (own Ty_int 1 s (l.map iK)) emp), fun i _ => k - i.toNat, ⟨0, allOf k, rfl, Nat.zero_le _, List.Perm.refl _, H⟩, ?_⟩
    clear H
    rintro _ w2 ⟨q, l, rfl, hq, hp, H⟩
    have hll : l.length = k := by rw [hp.length_eq, hal]
    have ew : wr .i64 ((f : Int) + (q : Int)) = ((f + q : Nat) : Int) := by rw [wr64 (by omega) (by omega)]; omega
    rw [ew]
    refine ⟨fun h => ?_, fun h => Rt.ok ⟨s, l, rfl, hp, H⟩⟩
    simp only [Bool.and_eq_true, decide_eq_true_eq] at h
    have hqk : q < k := by omega
    have hfq : f + q < ps.length := by omega
    obtain ⟨a, ha, hc⟩ := (hP.fr0 H.fr).at_ (f + q) (iK ps[f + q]) (by simp [List.getElem?_eq_getElem hfq])
    refine ⟨a, ha, by omega, by omega, _, by rw [Int.toNat_natCast, Nat.mul_one]; exact hc, call (mod_c (by omega) (by omega)) ?_⟩
    rintro _ _ ⟨rfl, rfl⟩
    have hb := modI_bounds (k := ps[f + q]) (n := (k : Int)) (by omega)
    obtain ⟨j, hj⟩ : ∃ j : Nat, modI ps[f + q] (k : Int) = (j : Int) := ⟨(modI ps[f + q] (k : Int)).toNat, by omega⟩
    rw [hj] at hb ⊢
    have hjk : j < k := by omega
    have e1 : wr .i64 ((q : Int) + 1) = ((q + 1 : Nat) : Int) := by rw [wr64 (by omega) (by omega)]; omega
    obtain ⟨a1, h1, c1⟩ := (H.cel (s := s)).at_ q (iK l[q]) (by simp [List.getElem?_eq_getElem (show q < l.length by omega)])
    obtain ⟨a2, h2, c2⟩ := (H.cel (s := s)).at_ j (iK l[j]) (by simp [List.getElem?_eq_getElem (show j < l.length by omega)])
    refine ⟨_, rfl, a1, h1, by omega, by omega, _, by rw [Int.toNat_natCast, Nat.mul_one]; exact c1, a2, h2, by omega, by omega, _, by rw [Int.toNat_natCast, Nat.mul_one]; exact c2, a1, h1, by omega, by omega, ?_⟩
    rw [Int.toNat_natCast, Nat.mul_one, Int.toNat_natCast, Nat.mul_one]
    refine H.stoS (s := s) (i := q) (by simp; omega) h1 fun w3 H => ⟨a2, h2, by omega, by omega, H.stoS (s := s) (i := j) (by simp; omega) h2 fun w4 H => ⟨⟨q + 1, (l.set q l[j]).set j l[q], e1, by omega, ?_, ?_⟩, by rw [e1]; dsimp only; omega⟩⟩
    · exact (List.set_set_perm (by omega) (by omega)).trans hp
    · rw [List.map_set, List.map_set]
      exact H
end
end Go.Proofs.YtabifopphhpciaaGreatDoor

namespace Go.Gf
theorem Gen.uniq {n k : Nat} {R R' : List (List UInt8)} (h : Gen n k R) (h' : Gen n k R') : R = R' := by
  obtain ⟨B, hB, he⟩ := h.by_
  obtain ⟨B', hB', he'⟩ := h'.by_
  have hb : ∀ j c, j < k → c < k → B j c = B' j c := fun j c hj hc => by
    have h1 := hB.1 (fun j => dot k (B' j) fun x => if x = c then 1 else 0) j hj
    have h2 : dot k (B j) (fun i => dot k (vm i) fun j => dot k (B' j) fun x => if x = c then 1 else 0) = dot k (B j) fun x => if x = c then 1 else 0 := dot_congr (fun _ _ => rfl) fun i hi => hB'.2 _ i hi
    rw [h2, dot_delta (B j) hc] at h1
    rw [h1]
    exact dot_delta (B' j) hc
  refine ent_ext h.shp h'.shp fun i c hi hc => ?_
  rw [he i c hi hc, he' i c hi hc]
  exact dot_congr (fun _ _ => rfl) fun j hj => hb j c hj hc
end Go.Gf
namespace Go.Vc
theorem Tg.valid_bounds {t : Tg} (h : t.valid = true) : 0 ≤ t.n ∧ t.n ≤ 4611686018427387903 ∧ 0 ≤ t.c ∧ t.c ≤ 65535 := by
  unfold Tg.valid Tg.proper at h
  simp only [Bool.or_eq_true, Bool.and_eq_true, decide_eq_true_eq] at h
  rcases h with h | h
  · rw [h]; decide
  · omega
theorem Tg.next_above (t : Tg) (used cl : Int) : (t.next used cl).cmp t = 1 := by
  have hn : (t.next used cl).n = if (if t.n ≤ used + 1 then used + 1 else t.n) = t.n ∧ cl ≤ t.c then (if t.n ≤ used + 1 then used + 1 else t.n) + 1 else (if t.n ≤ used + 1 then used + 1 else t.n) := rfl
  have hc : (t.next used cl).c = cl := rfl
  unfold Tg.cmp
  generalize hm : (if t.n ≤ used + 1 then used + 1 else t.n) = m at hn
  have hm2 : t.n ≤ m := by rw [← hm]; split <;> omega
  rcases cmpI_cases (t.next used cl).n t.n with ⟨h1, h2⟩ | ⟨h1, h2⟩ | ⟨h1, h2⟩
  · exfalso
    rw [hn] at h1
    split at h1 <;> omega
  · rw [h2]; rfl
  · rw [h2, if_neg (by decide), hc]
    rcases cmpI_cases cl t.c with ⟨k1, k2⟩ | ⟨k1, k2⟩ | ⟨k1, k2⟩
    · exfalso
      rw [hn] at h1
      split at h1 <;> rename_i hh
      · omega
      · exact hh ⟨h1, by omega⟩
    · exact k2
    · exfalso
      rw [hn] at h1
      split at h1 <;> rename_i hh
      · omega
      · exact hh ⟨h1, by omega⟩
theorem Tg.next_le {t : Tg} {cl : Int} (h : t.valid = true) (hm : t.n ≠ 4611686018427387903) : (t.next 0 cl).n ≤ 4611686018427387903 := by
  have hb := Tg.valid_bounds h
  have hn : (t.next 0 cl).n = if (if t.n ≤ 0 + 1 then 0 + 1 else t.n) = t.n ∧ cl ≤ t.c then (if t.n ≤ 0 + 1 then 0 + 1 else t.n) + 1 else (if t.n ≤ 0 + 1 then 0 + 1 else t.n) := rfl
  rw [hn]
  split <;> split <;> omega
end Go.Vc

namespace Go.Vc
open Go Go.Vc.Asn
theorem byt_loc {w w' : World} {d : Slc} {bs : List UInt8} (h : Byt w d bs) (hb : ∀ k ∈ d.blks, w'.heap[k]? = w.heap[k]?) : Byt w' d bs :=
  ⟨Cel.len h, Cel.cap h, fun i v hv => by
    obtain ⟨p, hp, hc⟩ := Cel.at_ h i v hv
    refine ⟨p, hp, (World.cell?_of_block (hb _ ?_)).trans hc⟩
    rw [block_add]
    unfold Slc.blks
    rw [hp]
    simp⟩
def Asn.rdp (d : Slc) (bs : List UInt8) : Asn where
  p w S := (∀ k, S k ↔ k ∈ d.blks) ∧ (∀ k ∈ d.blks, k < w.heap.size) ∧ Byt w d bs
  loc := by
    rintro w w' S ⟨h1, h2, h3⟩ h
    have hb : ∀ k ∈ d.blks, w'.heap[k]? = w.heap[k]? := fun k hk => h k ((h1 k).2 hk)
    refine ⟨h1, fun k hk => ?_, byt_loc h3 hb⟩
    have e := hb k hk
    rw [Array.getElem?_eq_getElem (h2 k hk)] at e
    exact (Array.getElem?_eq_some_iff.1 e).1
  lt := by
    rintro w S ⟨h1, h2, h3⟩ k hk
    exact h2 k ((h1 k).1 hk)
theorem Hp.rdp {w0 w : World} {F : Asn} {d : Slc} {bs : List UInt8} (H : Hp w0 w (star (Asn.rdp d bs) F)) : Byt w d bs := by
  obtain ⟨_, S, _, S1, S2, _, _, ⟨_, _, h⟩, _⟩ := H
  exact h
section
variable {P : Program} {w0 w : World} {A F : Asn} {t1 t2 e : Nat}
theorem Hp.cvB {t b n c : Nat} {bs : List UInt8} {K : World → Prop} (h2 : P.underlying t = some (.slice e)) (h3 : P.underlying e = some (.int .u8)) (hne : bs ≠ []) (H : Hp w0 w (star (Asn.own e 1 ⟨some (Vc.blk b), n, c⟩ (bs.map u8v)) F))
    (k : ∀ w', Hp w0 w' (star (Asn.rdp ⟨some (Vc.blk b), n, c⟩ bs) F) → K w') : CvB P t w (Slc.v ⟨some (Vc.blk b), n, c⟩) K := by
  have hO := H.isOwn (s := ⟨some (Vc.blk b), n, c⟩)
  obtain ⟨g, cur, ha, hB, h4, h5, h6, h7⟩ := hO.some_ (by simpa using hne)
  have hg : b = g := by injection ha with ha; injection ha
  subst hg
  have hB : w.heap[b]? = some (.cells cur e (0, 0)) := hB
  have hlt : b < w.heap.size := (Array.getElem?_eq_some_iff.1 hB).1
  have hsh : w.shape? b = some (e, cur.size) := by simp [World.shape?, hB]
  have hat : (w.freeze ⟨b, cur.size, none⟩ 1).heap[b]? = some (.cells cur e (cur.size, cur.size + 1)) := by
    simp [World.freeze, Array.getElem?_modify, hB]
  have hoth : ∀ k, k ≠ b → (w.freeze ⟨b, cur.size, none⟩ 1).heap[k]? = w.heap[k]? := fun k hk => by
    simp [World.freeze, Array.getElem?_modify, Ne.symm hk]
  refine ⟨w.freeze ⟨b, cur.size, none⟩ 1, ?_, k _ (H.step fun S _ hp => ⟨[b], S, fun x hx => (hp.1 x).2 (by simpa [Slc.blks] using hx), ⟨by simp [World.freeze], by simp [World.freeze], by simp [World.freeze], by simp [World.freeze], fun x _ hx => hoth x (by simpa using hx)⟩, ⟨hp.1, fun x hx => ?_, ?_, ?_, fun i v hv => ?_⟩, fun x hx => .inl hx⟩)⟩
  · simp only [Slc.v, Vc.blk, convert, Sem.run_bind, run_underlying h2, run_underlying h3, Result.andThen, beq_self_eq_true]
    simp [markStringish, hsh, Result.andThen]
  · simp [Slc.blks] at hx; subst hx; simpa [World.freeze] using hlt
  · exact hO.1
  · exact h4
  · refine ⟨_, rfl, ?_⟩
    rw [blk_add, cell_of_row _ b i cur e _ hat]
    have := congrArg (fun l => l[i]?) h7
    simp only [Nat.mul_one, List.getElem?_take, Array.getElem?_toList] at this
    have hi : i < n := by
      have h8 := (List.getElem?_eq_some_iff.1 hv).1
      have h9 := hO.1
      simp at h8 h9
      omega
    rw [if_pos hi] at this
    rw [this, hv]
end
end Go.Vc

namespace Go.Proofs.YtabifopphhpciaaGreatDoor
open Go Go.Vc Go.Vc.Asn Go.Gf
section
variable {w0 w : World} {A F Cd : Asn} {p o q g n k : Nat} {x : Cl} {y : Opn} {m : Ms} {s sc : Slc} {rs : Rws} {t : Tg} {L : List (Int × Rp)} {bs : List UInt8}
theorem rdMs {ms : List Ms} (H : Hp w0 w (star (msgsA s ms) F)) {i : Nat} (hi : i < ms.length) : s.l = ms.length ∧ ∃ a, s.a = some a ∧ ∀ j v, ms[i].c[j]? = some v → w.cell? ((a.add (i * 11)).add j) = some v := by
  have hc := H.assoc.cel (s := s)
  exact ⟨Cel.flen (enc := Ms.c) ms_len hc (by decide), Cel.elem (enc := Ms.c) ms_len hc (List.getElem?_eq_getElem hi) (by decide)⟩
theorem sortI_of {l : List Int} (h : List.Pairwise (fun x y => x ≤ y) l) : sortI l = l := List.mergeSort_of_pairwise (by simpa using h)
abbrev awC (q : Nat) : Cl := ⟨⟨3, 1, 0⟩, 7, q, 0, [], none⟩
theorem awake_c : Calls PP F_sherdlaw18_awake #[] w (Rt fun v w' => v = .bool true ∧ Fr [] w w') := by
  refine sim_sherdlaw18_awake _ _ ?_
  unfold vc_sherdlaw18_awake
  have hok : (⟨3, 1, 0⟩ : Cfg).Ok := ⟨by decide, by decide, by decide, by decide, by decide⟩
  refine call (newA_c (c := ⟨3, 1, 0⟩) (id := 7) (n := 3) (k := 1) hok (by decide) (by decide) rfl rfl) ?_
  rintro _ w1 ⟨p, q, g, sc, rs, rfl, hG, H⟩
  have hC : ∀ {w' : World} {A' : Asn}, Hp w w' (star (codeA q g sc rs 3 1) A') → RdCode w' q g sc rs 3 1 := fun H => rdCode hG (by decide) (by decide) (by decide) H
  refine ⟨_, _, rfl, fun h => by simp at h, fun _ => ?_⟩
  refine H.newRow (e := Ty_uint8) (n := 1) (size := 1) ([120].map u8v) rfl rfl (by decide) fun b w2 H => ?_
  refine Hp.cvB (e := Ty_uint8) slT_sl_uint8.ut und_uint8 (by simp) H fun w3 H => ?_
  refine call (put_c (x := awC q) (n := 3) (k := 1) (Vp := rdp ⟨some (blk b), 1, 1⟩ [120]) (bs := [120]) (key := ByteArray.mk #[107]) hC (fun H => H.rdp) hok rfl (by decide) rfl (Int.le_refl 0) (by show (0 : Int) < 4611686018427387903; decide) (by decide) (by decide) (by decide) (((H.take (codeA q g sc rs 3 1)).take (rdp ⟨some (blk b), 1, 1⟩ [120])).take (cliA p (awC q)))) ?_
  rintro _ w4 ⟨o, val, ph, r, ms, rfl, hms, H⟩
  have hml : ms.length = 3 := by have := congrArg List.length hms; simpa [allOf] using this
  obtain ⟨hrl, a, ha, hcs⟩ := rdMs H (i := 2) (by omega)
  have habs : ms[2].abs = ⟨1, 7, 2, 1, ByteArray.mk #[107], Tg.zero, Tg.zero, false, []⟩ := by
    have := congrArg (fun l => l[2]?) hms
    simp only [List.getElem?_map] at this
    rw [List.getElem?_eq_getElem (by omega)] at this
    injection this
  have hk : ms[2].k = 1 := congrArg Am.k habs
  have hsv : ms[2].sv = 2 := congrArg Am.sv habs
  refine ⟨_, _, _, rfl, false, fun _ => ⟨a, ha, by decide, by omega, ms[2].k, hcs 0 _ rfl, by rw [hk]; rfl⟩, fun h => ?_, false, fun _ => ⟨a, ha, by decide, by omega, ms[2].sv, hcs 2 _ rfl, by rw [hsv]; rfl⟩, fun h => by simp at h, fun h => by simp at h, fun _ => ?_⟩
  · rw [hrl, hml] at h
    exact absurd h (by show ¬((decide ((0 : Int) ≠ 0) || decide ((0 : Int) + 1 ≠ 1) || decide (((3 : Nat) : Int) ≠ 3)) = true); decide)
  -- the answers
  have H := H.drop
  generalize hx : ({ awC q with ops := (awC q).ops + 1, now := some o } : Cl) = x at H
  generalize hy : (⟨(awC q).ops + 1, true, ByteArray.mk #[107], val, [120], .ask, Tg.zero, ph⟩ : Opn) = y at H
  have e1 : x.cfg = ⟨3, 1, 0⟩ := by rw [← hx]
  have e2 : y.ph = ph := by rw [← hy]
  have e3 : y.stg = .ask := by rw [← hy]
  have e4 : x.now = some o := by rw [← hx]
  have e5 : x.cd = q := by rw [← hx]
  have hcount : ∀ (sv : Int) (t : Tg), 0 ≤ sv → sv < 3 → t.valid = true → countsB x y ⟨2, 7, sv, 1, ByteArray.mk #[107], Tg.zero, t, false, Slc.nil, []⟩ = true := fun sv t h0 h1 h2 => by
    unfold countsB badB goodB
    rw [e3, ← hx, ← hy]
    simp [h2]
    omega
  have hno : ∀ {L : List (Int × Rp)} {G : Asn} {w' : World} {sv : Int} {t : Tg}, 0 ≤ sv → sv < 3 → t.valid = true → (lput L sv (repl y L ⟨2, 7, sv, 1, ByteArray.mk #[107], Tg.zero, t, false, Slc.nil, []⟩)).length = 1 → Hp w w' (star (cliA p x) (star (opnA o y) (star (phA y.ph (x.cfg, L)) (star (codeA q g sc rs 3 1) G)))) →
      Calls PP F_client_Client_Handle #[.pointer (some (blk p)), .agg (Ms.c ⟨2, 7, sv, 1, ByteArray.mk #[107], Tg.zero, t, false, Slc.nil, []⟩).toArray] w' (Rt fun v w'' => v = .tuple #[Slc.v Slc.nil, Rs.no.v, .bool false] ∧ Hp w w'' (star (cliA p x) (star (opnA o y) (star (phA y.ph (x.cfg, lput L sv (repl y L ⟨2, 7, sv, 1, ByteArray.mk #[107], Tg.zero, t, false, Slc.nil, []⟩))) (star (codeA q g sc rs 3 1) G))))) := fun h0 h1 h2 h3 H => by
    refine Rt.mono (handle_c (Pm := fun _ _ _ _ => False) (by rw [e1]; exact hok) e4 (hcount _ _ h0 h1 h2) (by rw [e3]; decide) (fun h => ?_) H) ?_
    · rw [h3, e1] at h
      exact absurd h (by decide)
    · rintro v w'' (⟨_, h⟩ | ⟨_, _, _, _, _, _, h, _⟩)
      · exact h
      · exact h.elim
  have H : Hp w w4 (star (cliA p x) (star (opnA o y) (star (phA y.ph (x.cfg, [])) (star (codeA q g sc rs 3 1) (star (rdp ⟨some (blk b), 1, 1⟩ [120]) emp))))) := by rw [e1, e2]; exact H
  have e6 : y.bs = [120] := by rw [← hy]
  have e7 : y.put = true := by rw [← hy]
  have e8 : usedOf x y.key = 0 := by rw [← hx]; rfl
  have e9 : x.id = 7 := by rw [← hx]
  have rp : ∀ (L : List (Int × Rp)) (m : Ms) (u : Tg), ((llook L m.sv).getD Rp.no).top.max m.top = u → ((llook L m.sv).getD Rp.no).has = false → ((llook L m.sv).getD Rp.no).data = Slc.nil → repl y L m = ⟨u, false, Slc.nil⟩ := fun L m u h1 h2 h3 => by
    unfold repl
    rw [if_pos e3, h1]
    dsimp only
    rw [h2, h3]
  have r1 : repl y [] ⟨2, 7, 0, 1, ByteArray.mk #[107], Tg.zero, ⟨4, 9⟩, false, Slc.nil, []⟩ = ⟨⟨4, 9⟩, false, Slc.nil⟩ := rp _ _ _ rfl rfl rfl
  have r2 : repl y [(0, ⟨⟨4, 9⟩, false, Slc.nil⟩)] ⟨2, 7, 0, 1, ByteArray.mk #[107], Tg.zero, ⟨6, 1⟩, false, Slc.nil, []⟩ = ⟨⟨6, 1⟩, false, Slc.nil⟩ := rp _ _ _ rfl rfl rfl
  have r3 : repl y [(0, ⟨⟨6, 1⟩, false, Slc.nil⟩)] ⟨2, 7, 2, 1, ByteArray.mk #[107], Tg.zero, ⟨2, 2⟩, false, Slc.nil, []⟩ = ⟨⟨2, 2⟩, false, Slc.nil⟩ := rp _ _ _ rfl rfl rfl
  refine call (hno (sv := 0) (t := ⟨4, 9⟩) (by decide) (by decide) (by decide) rfl H) ?_
  rintro _ w5 ⟨rfl, H5⟩
  rw [r1] at H5
  have H5 : Hp w w5 (star (cliA p x) (star (opnA o y) (star (phA y.ph (x.cfg, [(0, ⟨⟨4, 9⟩, false, Slc.nil⟩)])) (star (codeA q g sc rs 3 1) (star (rdp ⟨some (blk b), 1, 1⟩ [120]) emp))))) := H5
  refine ⟨_, _, _, _, _, _, _, _, rfl, call (hno (sv := 0) (t := ⟨6, 1⟩) (by decide) (by decide) (by decide) rfl H5) ?_⟩
  rintro _ w6 ⟨rfl, H6⟩
  rw [r2] at H6
  have H6 : Hp w w6 (star (cliA p x) (star (opnA o y) (star (phA y.ph (x.cfg, [(0, ⟨⟨6, 1⟩, false, Slc.nil⟩)])) (star (codeA q g sc rs 3 1) (star (rdp ⟨some (blk b), 1, 1⟩ [120]) emp))))) := H6
  have hko : keysOf [(0, (⟨⟨6, 1⟩, false, Slc.nil⟩ : Rp)), (2, ⟨⟨2, 2⟩, false, Slc.nil⟩)] = [0, 2] := sortI_of (by simp)
  have htop : topOf [(0, (⟨⟨6, 1⟩, false, Slc.nil⟩ : Rp)), (2, ⟨⟨2, 2⟩, false, Slc.nil⟩)] 2 = ⟨6, 1⟩ := by
    unfold topOf
    rw [hko]
    rfl
  refine ⟨_, _, _, _, _, _, _, _, rfl, call (handle_c (m := ⟨2, 7, 2, 1, ByteArray.mk #[107], Tg.zero, ⟨2, 2⟩, false, Slc.nil, []⟩) (Pm := fun r R e A' => R = Rs.no ∧ e = false ∧ ∃ ph' ms, ms.map Ms.abs = (allOf 3).map (reqOf x.id { y with stg := .write, tag := ⟨6, 7⟩, ph := ph' } (partOf rs y.bs 1)) ∧ A' = msgsA r ms) (by rw [e1]; exact hok) e4 (hcount 2 ⟨2, 2⟩ (by decide) (by decide) (by decide)) (by rw [e3]; decide) (fun _ w' F H => ?_) H6) ?_⟩
  · rw [r3] at H
    have H : Hp w w' (star (cliA p x) (star (opnA o y) (star (phA y.ph (x.cfg, [(0, ⟨⟨6, 1⟩, false, Slc.nil⟩), (2, ⟨⟨2, 2⟩, false, Slc.nil⟩)])) (star (codeA q g sc rs 3 1) F)))) := H
    have hnx : Tg.next ⟨6, 1⟩ (usedOf x y.key) x.id = ⟨6, 7⟩ := by rw [e8, e9]; rfl
    refine Rt.mono (metAsk_c (n := 3) (t := ⟨6, 1⟩) (fun H => by rw [e5]; exact hC H) (by rw [e1]; exact hok) (by rw [e1]; rfl) (by decide) (by rw [e6]; decide) e4 e3 (by decide) htop e7 (by decide) (by rw [e8]; decide) (by rw [e8]; decide) (by rw [e9]; decide) (by rw [e9]; decide) (by rw [hnx]; decide) H) ?_
    rintro v w7 ⟨ph', r', ms', rfl, hms', H⟩
    rw [hnx] at hms' H
    exact ⟨r', Rs.no, false, _, rfl, ⟨rfl, rfl, ph', ms', hms', rfl⟩, H.swap.drop.swap.drop.swap.drop.swap.drop.swap.drop⟩
  · rintro v w7 (⟨h, _⟩ | ⟨_, r', R, e, A', rfl, ⟨rfl, rfl, ph', ms', hms', rfl⟩, H⟩)
    · rw [r3, e1] at h
      exact absurd h (by decide)
    have hml' : ms'.length = 3 := by have := congrArg List.length hms'; simpa [allOf] using this
    refine ⟨_, _, _, _, _, _, _, _, rfl, H.new fun b82 w8 H => H.stoAll (b := b82) (by rfl) fun w9 H => ?_⟩
    obtain ⟨hrl', a', ha', hcs'⟩ := rdMs (H.take (msgsA r' ms')) (i := 1) (by omega)
    have habs' : ms'[1].abs = reqOf x.id { y with stg := .write, tag := ⟨6, 7⟩, ph := ph' } (partOf rs y.bs 1) 1 := by
      have := congrArg (fun l => l[1]?) hms'
      simp only [List.getElem?_map] at this
      rw [List.getElem?_eq_getElem (by omega)] at this
      injection this
    have hk' : ms'[1].k = 3 := congrArg Am.k habs'
    have ht' : ms'[1].tag = ⟨6, 7⟩ := congrArg Am.tag habs'
    refine ⟨true, fun _ => ⟨a', ha', by decide, by omega, ms'[1].k, hcs' 0 _ rfl, by rw [hk']; rfl⟩, fun h => ?_, true, fun _ => ⟨a', ha', by decide, by omega, ms'[1].tag.n, by rw [add_add]; exact hcs' 5 _ rfl, ms'[1].tag.c, by rw [add_add]; exact hcs' 6 _ rfl, by rw [ht']; rfl⟩, fun h => by simp at h, Rt.ok ⟨rfl, H.fr⟩⟩
    rw [hrl', hml'] at h
    exact absurd h (by decide)
end
end Go.Proofs.YtabifopphhpciaaGreatDoor

namespace Go.Vc
theorem Tg.max_zero {t : Tg} (h : t.valid = true) : Tg.zero.max t = t := by
  unfold Tg.valid Tg.proper at h
  simp only [Bool.or_eq_true, Bool.and_eq_true, decide_eq_true_eq] at h
  rcases h with rfl | h
  · rfl
  · unfold Tg.max
    rw [if_pos]
    unfold Tg.cmp
    rcases cmpI_cases t.n Tg.zero.n with ⟨h1, h2⟩ | ⟨h1, h2⟩ | ⟨h1, h2⟩
    · have : Tg.zero.n = 0 := rfl
      omega
    · rw [h2, if_pos (by decide)]; decide
    · have : Tg.zero.n = 0 := rfl
      omega
theorem Tg.max_self (t : Tg) : t.max t = t := by
  unfold Tg.max
  split <;> rfl
theorem llook_notin {L : List (Int × Rp)} {k : Int} (h : k ∉ L.map (·.1)) : llook L k = none := by
  cases hl : llook L k with
  | none => rfl
  | some v => exact absurd (List.mem_map.2 ⟨_, llook_mem hl, rfl⟩) h
theorem llook_in {L : List (Int × Rp)} {k : Int} (h : k ∈ L.map (·.1)) : ∃ v, llook L k = some v := by
  cases hl : llook L k with
  | none => exact absurd h (llook_none hl)
  | some v => exact ⟨v, rfl⟩
theorem lput_new {L : List (Int × Rp)} {k : Int} {r : Rp} (h : k ∉ L.map (·.1)) : lput L k r = L ++ [(k, r)] := by
  unfold lput
  rw [if_neg h]
end Go.Vc
namespace Go.Proofs.YtabifopphhpciaaGreatDoor
open Go Go.Vc Go.Vc.Asn Go.Gf
theorem allOf_nodup (n : Nat) : (allOf n).Nodup := by
  unfold allOf
  exact List.Pairwise.map _ (fun a b (h : a ≠ b) => by show (a : Int) ≠ (b : Int); omega) List.nodup_range
theorem allOf_mem {n : Nat} {i : Int} : i ∈ allOf n ↔ 0 ≤ i ∧ i < (n : Int) := by
  unfold allOf
  rw [List.mem_map]
  constructor
  · rintro ⟨j, hj, rfl⟩
    have := List.mem_range.1 hj
    omega
  · rintro ⟨h0, h1⟩
    exact ⟨i.toNat, List.mem_range.2 (by omega), by omega⟩
theorem allOf_len (n : Nat) : (allOf n).length = n := by unfold allOf; simp
structure Came (l : List Int) (i : Nat) (t : Tg) (L : List (Int × Rp)) : Prop where
  keys : L.map (·.1) = l.take i
  top : ∀ x ∈ L, x.2.top = t
section
variable {l : List Int} {n i : Nat} {t : Tg} {L : List (Int × Rp)} {y : Opn} {m : Ms}
theorem Came.nil (l : List Int) (t : Tg) : Came l 0 t [] := ⟨rfl, fun _ h => nomatch h⟩
theorem Came.len (h : Came l i t L) (hi : i ≤ l.length) : L.length = i := by
  have := congrArg List.length h.keys
  simpa [Nat.min_eq_left hi] using this
theorem Came.new (h : Came l i t L) (hl : l.Nodup) (hi : i < l.length) : l[i] ∉ L.map (·.1) := by
  rw [h.keys]
  intro hm
  obtain ⟨j, hj, e⟩ := List.getElem_of_mem hm
  rw [List.getElem_take] at e
  have hj2 : j < i := by rw [List.length_take] at hj; omega
  have := (List.getElem_inj (h₀ := by omega) (h₁ := hi) hl).1 e
  omega
theorem Came.put (h : Came l i t L) (hl : l.Nodup) (hi : i < l.length) {r : Rp} (hr : r.top = t) : Came l (i + 1) t (lput L l[i] r) := by
  rw [lput_new (h.new hl hi)]
  refine ⟨?_, fun x hx => ?_⟩
  · rw [List.map_append, h.keys, List.take_succ_eq_append_getElem hi]
    rfl
  · rcases List.mem_append.1 hx with hx | hx
    · exact h.top x hx
    · rw [List.mem_singleton.1 hx]
      exact hr
theorem Came.topOf (h : Came l i t L) (hv : t.valid = true) (h1 : 1 ≤ L.length) : topOf L L.length = t := by
  have hall : ∀ q, q ≤ L.length → Go.Proofs.YtabifopphhpciaaGreatDoor.topOf L q = if q = 0 then Tg.zero else t := fun q => by
    induction q with
    | zero => intro _; rfl
    | succ q ih =>
      intro hq
      have hlt : q < (keysOf L).length := by rw [keysOf_len]; omega
      rw [topOf_succ hlt, ih (by omega)]
      have hmem : (keysOf L)[q] ∈ L.map (·.1) := (keysOf_perm L).mem_iff.1 (List.getElem_mem hlt)
      obtain ⟨v, hv2⟩ := llook_in hmem
      rw [hv2, Option.getD_some, h.top _ (llook_mem hv2), if_neg (Nat.succ_ne_zero q)]
      split
      · exact Tg.max_zero hv
      · exact Tg.max_self t
  rw [hall _ (Nat.le_refl _), if_neg (by omega)]
theorem Came.missing (h : Came l i t L) (hp : l.Perm (allOf n)) : (missing L n).length = n - i := by
  have hl : l.Nodup := hp.nodup_iff.2 (allOf_nodup n)
  have hll : l.length = n := by rw [hp.length_eq, allOf_len]
  have e1 : (Go.Vc.missing L n).Perm (l.filter fun k => (llook L k).isNone) := by
    show ((allOf n).filter _).Perm _
    exact (hp.filter _).symm
  have e2 : l.filter (fun k => (llook L k).isNone) = l.drop i := by
    conv => lhs; rw [← List.take_append_drop i l]
    rw [List.filter_append]
    have h1 : (l.take i).filter (fun k => (llook L k).isNone) = [] := List.filter_eq_nil_iff.2 fun k hk => by
      rw [← h.keys] at hk
      obtain ⟨v, hv⟩ := llook_in hk
      rw [hv]; simp
    have h2 : (l.drop i).filter (fun k => (llook L k).isNone) = l.drop i := List.filter_eq_self.2 fun k hk => by
      rw [llook_notin]
      · rfl
      · rw [h.keys]
        intro hk2
        have hd := List.nodup_append.1 (by rw [List.take_append_drop]; exact hl : (l.take i ++ l.drop i).Nodup)
        exact hd.2.2 k hk2 k hk rfl
    rw [h1, h2, List.nil_append]
  rw [e1.length_eq, e2, List.length_drop, hll]
theorem repl_top (hl : llook L m.sv = none) (ht : if y.stg = .ask then m.top = t ∧ t.valid = true else t = Tg.zero) : (repl y L m).top = t := by
  unfold repl
  rw [hl, Option.getD_none]
  by_cases h : y.stg = .ask
  · rw [if_pos h] at ht ⊢
    rw [ht.1]
    exact Tg.max_zero ht.2
  · rw [if_neg h] at ht ⊢
    rw [ht]
    rfl
end
end Go.Proofs.YtabifopphhpciaaGreatDoor

namespace Go.Vc
def stgOf : Nat → Phs
  | 0 => .ask
  | 1 => .write
  | _ => .fin
structure PutSt (c : Cfg) (id : Int) (cd o : Nat) (key : ByteArray) (bs : List UInt8) (nt : Tg) (f : Nat) (x : Cl) (y : Opn) : Prop where
  cfg : x.cfg = c
  id_ : x.id = id
  cd_ : x.cd = cd
  now : x.now = some o
  stg : y.stg = stgOf f
  op : y.op = 1
  put : y.put = true
  key_ : y.key = key
  bs_ : y.bs = bs
  tag : f ≠ 0 → y.tag = nt
  used : f = 0 → (llook x.used key).getD 0 = 0
end Go.Vc
namespace Go.Proofs.YtabifopphhpciaaGreatDoor
open Go Go.Vc Go.Vc.Asn Go.Gf
def NextA (p o : Nat) (c : Cfg) (id : Int) (cd n k : Nat) (rs : Rws) (key : ByteArray) (bs : List UInt8) (nt : Tg) (f : Nat) (Cd : Asn) (r : Slc) (R : Rs) (e : Bool) (A' : Asn) : Prop :=
  (f < 2 ∧ R = Rs.no ∧ e = false ∧ ∃ x y ms, PutSt c id cd o key bs nt (f + 1) x y ∧ ms.map Ms.abs = (allOf n).map (reqOf id y (partOf rs bs k)) ∧ A' = star (msgsA r ms) (star (cliA p x) (star (opnA o y) (star (phA y.ph (c, [])) Cd)))) ∨
  (f = 2 ∧ r = Slc.nil ∧ e = true ∧ R = ⟨1, true, 0, nt, Slc.nil⟩ ∧ A' = emp)
section
variable {w0 w : World} {F Cd : Asn} {p o g n k q f i : Nat} {x : Cl} {y : Opn} {m : Ms} {sc : Slc} {rs : Rws} {t nt : Tg} {L : List (Int × Rp)} {c : Cfg} {id : Int} {cd : Nat} {key : ByteArray} {bs : List UInt8} {l : List Int}
theorem as4 {A B C D E G : Asn} : Ent (star A (star B (star C (star D (star E G))))) (star (star A (star B (star C (star D E)))) G) := (Ent.star (Ent.refl _) ((Ent.star (Ent.refl _) ((Ent.star (Ent.refl _) assoc').trans assoc')).trans assoc')).trans assoc'
theorem step_c (hC : ∀ {w' : World} {A' : Asn}, Hp w0 w' (star Cd A') → RdCode w' cd g sc rs n k) (hc : c.Ok) (hn : c.N = (n : Int)) (hn2 : n ≤ 255) (hb : bs.length ≤ 65536) (hS : PutSt c id cd o key bs nt f x y) (hf : f ≤ 2)
    (hid : 1 ≤ id) (hid2 : id ≤ 65535) (hv : t.valid = true) (hm : t.n ≠ 4611686018427387903) (hnt : nt = t.next 0 id)
    (hp : l.Perm (allOf n)) (hi : i < n) (hq : (c.N + c.K + 1) / 2 = (q : Int)) (hL : Came l i (if f = 0 then t else Tg.zero) L)
    (hsv : m.sv = l.getD i 0) (hk : m.k = 2 * (f : Int) + 2) (hcl : m.cl = id) (hop : m.op = 1) (hkey : m.key = key) (htg : f ≠ 0 → m.tag = nt) (htp : m.top = if f = 0 then t else Tg.zero)
    (H : Hp w0 w (star (cliA p x) (star (opnA o y) (star (phA y.ph (c, L)) (star Cd F))))) :
    Calls PP F_client_Client_Handle #[.pointer (some (blk p)), .agg m.c.toArray] w (Rt fun v w' =>
      (i + 1 < q ∧ v = .tuple #[Slc.v Slc.nil, Rs.no.v, .bool false] ∧ ∃ L', Came l (i + 1) (if f = 0 then t else Tg.zero) L' ∧ Hp w0 w' (star (cliA p x) (star (opnA o y) (star (phA y.ph (c, L')) (star Cd F))))) ∨
      (q ≤ i + 1 ∧ ∃ r R e A', v = .tuple #[Slc.v r, Rs.v R, .bool e] ∧ NextA p o c id cd n k rs key bs nt f Cd r R e A' ∧ Hp w0 w' (star A' F))) := by
  have hl : l.Nodup := hp.nodup_iff.2 (allOf_nodup n)
  have hll : l.length = n := by rw [hp.length_eq, allOf_len]
  have hsv : m.sv = l[i] := by rw [hsv, List.getD_eq_getElem?_getD, List.getElem?_eq_getElem (by omega), Option.getD_some]
  have hmem : 0 ≤ m.sv ∧ m.sv < (n : Int) := by rw [hsv]; exact allOf_mem.1 (hp.mem_iff.1 (List.getElem_mem (by omega)))
  obtain ⟨s1, s2, s3, s4, s5, s6, s7, s8, s9, s10, s11⟩ := hS
  have hf3 : f = 0 ∨ f = 1 ∨ f = 2 := by omega
  have hcnt : countsB x y m = true := by
    unfold countsB badB goodB
    rw [s1, s2, s5, s6, s8, hcl, hop, hkey, hn, hk]
    rcases hf3 with rfl | rfl | rfl
    · simp [stgOf, htp, hv]; omega
    · simp [stgOf, htg, s10]; omega
    · simp [stgOf, htg, s10]; omega
  have hnr : y.stg ≠ .read := by rw [s5]; rcases hf3 with rfl | rfl | rfl <;> decide
  have hrt : (repl y L m).top = if f = 0 then t else Tg.zero := by
    refine repl_top (llook_notin (by rw [hsv]; exact hL.new hl (by omega))) ?_
    rw [s5, htp]
    rcases hf3 with rfl | rfl | rfl
    · rw [if_pos rfl]; exact ⟨rfl, by simpa using hv⟩
    · rw [if_neg (by decide)]; rfl
    · rw [if_neg (by decide)]; rfl
  have hL' := hL.put hl (by omega) hrt
  rw [← hsv] at hL'
  have hlen := hL'.len (by omega)
  generalize hLL : lput L m.sv (repl y L m) = L' at hL' hlen
  subst s1
  refine Rt.mono (handle_c (Pm := NextA p o x.cfg id cd n k rs key bs nt f Cd) hc s4 hcnt hnr (fun hmet w F H => ?_) H) ?_
  · rw [hLL] at H hmet
    rcases hf3 with rfl | rfl | rfl
    · have ht := hL'.topOf (by simpa using hv) (by omega)
      rw [if_pos rfl] at ht
      have hu : usedOf x y.key = 0 := by unfold usedOf; rw [s8]; exact s11 rfl
      have hnx : t.next (usedOf x y.key) x.id = nt := by rw [hu, s2, hnt]
      have hle : nt.n ≤ 4611686018427387903 := by rw [hnt]; exact Tg.next_le hv hm
      refine Rt.mono (metAsk_c (n := n) (t := t) (fun H => by rw [s3]; exact hC H) hc hn hn2 (by rw [s9]; exact hb) s4 s5 (by omega) ht s7 hv (by rw [hu]; decide) (by rw [hu]; decide) (by rw [s2]; exact hid) (by rw [s2]; exact hid2) (by rw [hnx]; exact hle) H) ?_
      rintro v w7 ⟨ph', r', ms', rfl, hms', H⟩
      rw [hnx] at hms' H
      have H := (H.take (phA y.ph (x.cfg, L'))).drop
      exact ⟨r', Rs.no, false, _, rfl, .inl ⟨by decide, rfl, rfl, { x with used := lput x.used y.key nt.n }, { y with stg := .write, tag := nt, ph := ph' }, ms', ⟨rfl, s2, s3, s4, rfl, s6, s7, s8, s9, fun _ => rfl, fun h => absurd h (by decide)⟩, by rw [← s2, ← s9]; exact hms', rfl⟩, H.ent as4⟩
    · refine Rt.mono (metWrite_c (n := n) (fun H => by rw [s3]; exact hC H) hc hn hn2 (by rw [s9]; exact hb) s4 s5 (((H.take Cd).take (opnA o y)).take (cliA p x))) ?_
      rintro v w7 ⟨ph', r', ms', rfl, hms', H⟩
      have H := (H.take (phA y.ph (x.cfg, L'))).drop
      exact ⟨r', Rs.no, false, _, rfl, .inl ⟨by decide, rfl, rfl, x, { y with stg := .fin, ph := ph' }, ms', ⟨rfl, s2, s3, s4, rfl, s6, s7, s8, s9, fun _ => s10 (by decide), fun h => absurd h (by decide)⟩, by rw [← s2, ← s9]; exact hms', rfl⟩, H.ent as4⟩
    · refine Rt.mono (metFin_c s4 s5 H) ?_
      rintro v w7 ⟨rfl, H⟩
      rw [s6, s7, s10 (by decide)]
      exact ⟨Slc.nil, ⟨1, true, 0, nt, Slc.nil⟩, true, emp, rfl, .inr ⟨rfl, rfl, rfl, rfl, rfl⟩, H.drop.drop.drop.drop.ent emp_l⟩
  · rintro v w7 (⟨h, rfl, H⟩ | ⟨h, r', R, e, A', rfl, hP, H⟩)
    · rw [hLL] at h H
      exact .inl ⟨by omega, rfl, L', hL', H⟩
    · rw [hLL] at h
      exact .inr ⟨by omega, r', R, e, A', rfl, hP, H⟩
end
end Go.Proofs.YtabifopphhpciaaGreatDoor

namespace Go.Proofs.YtabifopphhpciaaGreatDoor
open Go Go.Vc Go.Vc.Asn Go.Gf
def chkC (l130 : Slc) (p131 i151 : Int) (w152 : World) (S103 : Slc) (k6 : ByteArray) (b10 b124 : Nat) (Q : Ending → World → Prop) (R161 : Bool → World → Prop) : Prop :=
  (∃ a166 : Addr, l130.a = some a166 ∧ (0 : Int) ≤ i151 ∧ (i151 : Int) < l130.l ∧ ∃ l170 : Int, (w152.drewN 1).cell? ((a166.add (Int.toNat (i151) * 11)).add 0) = some (.int .i64 l170) ∧ (0 : Int) ≤ p131 ∧ (p131 : Int) < 3 ∧ ∃ l174 : Int, (w152.drewN 1).cell? ((blk b124).add (Int.toNat (p131) * 1)) = some (.int .i64 l174) ∧ (((decide (l170 ≠ l174)) = true → R161 true (w152.drewN 1)) ∧ ((decide (l170 ≠ l174)) = false → ∃ a177 : Addr, l130.a = some a177 ∧ (0 : Int) ≤ i151 ∧ (i151 : Int) < l130.l ∧ ∃ l181 : Int, (w152.drewN 1).cell? ((a177.add (Int.toNat (i151) * 11)).add 2) = some (.int .i64 l181) ∧ (((decide (l181 ≠ i151)) = true → R161 true (w152.drewN 1)) ∧ ((decide (l181 ≠ i151)) = false → ∃ a184 : Addr, l130.a = some a184 ∧ (0 : Int) ≤ i151 ∧ (i151 : Int) < l130.l ∧ ∃ l188 : Int, (w152.drewN 1).cell? ((a184.add (Int.toNat (i151) * 11)).add 1) = some (.int .i64 l188) ∧ ∃ N190 : Int, (w152.drewN 1).cell? ((blk b10).add 0) = some (.int .i64 N190) ∧ ∃ K192 : Int, (w152.drewN 1).cell? ((blk b10).add 1) = some (.int .i64 K192) ∧ ∃ V194 : Slc, (w152.drewN 1).cell? ((blk b10).add 2) = some (Slc.v V194) ∧ ∃ I196 : Slc, (w152.drewN 1).cell? ((blk b10).add 3) = some (Slc.v I196) ∧ ∃ P198 : Slc, (w152.drewN 1).cell? ((blk b10).add 4) = some (Slc.v P198) ∧ Calls PP F_sherdlaw18_Tale_id #[(.agg #[(.int .i64 N190), (.int .i64 K192), (Slc.v V194), (Slc.v I196), (Slc.v P198)]), (.int .i64 0)] (w152.drewN 1) (CallK (fun v235 w200 => ∃ i201 : Int, v235 = (.int .i64 i201) ∧ w200.cell? ((a184.add (Int.toNat (i151) * 11)).add 1) = some (.int .i64 l188) ∧ (((decide (l188 ≠ i201)) = true → R161 true w200) ∧ ((decide (l188 ≠ i201)) = false → ∃ a204 : Addr, l130.a = some a204 ∧ (0 : Int) ≤ i151 ∧ (i151 : Int) < l130.l ∧ ∃ l208 : Int, w200.cell? ((a204.add (Int.toNat (i151) * 11)).add 3) = some (.int .i64 l208) ∧ (((decide (l208 ≠ 1)) = true → R161 true w200) ∧ ((decide (l208 ≠ 1)) = false → ∃ a211 : Addr, l130.a = some a211 ∧ (0 : Int) ≤ i151 ∧ (i151 : Int) < l130.l ∧ ∃ l215 : ByteArray, w200.cell? ((a211.add (Int.toNat (i151) * 11)).add 4) = some (.string l215) ∧ (((decide (l215.toList ≠ k6.toList)) = true → R161 true w200) ∧ ((decide (l215.toList ≠ k6.toList)) = false → (((decide (p131 = 1)) = true → ∃ a219 : Addr, l130.a = some a219 ∧ (0 : Int) ≤ i151 ∧ (i151 : Int) < l130.l ∧ ∃ l223 : Slc, w200.cell? ((a219.add (Int.toNat (i151) * 11)).add 10) = some (Slc.v l223) ∧ ToStr PP Ty_sl_uint8 Ty_string w200 (Slc.v l223) fun s225 => ∃ a227 : Addr, S103.a = some a227 ∧ (0 : Int) ≤ i151 ∧ (i151 : Int) < S103.l ∧ ∃ l231 : Slc, w200.cell? (a227.add (Int.toNat (i151) * 1)) = some (Slc.v l231) ∧ ToStr PP Ty_sl_uint8 Ty_string w200 (Slc.v l231) fun s233 => R161 (decide (s225.toList ≠ s233.toList)) w200) ∧ ((decide (p131 = 1)) = false → R161 false w200))))))))) (fun c237 w238 => Q (.panicked c237) w238)))))))
def inC (l130 : Slc) (p131 : Int) (a20 : Addr) (b13 : Nat) (N44 : Option Addr) (S54 : Int) (m246 : Slc) (w245 : World) (Q : Ending → World → Prop) (R140 : Slc → World → Prop) : Prop :=
  ∃ (I251 : Slc → Int → World → Prop) (m252 : Slc → Int → World → Nat), I251 l130 0 w245 ∧ ∀ (l248 : Slc) (i249 : Int) (w250 : World), I251 l248 i249 w250 → ((decide (i249 < S54)) = true → ∃ l259 : Int, (w250.drewN 1).cell? ((a20.add 0).add 0) = some (.int .i64 l259) ∧ Calls PP F_client_Client_Tick #[(.pointer N44)] (w250.drewN 1) (CallK (fun v426 w261 => ∃ T262 : Slc, v426 = (Slc.v T262) ∧ w261.cell? ((a20.add 0).add 0) = some (.int .i64 l259) ∧ ((decide ((T262.l : Int) ≠ (wr .i64 (l259 - i249)))) = true → Q (.returned (.bool false)) w261) ∧ ((decide ((T262.l : Int) ≠ (wr .i64 (l259 - i249)))) = false → ∃ a267 : Addr, m246.a = some a267 ∧ (0 : Int) ≤ i249 ∧ (i249 : Int) < m246.l ∧ ∃ l271 : Int, w261.cell? (a267.add (Int.toNat (i249) * 1)) = some (.int .i64 l271) ∧ ∃ a273 : Addr, l248.a = some a273 ∧ (0 : Int) ≤ l271 ∧ (l271 : Int) < l248.l ∧ ∃ K277 : Int, w261.cell? ((a273.add (Int.toNat (l271) * 11)).add 0) = some (.int .i64 K277) ∧ ∃ C279 : Int, w261.cell? ((a273.add (Int.toNat (l271) * 11)).add 1) = some (.int .i64 C279) ∧ ∃ S281 : Int, w261.cell? ((a273.add (Int.toNat (l271) * 11)).add 2) = some (.int .i64 S281) ∧ ∃ O283 : Int, w261.cell? ((a273.add (Int.toNat (l271) * 11)).add 3) = some (.int .i64 O283) ∧ ∃ K285 : ByteArray, w261.cell? ((a273.add (Int.toNat (l271) * 11)).add 4) = some (.string K285) ∧ ∃ C287 : Int, w261.cell? ((a273.add (Int.toNat (l271) * 11)).add 5) = some (.int .i64 C287) ∧ ∃ C289 : Int, w261.cell? ((a273.add (Int.toNat (l271) * 11)).add 6) = some (.int .i64 C289) ∧ ∃ C291 : Int, w261.cell? ((a273.add (Int.toNat (l271) * 11)).add 7) = some (.int .i64 C291) ∧ ∃ C293 : Int, w261.cell? ((a273.add (Int.toNat (l271) * 11)).add 8) = some (.int .i64 C293) ∧ ∃ H295 : Bool, w261.cell? ((a273.add (Int.toNat (l271) * 11)).add 9) = some (.bool H295) ∧ ∃ D297 : Slc, w261.cell? ((a273.add (Int.toNat (l271) * 11)).add 10) = some (Slc.v D297) ∧ New w261 #[(.int .i64 0), (.int .i64 0), (.int .i64 0), (.int .i64 0), (.string (ByteArray.mk #[])), (.int .i64 0), (.int .i64 0), (.int .i64 0), (.int .i64 0), (.bool false), (Slc.v Slc.nil)] Ty_api_Message fun b299 w300 => StoN (blk b299) 0 [(.int .i64 K277), (.int .i64 C279), (.int .i64 S281), (.int .i64 O283), (.string K285), (.int .i64 C287), (.int .i64 C289), (.int .i64 C291), (.int .i64 C293), (.bool H295), (Slc.v D297)] w300 fun w302 => ∃ l306 : Int, ∃ l309 : Int, ∃ l312 : Int, ∃ l315 : Int, ∃ l318 : ByteArray, ∃ C321 : Int, ∃ C323 : Int, ∃ C326 : Int, ∃ C328 : Int, ∃ R304 : Option (Int × Int) → Option (Slc × Int × Bool × Int × Int × Int × Slc × Bool) → Option Nat → Option Unit → World → Prop, R304 none none none none (w302.drewN 1) ∧ (∀ (o355 : Option (Int × Int)) (o357 : Option Nat) (w305 : World), R304 o355 none o357 none w305 → w305.cell? ((blk b299).add 0) = some (.int .i64 l306)) ∧ (∀ (o355 : Option (Int × Int)) (o357 : Option Nat) (w305 : World), R304 o355 none o357 none w305 → w305.cell? ((blk b299).add 1) = some (.int .i64 l309)) ∧ (∀ (o355 : Option (Int × Int)) (o357 : Option Nat) (w305 : World), R304 o355 none o357 none w305 → w305.cell? ((blk b299).add 2) = some (.int .i64 l312)) ∧ (∀ (o355 : Option (Int × Int)) (o357 : Option Nat) (w305 : World), R304 o355 none o357 none w305 → w305.cell? ((blk b299).add 3) = some (.int .i64 l315)) ∧ (∀ (o355 : Option (Int × Int)) (o357 : Option Nat) (w305 : World), R304 o355 none o357 none w305 → w305.cell? ((blk b299).add 4) = some (.string l318)) ∧ (∀ (o355 : Option (Int × Int)) (o357 : Option Nat) (w305 : World), R304 o355 none o357 none w305 → w305.cell? (((blk b299).add 5).add 0) = some (.int .i64 C321) ∧ w305.cell? (((blk b299).add 5).add 1) = some (.int .i64 C323)) ∧ (∀ (o357 : Option Nat) (w305 : World), R304 none none o357 none w305 → w305.cell? ((blk b13).add 0) = some (.int .i64 C326) ∧ w305.cell? ((blk b13).add 1) = some (.int .i64 C328)) ∧ (∀ (o357 : Option Nat) (w305 : World), R304 none none o357 none w305 → Calls PP F_sherdlaw18_only #[(.bool (decide (p131 = 0))), (.agg #[(.int .i64 C326), (.int .i64 C328)])] w305 (CallK (fun v334 w331 => ∃ C332 : Int, ∃ C333 : Int, v334 = (.agg #[(.int .i64 C332), (.int .i64 C333)]) ∧ R304 (some (C332, C333)) none o357 none w331) (fun c336 w337 => Q (.panicked c336) w337))) ∧ (∀ (C332 : Int) (C333 : Int) (o357 : Option Nat) (w305 : World), R304 (some (C332, C333)) none o357 none w305 → Calls PP F_client_Client_Handle #[(.pointer N44), (.agg #[(.int .i64 (wr .i64 (l306 + 1))), (.int .i64 l309), (.int .i64 l312), (.int .i64 l315), (.string l318), (.int .i64 C321), (.int .i64 C323), (.int .i64 C332), (.int .i64 C333), (.bool false), (Slc.v Slc.nil)])] w305 (CallK (fun v347 w338 => ∃ H339 : Slc, ∃ O340 : Int, ∃ P341 : Bool, ∃ S342 : Int, ∃ C343 : Int, ∃ C344 : Int, ∃ V345 : Slc, ∃ H346 : Bool, v347 = (.tuple #[(Slc.v H339), (.agg #[(.int .i64 O340), (.bool P341), (.int .i64 S342), (.int .i64 C343), (.int .i64 C344), (Slc.v V345)]), (.bool H346)]) ∧ R304 (some (C332, C333)) (some (H339, O340, P341, S342, C343, C344, V345, H346)) o357 none w338) (fun c349 w350 => Q (.panicked c349) w350))) ∧ (∀ (o355 : Option (Int × Int)) (o356 : Option (Slc × Int × Bool × Int × Int × Int × Slc × Bool)) (w305 : World), R304 o355 o356 none none w305 → New w305 #[(.int .i64 0), (.bool false), (.int .i64 0), (.int .i64 0), (.int .i64 0), (Slc.v Slc.nil)] Ty_api_Result fun b351 w352 => R304 o355 o356 (some b351) none w352) ∧ (∀ (C332 : Int) (C333 : Int) (H339 : Slc) (O340 : Int) (P341 : Bool) (S342 : Int) (C343 : Int) (C344 : Int) (V345 : Slc) (H346 : Bool) (b351 : Nat) (w305 : World), R304 (some (C332, C333)) (some (H339, O340, P341, S342, C343, C344, V345, H346)) (some b351) none w305 → StoN (blk b351) 0 [(.int .i64 O340), (.bool P341), (.int .i64 S342), (.int .i64 C343), (.int .i64 C344), (Slc.v V345)] w305 fun w354 => R304 (some (C332, C333)) (some (H339, O340, P341, S342, C343, C344, V345, H346)) (some b351) (some ()) w354) ∧ (∀ (C332 : Int) (C333 : Int) (H339 : Slc) (O340 : Int) (P341 : Bool) (S342 : Int) (C343 : Int) (C344 : Int) (V345 : Slc) (H346 : Bool) (b351 : Nat) (w305 : World), R304 (some (C332, C333)) (some (H339, O340, P341, S342, C343, C344, V345, H346)) (some b351) (some ()) w305 → (((decide (H346 ≠ ((decide (p131 = 2)) && (decide (i249 = (wr .i64 (S54 - 1))))))) || (decide ((decide (0 < (H339.l : Int))) ≠ ((decide (p131 < 2)) && (decide (i249 = (wr .i64 (S54 - 1)))))))) = true → Q (.returned (.bool false)) w305) ∧ (((decide (H346 ≠ ((decide (p131 = 2)) && (decide (i249 = (wr .i64 (S54 - 1))))))) || (decide ((decide (0 < (H339.l : Int))) ≠ ((decide (p131 < 2)) && (decide (i249 = (wr .i64 (S54 - 1)))))))) = false → (H346 = true → ∃ l373 : Int, w305.cell? ((blk b351).add 2) = some (.int .i64 l373) ∧ ∃ x379 : Bool, ((decide (l373 = 0)) = true → ∃ l377 : Int, w305.cell? ((blk b351).add 0) = some (.int .i64 l377) ∧ x379 = (decide (l377 = 1))) ∧ ((decide (l373 = 0)) = false → x379 = false) ∧ ∃ R384 : Bool → World → Prop, ((x379 = true → ∃ C387 : Int, w305.cell? (((blk b351).add 3).add 0) = some (.int .i64 C387) ∧ ∃ C389 : Int, w305.cell? (((blk b351).add 3).add 1) = some (.int .i64 C389) ∧ ∃ C391 : Int, w305.cell? ((blk b13).add 0) = some (.int .i64 C391) ∧ ∃ C393 : Int, w305.cell? ((blk b13).add 1) = some (.int .i64 C393) ∧ Calls PP F_tag_Compare #[(.agg #[(.int .i64 C387), (.int .i64 C389)]), (.agg #[(.int .i64 C391), (.int .i64 C393)])] w305 (CallK (fun v397 w395 => ∃ C396 : Int, v397 = (.int .i64 C396) ∧ R384 (decide (C396 = 1)) w395) (fun c399 w400 => Q (.panicked c399) w400))) ∧ (x379 = false → R384 false w305)) ∧ ∀ (x385 : Bool) (w386 : World), R384 x385 w386 → ∃ x411 : Bool, (x385 = true → ∃ C403 : Int, w386.cell? (((blk b351).add 3).add 0) = some (.int .i64 C403) ∧ ∃ C405 : Int, w386.cell? (((blk b351).add 3).add 1) = some (.int .i64 C405) ∧ ∃ C407 : Int, w386.cell? (((blk b299).add 5).add 0) = some (.int .i64 C407) ∧ ∃ C409 : Int, w386.cell? (((blk b299).add 5).add 1) = some (.int .i64 C409) ∧ x411 = (decide (C403 = C407) && (decide (C405 = C409)))) ∧ (x385 = false → x411 = false) ∧ Q (.returned (.bool x411)) w386) ∧ (H346 = false → ((decide (i249 = (wr .i64 (S54 - 1)))) = true → R140 H339 w305) ∧ ((decide (i249 = (wr .i64 (S54 - 1)))) = false → (I251 l248 (wr .i64 (i249 + 1)) w305 ∧ m252 l248 (wr .i64 (i249 + 1)) w305 < m252 l248 i249 w250))))))) (fun c428 w429 => Q (.panicked c428) w429))) ∧ ((decide (i249 < S54)) = false → R140 l248 w250)
def phC (P108 S103 : Slc) (k6 : ByteArray) (a20 : Addr) (b10 b13 b124 : Nat) (N44 : Option Addr) (S54 : Int) (w127 : World) (Q : Ending → World → Prop) : Prop :=
  ∃ (I133 : Slc → Int → World → Prop) (m134 : Slc → Int → World → Nat), I133 P108 0 w127 ∧ ∀ (l130 : Slc) (p131 : Int) (w132 : World), I133 l130 p131 w132 → ((decide (p131 < 3)) = true → ∃ R140 : Slc → World → Prop, (∃ l145 : Int, w132.cell? ((a20.add 0).add 0) = some (.int .i64 l145) ∧ ((decide ((l130.l : Int) ≠ l145)) = true → Q (.returned (.bool false)) w132) ∧ ((decide ((l130.l : Int) ≠ l145)) = false → ∃ (I153 : Int → World → Prop) (m154 : Int → World → Nat), I153 0 w132 ∧ ∀ (i151 : Int) (w152 : World), I153 i151 w152 → ((decide (i151 < (l130.l : Int))) = true → ∃ R161 : Bool → World → Prop, chkC l130 p131 i151 w152 S103 k6 b10 b124 Q R161 ∧ ∀ (s160 : Bool) (w162 : World), R161 s160 w162 → (s160 = true → Q (.returned (.bool false)) w162) ∧ (s160 = false → (I153 (wr .i64 (i151 + 1)) w162 ∧ m154 (wr .i64 (i151 + 1)) w162 < m154 i151 w152))) ∧ ((decide (i151 < (l130.l : Int))) = false → ∃ l241 : Int, (w152.drewN 1).cell? ((a20.add 0).add 0) = some (.int .i64 l241) ∧ ∃ l243 : Slc, (w152.drewN 1).cell? ((blk b10).add 4) = some (Slc.v l243) ∧ Calls PP F_sherdlaw18_mixed #[(.int .i64 l241), (Slc.v l243), (.int .i64 p131)] (w152.drewN 1) (CallK (fun v432 w245 => ∃ m246 : Slc, v432 = (Slc.v m246) ∧ inC l130 p131 a20 b13 N44 S54 m246 w245 Q R140) (fun c434 w435 => Q (.panicked c434) w435))))) ∧ ∀ (l139 : Slc) (w141 : World), R140 l139 w141 → (I133 l139 (wr .i64 (p131 + 1)) w141 ∧ m134 l139 (wr .i64 (p131 + 1)) w141 < m134 l130 p131 w132)) ∧ ((decide (p131 < 3)) = false → Q (.returned (.bool false)) w132)
def kindOf : Nat → Int
  | 0 => 1
  | 1 => 3
  | _ => 5
section
variable {w0 w : World} {F : Asn} {p o n k q f i tp b10 b13 b124 cd g : Nat} {x : Cl} {y : Opn} {r sO sc I : Slc} {rs os : Rws} {ms : List Ms} {is : List Int} {c : Cfg} {id : Int} {key : ByteArray} {bs : List UInt8} {t nt : Tg} {l : List Int} {a b : Int} {V P s : Slc}
theorem allOf_at {n i : Nat} (h : i < n) : (allOf n)[i]? = some (i : Int) := by
  unfold allOf
  rw [List.getElem?_map, List.getElem?_range h]
  rfl
theorem ms_at (hms : ms.map Ms.abs = (allOf n).map (reqOf id y (partOf rs bs k))) (hi : i < n) : ∃ h : i < ms.length, (ms[i]'h).abs = reqOf id y (partOf rs bs k) (i : Int) := by
  have hl : ms.length = n := by have := congrArg List.length hms; simpa [allOf] using this
  refine ⟨by omega, ?_⟩
  have h := congrArg (fun l => l[i]?) hms
  simp only [List.getElem?_map] at h
  rw [List.getElem?_eq_getElem (by omega), allOf_at hi] at h
  injection h
theorem ms_kind (hS : PutSt c id cd o key bs nt f x y) (j : Int) (pt : Int → List UInt8) : (reqOf id y pt j).k = kindOf f ∧ (reqOf id y pt j).cl = id ∧ (reqOf id y pt j).sv = j ∧ (reqOf id y pt j).op = 1 ∧ (reqOf id y pt j).key = key ∧ (f = 1 → (reqOf id y pt j).bs = pt j) ∧ (f ≠ 0 → (reqOf id y pt j).tag = nt) := by
  obtain ⟨s1, s2, s3, s4, s5, s6, s7, s8, s9, s10, s11⟩ := hS
  rcases f with _ | _ | f
  · unfold reqOf; rw [s5]; exact ⟨rfl, rfl, rfl, s6, s8, fun h => absurd h (by decide), fun h => absurd rfl h⟩
  · unfold reqOf; rw [s5]; exact ⟨rfl, rfl, rfl, s6, s8, fun _ => rfl, fun h => s10 h⟩
  · unfold reqOf; rw [s5]; exact ⟨rfl, rfl, rfl, s6, s8, fun h => by omega, fun h => s10 h⟩
theorem msBs (H : Hp w0 w (star (msgsA s ms) F)) (hi : i < ms.length) : Byt w ms[i].data ms[i].bs := by
  have H := H.assoc.drop.ent (Ent.star (all_at mdA ms i hi) (Ent.refl _))
  have H : Hp w0 w (star (own Ty_uint8 1 ms[i].data (ms[i].bs.map u8v)) _) := H.assoc
  exact H.cel (s := ms[i].data)
theorem chk_c {Q : Ending → World → Prop} (hms : ms.map Ms.abs = (allOf n).map (reqOf id y (partOf rs bs k))) (hS : PutSt c id cd o key bs nt f x y) (hf : f ≤ 2) (hi : i < n) (hid : id = idOf is) (hI : Cel w0 I 1 (is.map iK))
    (hos : mt os = (mt rs).map (fun fs => lin fs (cutV bs k) (sizeN bs.length k))) (hol : os.length = n)
    (H : Hp w0 w (star (msgsA r ms) (star (bk b124 Ty_3_int #[.int .i64 1, .int .i64 3, .int .i64 5]) (star (bk b10 Ty_sherdlaw18_Tale #[.int .i64 a, .int .i64 b, V.v, I.v, P.v]) (star (rwsA sO os) F))))) :
    chkC r (f : Int) (i : Int) w sO key b10 b124 Q (fun z w' => z = false ∧ Hp w0 w' (star (msgsA r ms) (star (bk b124 Ty_3_int #[.int .i64 1, .int .i64 3, .int .i64 5]) (star (bk b10 Ty_sherdlaw18_Tale #[.int .i64 a, .int .i64 b, V.v, I.v, P.v]) (star (rwsA sO os) F))))) := by
  obtain ⟨him, habs⟩ := ms_at hms hi
  obtain ⟨k1, k2, k3, k4, k5, k6, -⟩ := ms_kind hS (i : Int) (partOf rs bs k)
  have H := H.drew 1
  obtain ⟨hrl, ar, har, hcs⟩ := rdMs H him
  have e1 : ms[i].k = kindOf f := (congrArg Am.k habs).trans k1
  have e2 : ms[i].cl = id := (congrArg Am.cl habs).trans k2
  have e3 : ms[i].sv = (i : Int) := (congrArg Am.sv habs).trans k3
  have e4 : ms[i].op = 1 := (congrArg Am.op habs).trans k4
  have e5 : ms[i].key = key := (congrArg Am.key habs).trans k5
  have hkc : (#[Value.int .i64 1, .int .i64 3, .int .i64 5] : Array Value)[(f : Nat)]? = some (.int .i64 (kindOf f)) := by
    have : f = 0 ∨ f = 1 ∨ f = 2 := by omega
    rcases this with rfl | rfl | rfl <;> rfl
  unfold chkC
  refine ⟨ar, har, by omega, by omega, ms[i].k, hcs 0 _ rfl, by omega, by omega, kindOf f, by rw [Int.toNat_natCast, Nat.mul_one]; exact H.cell (b := b124) (i := f) hkc, fun h => ?_, fun _ => ⟨ar, har, by omega, by omega, ms[i].sv, hcs 2 _ rfl, fun h => ?_, fun _ => ⟨ar, har, by omega, by omega, ms[i].cl, hcs 1 _ rfl, _, H.cell (b := b10) (i := 0) rfl, _, H.cell (b := b10) (i := 1) rfl, _, H.cell (b := b10) (i := 2) rfl, _, H.cell (b := b10) (i := 3) rfl, _, H.cell (b := b10) (i := 4) rfl, call (id_c (hI.fr0 H.fr)) ?_⟩⟩⟩
  · exact absurd e1 (of_decide_eq_true h)
  · exact absurd e3 (of_decide_eq_true h)
  rintro _ w1 ⟨rfl, f1⟩
  have H := H.fr0 f1
  obtain ⟨-, ar', har', hcs⟩ := rdMs H him
  obtain rfl : ar = ar' := by rw [har] at har'; injection har'
  refine ⟨_, rfl, hcs 1 _ rfl, fun h => ?_, fun _ => ⟨ar, har, by omega, by omega, ms[i].op, hcs 3 _ rfl, fun h => ?_, fun _ => ⟨ar, har, by omega, by omega, ms[i].key, hcs 4 _ rfl, fun h => ?_, fun _ => ⟨fun h => ?_, fun _ => ⟨rfl, H⟩⟩⟩⟩⟩
  · exact absurd (e2.trans hid) (of_decide_eq_true h)
  · exact absurd e4 (of_decide_eq_true h)
  · exact absurd (congrArg ByteArray.toList e5) (of_decide_eq_true h)
  · have hf1 : f = 1 := by have := of_decide_eq_true h; omega
    have hio : i < os.length := by omega
    have hb : ms[i].bs = os[i].2 := by
      have h1 : ms[i].bs = partOf rs bs k (i : Int) := (congrArg Am.bs habs).trans (k6 hf1)
      have h2 : (mt os)[i]? = some os[i].2 := by unfold mt; rw [List.getElem?_map, List.getElem?_eq_getElem hio]; rfl
      rw [hos, List.getElem?_map] at h2
      rw [h1]
      unfold partOf
      rw [Int.toNat_natCast]
      rw [List.getD_eq_getElem?_getD]
      cases hr : (mt rs)[i]? with
      | none => rw [hr] at h2; exact nomatch h2
      | some v => rw [hr] at h2; injection h2
    have hR : RdR w1 sO os := rdR (H.take (rwsA sO os)).assoc
    refine ⟨ar, har, by omega, by omega, ms[i].data, hcs 10 _ rfl, ToStr.rule slT_sl_uint8.ut und_string und_uint8 (msBs H him) (hR.cel.rdS (i := i) hio fun a2 ha2 => ToStr.rule slT_sl_uint8.ut und_string und_uint8 (hR.at_ hio) ?_)⟩
    rw [hb]
    exact ⟨by simp, H⟩
abbrev inF (s r : Slc) (l : List Int) (ms : List Ms) (t : Tg) (b13 tp : Nat) (c : Cfg) (sv : Slc) (G : Asn) : Asn :=
  star (own Ty_int 1 s (l.map iK)) (star (msgsA r ms) (star (bk b13 Ty_api_Tag #[.int .i64 t.n, .int .i64 t.c]) (star (bk tp Ty_sherdlaw18_Town #[.int .i64 c.N, .int .i64 c.K, .int .i64 0, Slc.v sv]) G)))
abbrev inA (p : Nat) (x : Cl) (o : Nat) (y : Opn) (c : Cfg) (L : List (Int × Rp)) (cd g : Nat) (sc : Slc) (rs : Rws) (n k : Nat) (F : Asn) : Asn :=
  star (cliA p x) (star (opnA o y) (star (phA y.ph (c, L)) (star (codeA cd g sc rs n k) F)))
theorem as4r {A B C D E G : Asn} : Ent (star (star A (star B (star C (star D E)))) G) (star A (star B (star C (star D (star E G))))) := assoc.trans (Ent.star (Ent.refl _) (assoc.trans (Ent.star (Ent.refl _) (assoc.trans (Ent.star (Ent.refl _) assoc)))))
abbrev inM (b1 : Nat) (m : Ms) (F : Asn) : Asn := star (bk b1 Ty_api_Message m.c.toArray) F
abbrev ResU := Slc × Int × Bool × Int × Int × Int × Slc × Bool
def resU (h : Slc) (R : Rs) (e : Bool) : ResU := (h, R.op, R.put, R.status, R.tag.n, R.tag.c, R.val, e)
def rsB (o2 : Option ResU) (o3 : Option Nat) (o4 : Option Unit) (F : Asn) : Asn :=
  match o3, o4, o2 with
  | none, _, _ => F
  | some b, none, _ => star (bk b Ty_api_Result #[.int .i64 0, .bool false, .int .i64 0, .int .i64 0, .int .i64 0, Slc.nil.v]) F
  | some b, some _, some (_, O, P, S, C, D, V, _) => star (bk b Ty_api_Result #[.int .i64 O, .bool P, .int .i64 S, .int .i64 C, .int .i64 D, V.v]) F
  | some _, some _, none => F
def inP (p : Nat) (x : Cl) (o : Nat) (y : Opn) (c : Cfg) (L : List (Int × Rp)) (cd g : Nat) (sc : Slc) (rs : Rws) (n k q i f : Nat) (l : List Int) (u : Tg) (id : Int) (key : ByteArray) (bs : List UInt8) (nt : Tg) (o2 : Option ResU) (F : Asn) (A : Asn) : Prop :=
  match o2 with
  | none => A = inA p x o y c L cd g sc rs n k F
  | some z => (i + 1 < q ∧ z = resU Slc.nil Rs.no false ∧ ∃ L', Came l (i + 1) u L' ∧ A = inA p x o y c L' cd g sc rs n k F) ∨
      (q ≤ i + 1 ∧ ∃ h R e A', z = resU h R e ∧ NextA p o c id cd n k rs key bs nt f (codeA cd g sc rs n k) h R e A' ∧ A = star A' F)
theorem inner_c {Q : Ending → World → Prop} {R140 : Slc → World → Prop} {G : Asn} {sv : Slc} (hC : ∀ {w' : World} {A' : Asn}, Hp w0 w' (star (codeA cd g sc rs n k) A') → RdCode w' cd g sc rs n k) (hc : c.Ok) (hn : c.N = (n : Int)) (hn1 : 1 ≤ n) (hn2 : n ≤ 255)
    (hb : bs.length ≤ 65536) (hS : PutSt c id cd o key bs nt f x y) (hf : f ≤ 2) (hid : 1 ≤ id) (hid2 : id ≤ 65535) (hv : t.valid = true) (hm : t.n ≠ 4611686018427387903) (hnt : nt = t.next 0 id)
    (hp : l.Perm (allOf n)) (hq : (c.N + c.K + 1) / 2 = (q : Int)) (hq1 : 1 ≤ q) (hqn : q ≤ n) (hms : ms.map Ms.abs = (allOf n).map (reqOf id y (partOf rs bs k)))
    (hR : f < 2 → ∀ r' w' x' y' ms', PutSt c id cd o key bs nt (f + 1) x' y' → ms'.map Ms.abs = (allOf n).map (reqOf id y' (partOf rs bs k)) → Hp w0 w' (star (msgsA r' ms') (inA p x' o y' c [] cd g sc rs n k (star (bk b13 Ty_api_Tag #[.int .i64 t.n, .int .i64 t.c]) (star (bk tp Ty_sherdlaw18_Town #[.int .i64 c.N, .int .i64 c.K, .int .i64 0, Slc.v sv]) G)))) → R140 r' w')
    (hQ : ∀ w', Fr [] w0 w' → Q (.returned (.bool true)) w')
    (H : Hp w0 w (inA p x o y c [] cd g sc rs n k (inF s r l ms t b13 tp c sv G))) : inC r (f : Int) (blk tp) b13 (some (blk p)) (q : Int) s w Q R140 := by
  have hll : l.length = n := by rw [hp.length_eq, allOf_len]
  unfold inC
  refine ⟨fun r' z w' => r' = r ∧ ∃ (i : Nat) (L : List (Int × Rp)), z = (i : Int) ∧ i < q ∧ Came l i (if f = 0 then t else Tg.zero) L ∧ Hp w0 w' (inA p x o y c L cd g sc rs n k (inF s r l ms t b13 tp c sv G)), fun _ z _ => q - z.toNat, ⟨rfl, 0, [], rfl, by omega, Came.nil _ _, H⟩, ?_⟩
  clear H
  rintro r' _ w1 ⟨rfl, i, L, rfl, hi, hL, H⟩
  refine ⟨fun _ => ?_, fun h => absurd h (by simp; omega)⟩
  have H := H.drew 1
  refine ⟨_, H.cell2 (b := tp) (i := 0) (j := 0) rfl, call (tick_c (n := n) (k := k) (fun H => by rw [hS.cd_]; exact hC H) hn hn2 (by rw [hS.bs_]; exact hb) hS.now (by rw [hS.stg]; unfold stgOf; split <;> decide) H) ?_⟩
  rintro _ w2 ⟨r2, ms2, rfl, hms2, H⟩
  have hl2 : ms2.length = n - i := by
    have h1 := congrArg List.length hms2
    rw [List.length_map, List.length_map, hL.missing hp] at h1
    exact h1
  obtain ⟨hr2, -⟩ := rdMs H (i := 0) (by omega)
  have H := H.drop
  refine ⟨_, rfl, H.cell2 (b := tp) (i := 0) (j := 0) rfl, fun h => ?_, fun _ => ?_⟩
  · exfalso
    have h := of_decide_eq_true h
    rw [hr2, hl2, hn, wr64 (by omega) (by omega)] at h
    omega
  -- the message
  have hil : i < l.length := by omega
  have hmem : 0 ≤ l[i] ∧ l[i] < (n : Int) := allOf_mem.1 (hp.mem_iff.1 (List.getElem_mem hil))
  obtain ⟨j, hj⟩ : ∃ j : Nat, l[i] = (j : Int) := ⟨l[i].toNat, by omega⟩
  have hjn : j < n := by omega
  obtain ⟨hjm, habs⟩ := ms_at hms hjn
  obtain ⟨k1, k2, k3, k4, k5, -, k7⟩ := ms_kind hS (j : Int) (partOf rs bs k)
  obtain ⟨hrl, ar, har, hcs⟩ := rdMs (H.take (msgsA r' ms)) hjm
  generalize hmm : ms[j] = m at habs hcs
  obtain ⟨mk, mcl, msv, mop, mkey, mtag, mtop, mhas, mdata, mbs⟩ := m
  obtain rfl : mk = kindOf f := (congrArg Am.k habs).trans k1
  obtain rfl : id = mcl := ((congrArg Am.cl habs).trans k2).symm
  obtain rfl : msv = (j : Int) := (congrArg Am.sv habs).trans k3
  obtain rfl : mop = 1 := (congrArg Am.op habs).trans k4
  obtain rfl : key = mkey := ((congrArg Am.key habs).trans k5).symm
  have ht : f ≠ 0 → mtag = nt := fun h => (congrArg Am.tag habs).trans (k7 h)
  have hsl : Cel w2 s 1 (l.map iK) := H.cel (s := s)
  have hsn : s.l = n := by
    have := hsl.len
    simp only [List.length_map] at this
    omega
  obtain ⟨a1, ha1, hc1⟩ := hsl.at_ i (iK l[i]) (by simp [List.getElem?_eq_getElem hil])
  rw [hj] at hc1
  refine ⟨a1, ha1, by omega, by omega, (j : Int), by rw [Int.toNat_natCast, Nat.mul_one]; exact hc1, ar, har, by omega, by omega, _, hcs 0 _ rfl, _, hcs 1 _ rfl, _, hcs 2 _ rfl, _, hcs 3 _ rfl, _, hcs 4 _ rfl, _, hcs 5 _ rfl, _, hcs 6 _ rfl, _, hcs 7 _ rfl, _, hcs 8 _ rfl, _, hcs 9 _ rfl, _, hcs 10 _ rfl, H.new fun b1 w3 H => H.stoAll (b := b1) (by rfl) fun w4 H => ?_⟩
  clear hsl hc1 hcs
  generalize hu : (if f = 0 then t else Tg.zero) = u at *
  have H : Hp w0 (w4.drewN 1) (inA p x o y c L cd g sc rs n k (inM b1 ⟨kindOf f, id, (j : Int), 1, key, mtag, mtop, mhas, mdata, mbs⟩ (inF s r' l ms t b13 tp c sv G))) := (((((H.drew 1).take (codeA cd g sc rs n k)).take (phA y.ph (c, L))).take (opnA o y)).take (cliA p x))
  refine ⟨kindOf f, id, (j : Int), 1, key, mtag.n, mtag.c, t.n, t.c, fun o1 o2 o3 o4 w' => (o1 = none ∨ o1 = some (u.n, u.c)) ∧ ∃ A, inP p x o y c L cd g sc rs n k q i f l u id key bs nt o2 (rsB o2 o3 o4 (inM b1 ⟨kindOf f, id, (j : Int), 1, key, mtag, mtop, mhas, mdata, mbs⟩ (inF s r' l ms t b13 tp c sv G))) A ∧ Hp w0 w' A, ⟨.inl rfl, _, rfl, H⟩, ?_⟩
  clear H
  have rd : ∀ {o3 : Option Nat} {w' : World} {A : Asn}, inP p x o y c L cd g sc rs n k q i f l u id key bs nt none (rsB none o3 none (inM b1 ⟨kindOf f, id, (j : Int), 1, key, mtag, mtop, mhas, mdata, mbs⟩ (inF s r' l ms t b13 tp c sv G))) A → Hp w0 w' A →
      ∃ G', Hp w0 w' (inM b1 ⟨kindOf f, id, (j : Int), 1, key, mtag, mtop, mhas, mdata, mbs⟩ (star (bk b13 Ty_api_Tag #[.int .i64 t.n, .int .i64 t.c]) G')) := fun {o3 w' A} hA H => by
    subst hA
    cases o3 with
    | none =>
      have H : Hp w0 w' (inA p x o y c L cd g sc rs n k (inM b1 ⟨kindOf f, id, (j : Int), 1, key, mtag, mtop, mhas, mdata, mbs⟩ (inF s r' l ms t b13 tp c sv G))) := H
      exact ⟨_, (H.blk b13).blk b1⟩
    | some b =>
      have H : Hp w0 w' (inA p x o y c L cd g sc rs n k (star (bk b Ty_api_Result #[.int .i64 0, .bool false, .int .i64 0, .int .i64 0, .int .i64 0, Slc.nil.v]) (inM b1 ⟨kindOf f, id, (j : Int), 1, key, mtag, mtop, mhas, mdata, mbs⟩ (inF s r' l ms t b13 tp c sv G)))) := H
      exact ⟨_, (H.blk b13).blk b1⟩
  refine ⟨?_, ?_, ?_, ?_, ?_, ?_, ?_, ?_, ?_, ?_, ?_, ?_⟩
  · rintro o1 o3 w5 ⟨_, A, hA, H⟩
    obtain ⟨G', H⟩ := rd hA H
    exact H.cell (b := b1) (i := 0) rfl
  · rintro o1 o3 w5 ⟨_, A, hA, H⟩
    obtain ⟨G', H⟩ := rd hA H
    exact H.cell (b := b1) (i := 1) rfl
  · rintro o1 o3 w5 ⟨_, A, hA, H⟩
    obtain ⟨G', H⟩ := rd hA H
    exact H.cell (b := b1) (i := 2) rfl
  · rintro o1 o3 w5 ⟨_, A, hA, H⟩
    obtain ⟨G', H⟩ := rd hA H
    exact H.cell (b := b1) (i := 3) rfl
  · rintro o1 o3 w5 ⟨_, A, hA, H⟩
    obtain ⟨G', H⟩ := rd hA H
    exact H.cell (b := b1) (i := 4) rfl
  · rintro o1 o3 w5 ⟨_, A, hA, H⟩
    obtain ⟨G', H⟩ := rd hA H
    exact ⟨H.cell2 (b := b1) (i := 5) (j := 0) rfl, H.cell2 (b := b1) (i := 5) (j := 1) rfl⟩
  · rintro o3 w5 ⟨_, A, hA, H⟩
    obtain ⟨G', H⟩ := rd hA H
    exact ⟨H.cell (b := b13) (i := 0) rfl, H.cell (b := b13) (i := 1) rfl⟩
  · rintro o3 w5 ⟨_, A, hA, H⟩
    refine call (only_c (t := t)) ?_
    rintro _ w6 ⟨rfl, f6⟩
    refine ⟨u.n, u.c, ?_, .inr rfl, A, hA, H.fr0 f6⟩
    rw [← hu]
    by_cases hf0 : f = 0
    · subst hf0; rfl
    · rw [if_neg (by simp; omega), if_neg hf0]
  · rintro C D o3 w5 ⟨h1, A, hA, H⟩
    obtain ⟨rfl, rfl⟩ : C = u.n ∧ D = u.c := by simpa using h1
    have hk : wr .i64 (kindOf f + 1) = 2 * (f : Int) + 2 := by
      have : f = 0 ∨ f = 1 ∨ f = 2 := by omega
      rcases this with rfl | rfl | rfl <;> decide
    rw [hk]
    subst hA
    refine call (step_c (m := ⟨2 * (f : Int) + 2, id, (j : Int), 1, key, mtag, u, false, Slc.nil, []⟩) (t := t) (nt := nt) (L := L) (l := l) (i := i) (q := q) hC hc hn hn2 hb hS hf hid hid2 hv hm hnt hp (by omega) hq (by rw [hu]; exact hL) ?_ rfl rfl rfl rfl ht hu.symm H) ?_
    · show (j : Int) = l.getD i 0
      rw [List.getD_eq_getElem?_getD, List.getElem?_eq_getElem hil, Option.getD_some, hj]
    · rintro v w6 (⟨h, rfl, L', hL', H⟩ | ⟨h, r3, R, e, A', rfl, hN, H⟩)
      · rw [hu] at hL'
        cases o3 <;> exact ⟨_, _, _, _, _, _, _, _, rfl, .inr rfl, _, .inl ⟨h, rfl, L', hL', rfl⟩, H⟩
      · cases o3 <;> exact ⟨_, _, _, _, _, _, _, _, rfl, .inr rfl, _, .inr ⟨h, r3, R, e, A', rfl, hN, rfl⟩, H⟩
  · rintro o1 o2 w5 ⟨h1, A, hA, H⟩
    refine H.new fun b w6 H => ⟨h1, ?_⟩
    cases o2 with
    | none =>
      subst hA
      have H : Hp w0 w6 (star (bk b Ty_api_Result #[.int .i64 0, .bool false, .int .i64 0, .int .i64 0, .int .i64 0, Slc.nil.v]) (inA p x o y c L cd g sc rs n k (inM b1 ⟨kindOf f, id, (j : Int), 1, key, mtag, mtop, mhas, mdata, mbs⟩ (inF s r' l ms t b13 tp c sv G)))) := H
      exact ⟨_, rfl, ((((H.take (codeA cd g sc rs n k)).take (phA y.ph (c, L))).take (opnA o y)).take (cliA p x))⟩
    | some z =>
      rcases hA with ⟨h, rfl, L', hL', rfl⟩ | ⟨h, r3, R, e, A', rfl, hN, rfl⟩
      · have H : Hp w0 w6 (star (bk b Ty_api_Result #[.int .i64 0, .bool false, .int .i64 0, .int .i64 0, .int .i64 0, Slc.nil.v]) (inA p x o y c L' cd g sc rs n k (inM b1 ⟨kindOf f, id, (j : Int), 1, key, mtag, mtop, mhas, mdata, mbs⟩ (inF s r' l ms t b13 tp c sv G)))) := H
        exact ⟨_, .inl ⟨h, rfl, L', hL', rfl⟩, ((((H.take (codeA cd g sc rs n k)).take (phA y.ph (c, L'))).take (opnA o y)).take (cliA p x))⟩
      · exact ⟨_, .inr ⟨h, r3, R, e, A', rfl, hN, rfl⟩, H.swap⟩
  · rintro C D h O P S C2 D2 V2 e b w5 ⟨h1, A, hA, H⟩
    rcases hA with ⟨h2, hz, L', hL', rfl⟩ | ⟨h2, r3, R, e3, A', hz, hN, rfl⟩
    · have hz0 := hz
      simp only [resU, Prod.mk.injEq] at hz
      obtain ⟨rfl, rfl, rfl, rfl, rfl, rfl, rfl, rfl⟩ := hz
      have H : Hp w0 w5 (inA p x o y c L' cd g sc rs n k (star (bk b Ty_api_Result #[.int .i64 0, .bool false, .int .i64 0, .int .i64 0, .int .i64 0, Slc.nil.v]) (inM b1 ⟨kindOf f, id, (j : Int), 1, key, mtag, mtop, mhas, mdata, mbs⟩ (inF s r' l ms t b13 tp c sv G)))) := H
      refine H.stoAll (b := b) (by rfl) fun w6 H => ⟨h1, _, .inl ⟨h2, hz0, L', hL', rfl⟩, ?_⟩
      exact (((((H.blk b).take (codeA cd g sc rs n k)).take (phA y.ph (c, L'))).take (opnA o y)).take (cliA p x))
    · have hz0 := hz
      simp only [resU, Prod.mk.injEq] at hz
      obtain ⟨rfl, rfl, rfl, rfl, rfl, rfl, rfl, rfl⟩ := hz
      have H : Hp w0 w5 (star A' (star (bk b Ty_api_Result #[.int .i64 0, .bool false, .int .i64 0, .int .i64 0, .int .i64 0, Slc.nil.v]) (inM b1 ⟨kindOf f, id, (j : Int), 1, key, mtag, mtop, mhas, mdata, mbs⟩ (inF s r' l ms t b13 tp c sv G)))) := H
      refine H.swap.stoAll (b := b) (by rfl) fun w6 H => ⟨h1, _, .inr ⟨h2, h, R, e, A', hz0, hN, rfl⟩, (H.blk b).swap⟩
  · rintro C D h O P S C2 D2 V2 e b w5 ⟨h1, A, hA, H⟩
    obtain ⟨rfl, rfl⟩ : C = u.n ∧ D = u.c := by simpa using h1
    have hwq : wr .i64 ((q : Int) - 1) = (q : Int) - 1 := wr64 (by omega) (by omega)
    have hwi : wr .i64 ((i : Int) + 1) = ((i + 1 : Nat) : Int) := by rw [wr64 (by omega) (by omega)]; omega
    rw [hwq, hwi]
    rcases hA with ⟨h2, hz, L', hL', rfl⟩ | ⟨h2, r3, R, e3, A', hz, hN, rfl⟩
    · simp only [resU, Prod.mk.injEq] at hz
      obtain ⟨rfl, rfl, rfl, rfl, rfl, rfl, rfl, rfl⟩ := hz
      have hne : decide ((i : Int) = (q : Int) - 1) = false := decide_eq_false (by omega)
      rw [hne]
      refine ⟨fun h => ?_, fun _ => ⟨fun h => (nomatch h), fun _ => ⟨fun h => (nomatch h), fun _ => ⟨⟨rfl, i + 1, L', rfl, h2, hL', ?_⟩, by show q - ((i + 1 : Nat) : Int).toNat < q - ((i : Nat) : Int).toNat; omega⟩⟩⟩⟩
      · rw [Bool.and_false, Bool.and_false] at h
        exact absurd h (by show ¬((decide (false ≠ false) || decide (decide ((0 : Int) < ((Slc.nil.l : Nat) : Int)) ≠ false)) = true); decide)
      · have H : Hp w0 w5 (inA p x o y c L' cd g sc rs n k (star (bk b Ty_api_Result #[.int .i64 0, .bool false, .int .i64 0, .int .i64 0, .int .i64 0, Slc.nil.v]) (inM b1 ⟨kindOf f, id, (j : Int), 1, key, mtag, mtop, mhas, mdata, mbs⟩ (inF s r' l ms t b13 tp c sv G)))) := H
        exact (((((((H.blk b).drop).blk b1).drop.take (codeA cd g sc rs n k)).take (phA y.ph (c, L'))).take (opnA o y)).take (cliA p x))
    · simp only [resU, Prod.mk.injEq] at hz
      obtain ⟨rfl, rfl, rfl, rfl, rfl, rfl, rfl, rfl⟩ := hz
      have hei : (i : Int) = (q : Int) - 1 := by omega
      have hne : decide ((i : Int) = (q : Int) - 1) = true := decide_eq_true hei
      rw [hne]
      replace H : Hp w0 w5 (star A' (star (bk b Ty_api_Result #[.int .i64 R.op, .bool R.put, .int .i64 R.status, .int .i64 R.tag.n, .int .i64 R.tag.c, R.val.v]) (inM b1 ⟨kindOf f, id, (j : Int), 1, key, mtag, mtop, mhas, mdata, mbs⟩ (inF s r' l ms t b13 tp c sv G)))) := H
      rcases hN with ⟨hf2, rfl, rfl, x', y', ms', hS', hms', rfl⟩ | ⟨rfl, rfl, rfl, rfl, rfl⟩
      · have H : Hp w0 w5 (star (msgsA h ms') (inA p x' o y' c [] cd g sc rs n k (star (bk b Ty_api_Result #[.int .i64 Rs.no.op, .bool Rs.no.put, .int .i64 Rs.no.status, .int .i64 Rs.no.tag.n, .int .i64 Rs.no.tag.c, Rs.no.val.v]) (inM b1 ⟨kindOf f, id, (j : Int), 1, key, mtag, mtop, mhas, mdata, mbs⟩ (inF s r' l ms t b13 tp c sv G))))) := H.ent as4r
        have hml' : ms'.length = n := by have := congrArg List.length hms'; simpa [allOf] using this
        obtain ⟨hrl', -⟩ := rdMs H (i := 0) (by omega)
        refine ⟨fun h => ?_, fun _ => ⟨fun h => (nomatch h), fun _ => ⟨fun _ => hR hf2 h w5 x' y' ms' hS' hms' ?_, fun h => (nomatch h)⟩⟩⟩
        · exfalso
          rw [decide_eq_false (by omega : ¬ (f : Int) = 2), decide_eq_true (by omega : (f : Int) < 2), hrl', decide_eq_true (by omega : (0 : Int) < (ms'.length : Int))] at h
          exact absurd h (by decide)
        · exact ((((((((H.blk b).drop.blk b1).drop.take (own Ty_int 1 s (l.map iK))).drop.take (msgsA r' ms)).drop.take (codeA cd g sc rs n k)).take (phA y'.ph (c, []))).take (opnA o y')).take (cliA p x')).take (msgsA h ms')
      · have H := H.drop
        have hmt : mtag = nt := ht (by decide)
        refine ⟨fun h => absurd h (by decide), fun _ => ⟨fun _ => ?_, fun h => (nomatch h)⟩⟩
        refine ⟨_, H.cell (b := b) (i := 2) rfl, true, fun _ => ⟨_, H.cell (b := b) (i := 0) rfl, rfl⟩, fun h => absurd (show true = false from h) (by decide), fun z w' => z = true ∧ Fr [] w5 w', ⟨fun _ => ⟨_, H.cell2 (b := b) (i := 3) (j := 0) rfl, _, H.cell2 (b := b) (i := 3) (j := 1) rfl, _, H.cell (b := b13) (i := 0) rfl, _, H.cell (b := b13) (i := 1) rfl, call (tcmp_c (t := nt) (u := t)) ?_⟩, fun h => (nomatch h)⟩, ?_⟩
        · rintro _ w6 ⟨rfl, f6⟩
          refine ⟨_, rfl, ?_, f6⟩
          rw [hnt, Tg.next_above]
          rfl
        · rintro _ w6 ⟨rfl, f6⟩
          have H := H.fr0 f6
          refine ⟨true, fun _ => ⟨_, H.cell2 (b := b) (i := 3) (j := 0) rfl, _, H.cell2 (b := b) (i := 3) (j := 1) rfl, _, H.cell2 (b := b1) (i := 5) (j := 0) rfl, _, H.cell2 (b := b1) (i := 5) (j := 1) rfl, ?_⟩, fun h => (nomatch h), hQ w6 H.fr⟩
          rw [hmt]
          simp
abbrev ouA (r : Slc) (ms : List Ms) (b124 b10 : Nat) (a b : Int) (V I P sO : Slc) (os : Rws) (F : Asn) : Asn :=
  star (msgsA r ms) (star (bk b124 Ty_3_int #[.int .i64 1, .int .i64 3, .int .i64 5]) (star (bk b10 Ty_sherdlaw18_Tale #[.int .i64 a, .int .i64 b, V.v, I.v, P.v]) (star (rwsA sO os) F)))
abbrev tlA (b13 tp : Nat) (t : Tg) (c : Cfg) (sv : Slc) (G : Asn) : Asn := star (bk b13 Ty_api_Tag #[.int .i64 t.n, .int .i64 t.c]) (star (bk tp Ty_sherdlaw18_Town #[.int .i64 c.N, .int .i64 c.K, .int .i64 0, Slc.v sv]) G)
theorem phases_c {Q : Ending → World → Prop} {G : Asn} {sv : Slc} {ps : List Int} (hC : ∀ {w' : World} {A' : Asn}, Hp w0 w' (star (codeA cd g sc rs n k) A') → RdCode w' cd g sc rs n k) (hc : c.Ok) (hn : c.N = (n : Int)) (hn1 : 1 ≤ n) (hn2 : n ≤ 255)
    (hb : bs.length ≤ 65536) (hS : PutSt c id cd o key bs nt 0 x y) (hid : 1 ≤ id) (hid2 : id ≤ 65535) (hv : t.valid = true) (hm : t.n ≠ 4611686018427387903) (hnt : nt = t.next 0 id)
    (hq : (c.N + c.K + 1) / 2 = (q : Int)) (hq1 : 1 ≤ q) (hqn : q ≤ n) (hms : ms.map Ms.abs = (allOf n).map (reqOf id y (partOf rs bs k)))
    (hidO : id = idOf is) (hI : Cel w0 I 1 (is.map iK)) (hP : Cel w0 P 1 (ps.map iK)) (hpl : ps.length ≤ 1099511627776) (hos : mt os = (mt rs).map (fun fs => lin fs (cutV bs k) (sizeN bs.length k))) (hol : os.length = n)
    (hQ : ∀ w', Fr [] w0 w' → Q (.returned (.bool true)) w')
    (H : Hp w0 w (ouA r ms b124 b10 a b V I P sO os (inA p x o y c [] cd g sc rs n k (tlA b13 tp t c sv G)))) : phC r sO key (blk tp) b10 b13 b124 (some (blk p)) (q : Int) w Q := by
  unfold phC
  refine ⟨fun r z w' => ∃ (f : Nat) (x : Cl) (y : Opn) (ms : List Ms), z = (f : Int) ∧ f ≤ 2 ∧ PutSt c id cd o key bs nt f x y ∧ ms.map Ms.abs = (allOf n).map (reqOf id y (partOf rs bs k)) ∧ Hp w0 w' (ouA r ms b124 b10 a b V I P sO os (inA p x o y c [] cd g sc rs n k (tlA b13 tp t c sv G))), fun _ z _ => 3 - z.toNat, ⟨0, x, y, ms, rfl, by omega, hS, hms, H⟩, ?_⟩
  clear H hS hms
  rintro r _ w ⟨f, x, y, ms, rfl, hf, hS, hms, H⟩
  have hml : ms.length = n := by have := congrArg List.length hms; simpa [allOf] using this
  have hrl : r.l = n := by
    obtain ⟨hrl, -⟩ := rdMs H (i := 0) (by omega)
    omega
  have ef : wr .i64 ((f : Int) + 1) = ((f + 1 : Nat) : Int) := by rw [wr64 (by omega) (by omega)]; omega
  refine ⟨fun _ => ⟨fun r' w' => f < 2 ∧ ∃ (x : Cl) (y : Opn) (ms : List Ms), PutSt c id cd o key bs nt (f + 1) x y ∧ ms.map Ms.abs = (allOf n).map (reqOf id y (partOf rs bs k)) ∧ Hp w0 w' (ouA r' ms b124 b10 a b V I P sO os (inA p x o y c [] cd g sc rs n k (tlA b13 tp t c sv G))), ⟨_, H.cell2 (b := tp) (i := 0) (j := 0) rfl, fun h => ?_, fun _ => ?_⟩, ?_⟩, fun h => absurd h (by simp; omega)⟩
  · rw [hrl, hn] at h
    exact absurd rfl (of_decide_eq_true h)
  · refine ⟨fun z w' => ∃ i : Nat, z = (i : Int) ∧ i ≤ n ∧ Hp w0 w' (ouA r ms b124 b10 a b V I P sO os (inA p x o y c [] cd g sc rs n k (tlA b13 tp t c sv G))), fun z _ => n - z.toNat, ⟨0, rfl, by omega, H⟩, ?_⟩
    clear H
    rintro _ w1 ⟨i, rfl, hi, H⟩
    refine ⟨fun h => ?_, fun _ => ?_⟩
    · have hlt : i < n := by have := of_decide_eq_true h; omega
      have ei : wr .i64 ((i : Int) + 1) = ((i + 1 : Nat) : Int) := by rw [wr64 (by omega) (by omega)]; omega
      refine ⟨_, chk_c hms hS hf hlt hidO hI hos hol H, ?_⟩
      rintro _ w2 ⟨rfl, H⟩
      refine ⟨fun h => (nomatch h), fun _ => ?_⟩
      rw [ei]
      exact ⟨⟨i + 1, rfl, hlt, H⟩, by show n - ((i + 1 : Nat) : Int).toNat < n - ((i : Nat) : Int).toNat; omega⟩
    · have H := H.drew 1
      refine ⟨_, H.cell2 (b := tp) (i := 0) (j := 0) rfl, _, H.cell (b := b10) (i := 4) rfl, ?_⟩
      rw [hn]
      refine call (mixed_c (n := n) (f := f) (by omega) hn1 hn2 (hP.fr0 H.fr) hpl) ?_
      rintro _ w2 ⟨s, l, rfl, hp, J⟩
      have H := H.join J
      refine ⟨s, rfl, ?_⟩
      refine inner_c (sv := sv) (G := star (bk b124 Ty_3_int #[.int .i64 1, .int .i64 3, .int .i64 5]) (star (bk b10 Ty_sherdlaw18_Tale #[.int .i64 a, .int .i64 b, V.v, I.v, P.v]) (star (rwsA sO os) G))) hC hc hn hn1 hn2 hb hS hf hid hid2 hv hm hnt hp hq hq1 hqn hms (fun hf2 r' w' x' y' ms' hS' hms' H => ⟨hf2, x', y', ms', hS', hms', ?_⟩) hQ ?_
      · exact ((((H.take (rwsA sO os)).blk b10).blk b124).take (msgsA r' ms'))
      · exact ((((((((H.blk tp).blk b13).take (msgsA r ms)).take (own Ty_int 1 s (l.map iK))).take (codeA cd g sc rs n k)).take (phA y.ph (c, []))).take (opnA o y)).take (cliA p x))
  · rintro r' w1 ⟨hf2, x', y', ms', hS', hms', H⟩
    rw [ef]
    exact ⟨⟨f + 1, x', y', ms', rfl, by omega, hS', hms', H⟩, by show 3 - ((f + 1 : Nat) : Int).toNat < 3 - ((f : Nat) : Int).toNat; omega⟩
end
end Go.Proofs.YtabifopphhpciaaGreatDoor

namespace Go.Proofs.YtabifopphhpciaaGreatDoor
open Go Go.Vc Go.Vc.Asn Go.Gf
abbrev lwA (b10 b13 tp p q g q2 g2 n k : Nat) (a b : Int) (V I P sv sc sc2 : Slc) (rs rs2 : Rws) (t : Tg) (c : Cfg) (id : Int) : Asn :=
  star (codeA q2 g2 sc2 rs2 n k) (star (cliA p ⟨c, id, q, 0, [], none⟩) (star (codeA q g sc rs n k) (star (bk tp Ty_sherdlaw18_Town #[.int .i64 c.N, .int .i64 c.K, .int .i64 0, Slc.v sv])
    (star (bk b13 Ty_api_Tag #[.int .i64 t.n, .int .i64 t.c]) (star (bk b10 Ty_sherdlaw18_Tale #[.int .i64 a, .int .i64 b, V.v, I.v, P.v]) emp)))))
section
variable {w : World} {V I P : Slc} {vs : Rws} {is ps : List Int} {a b : Int} {key : ByteArray} {top : Tg}
set_option maxRecDepth 100000 in
set_option maxHeartbeats 400000 in
theorem clientPhases_c (hV : RdR w V vs) (hvl : ∀ r ∈ vs, r.2.length ≤ 1099511627776) (hI : Cel w I 1 (is.map iK)) (hP : Cel w P 1 (ps.map iK)) (hpl : ps.length ≤ 1099511627776) :
    Calls PP F_sherdlaw18_ClientPhases #[.agg #[.int .i64 a, .int .i64 b, V.v, I.v, P.v], .string key, top.v] w (Rt fun v w' => v = .bool true ∧ Fr [] w w') := by
  refine sim_sherdlaw18_ClientPhases _ _ _ _ _ _ _ _ _ _ ?_
  unfold vc_sherdlaw18_ClientPhases
  refine (Hp.start w).new fun b10 w1 H => H.new fun b13 w2 H => call town_c ?_
  rintro _ w3 ⟨tp, N, K, sv, rfl, hN1, hN7, hK1, hKN, J⟩
  have H := (H.join J).drew 1
  refine ⟨_, rfl, _, rfl, _, H.cell2 (b := tp) (i := 0) (j := 0) rfl, _, H.cell2 (b := tp) (i := 0) (j := 1) rfl, _, H.cell2 (b := tp) (i := 0) (j := 2) rfl, _, H.cell (b := b10) (i := 0) rfl, _, H.cell (b := b10) (i := 1) rfl, _, H.cell (b := b10) (i := 2) rfl, _, H.cell (b := b10) (i := 3) rfl, _, H.cell (b := b10) (i := 4) rfl, call (id_c (hI.fr0 H.fr)) ?_⟩
  rintro _ w4 ⟨rfl, f4⟩
  have H := H.fr0 f4
  have hib := idOf_bounds is
  obtain ⟨n, hn⟩ : ∃ n : Nat, N = (n : Int) := ⟨N.toNat, by omega⟩
  obtain ⟨k, hk⟩ : ∃ k : Nat, K = (k : Int) := ⟨K.toNat, by omega⟩
  subst hn hk
  have hok : (⟨(n : Int), (k : Int), 0⟩ : Cfg).Ok := ⟨hK1, hKN, by show (n : Int) ≤ 255; omega, Int.le_refl 0, by show (0 : Int) ≤ 4611686018427387903; decide⟩
  refine ⟨_, rfl, H.cell2 (b := tp) (i := 0) (j := 0) rfl, H.cell2 (b := tp) (i := 0) (j := 1) rfl, H.cell2 (b := tp) (i := 0) (j := 2) rfl, call (newA_c (c := ⟨(n : Int), (k : Int), 0⟩) (n := n) (k := k) hok (by omega) (by omega) rfl rfl) ?_⟩
  rintro _ w5 ⟨p, q, g, sc, rs, rfl, hG, J⟩
  have H := (H.beside (J.ent (Ent.star (Ent.refl _) emp_r'))).assoc
  refine ⟨_, _, rfl, ?_⟩
  refine ⟨_, H.cell2 (b := tp) (i := 0) (j := 0) rfl, ?_⟩
  refine ⟨_, H.cell2 (b := tp) (i := 0) (j := 1) rfl, _, H.cell2 (b := tp) (i := 0) (j := 2) rfl, ?_⟩
  have hq0 : ∀ w : World, Calls PP F_quorum_Size #[.agg #[.int .i64 (n : Int), .int .i64 (k : Int), .int .i64 0]] w (Rt fun v w' => v = .tuple #[.int .i64 (((n : Int) + (k : Int) + 1) / 2), .int .i64 0] ∧ Fr [] w w') := fun w => size_q hok
  refine call (hq0 _) ?_
  rintro _ w6 ⟨rfl, f6⟩
  have H := (H.fr0 f6).drew 1
  refine ⟨_, _, rfl, _, H.cell2 (b := tp) (i := 0) (j := 0) rfl, _, H.cell2 (b := tp) (i := 0) (j := 1) rfl, ?_⟩
  refine call (codeNewA_c (n := n) (k := k) (by omega) (by omega) (by omega)) ?_
  rintro _ w7 ⟨q2, g2, sc2, rs2, rfl, hG2, J⟩
  have H := H.join J
  refine ⟨_, _, rfl, call awake_c ?_⟩
  rintro _ w8 ⟨rfl, f8⟩
  have H := H.fr0 f8
  have hrs : mt rs2 = mt rs := hG2.uniq hG
  refine ⟨_, rfl, fun h => by simp at h, fun _ => ⟨fun h => ?_, fun h => ?_⟩⟩
  · have hkb : key.size < 1 ∨ 64 < key.size := by simp at h; omega
    refine call (putBad_c (x := ⟨⟨(n : Int), (k : Int), 0⟩, idOf is, q, 0, [], none⟩) (v := Slc.nil) rfl hkb (H.take (cliA p ⟨⟨(n : Int), (k : Int), 0⟩, idOf is, q, 0, [], none⟩))) ?_
    rintro _ w9 ⟨rfl, hw⟩
    rw [hw]
    exact ⟨_, _, _, rfl, Rt.ok ⟨rfl, H.fr⟩⟩
  have hkg : 1 ≤ key.size ∧ key.size ≤ 64 := by simp at h; omega
  have H : Hp w w8 (lwA b10 b13 tp p q g q2 g2 n k a b V I P sv sc sc2 rs rs2 top ⟨(n : Int), (k : Int), 0⟩ (idOf is)) := H
  refine ⟨fun v w' => ∃ bs : List UInt8, bs.length ≤ 300 ∧ Hp w w' (star (own Ty_uint8 1 v (bs.map u8v)) (lwA b10 b13 tp p q g q2 g2 n k a b V I P sv sc sc2 rs rs2 top ⟨(n : Int), (k : Int), 0⟩ (idOf is))), ⟨_, H.cell (b := b10) (i := 2) rfl, fun h => ?_, fun h => ⟨[], by simp, H.nilRow Ty_uint8 1⟩⟩, ?_⟩
  · have h := of_decide_eq_true h
    have hvl2 := (hV.cel).len
    simp only [List.length_map] at hvl2
    have hv0 : 0 < vs.length := by omega
    refine ⟨_, H.cell (b := b10) (i := 2) rfl, (hV.fr0 H.fr).cel.rdS (i := 0) hv0 fun a2 ha2 => ?_⟩
    refine call (value_c ((hV.fr0 H.fr).at_ hv0) (hvl _ (List.getElem_mem hv0))) ?_
    rintro _ w9 ⟨o, rfl, J⟩
    exact ⟨o, rfl, vs[0].2.take 300, by rw [List.length_take]; omega, H.join J⟩
  clear H
  rintro v w9 ⟨bs, hbl, H⟩
  refine ⟨fun w' => ∃ t : Tg, t.valid = true ∧ t.n ≠ 4611686018427387903 ∧ Hp w w' (star (own Ty_uint8 1 v (bs.map u8v)) (lwA b10 b13 tp p q g q2 g2 n k a b V I P sv sc sc2 rs rs2 t ⟨(n : Int), (k : Int), 0⟩ (idOf is))), ⟨_, H.cell (b := b13) (i := 0) rfl, _, H.cell (b := b13) (i := 1) rfl, call (valid_c (t := top)) ?_⟩, ?_⟩
  · rintro _ w10 ⟨rfl, f10⟩
    have H := H.fr0 f10
    refine ⟨_, rfl, !top.valid || decide (top.n = 4611686018427387903), fun h => ⟨_, H.cell (b := b13) (i := 0) rfl, by rw [h, Bool.false_or]⟩, fun h => by rw [h, Bool.true_or], fun h => H.stoAll (b := b13) (by rfl) fun w11 H => ⟨⟨3, 3⟩, by decide, by decide, ?_⟩, fun h => ⟨top, by simpa using (Bool.or_eq_false_iff.1 h).1, by simpa using (Bool.or_eq_false_iff.1 h).2, H⟩⟩
    exact ((((H.blk tp).take (codeA q g sc rs n k)).take (cliA p ⟨⟨(n : Int), (k : Int), 0⟩, idOf is, q, 0, [], none⟩)).take (codeA q2 g2 sc2 rs2 n k)).own v
  clear H
  rintro w10 ⟨t, hv, hm, H⟩
  have hkn : 1 ≤ k ∧ k ≤ n ∧ n ≤ 255 := by omega
  have hsp : Calls PP F_stripe_Split #[.pointer (some (blk q2)), v.v] w10 (Rt fun x w' => ∃ o os, x = .tuple #[Slc.v o, .int .i64 0] ∧ mt os = (mt rs).map (fun fs => lin fs (cutV bs k) (sizeN bs.length k)) ∧ Hp w10 w' (star (rwsA o os) emp)) := by
    rw [← hrs]
    exact split_c (rdCode hG2 hkn.1 hkn.2.1 hkn.2.2 (H.take (codeA q2 g2 sc2 rs2 n k))) (H.cel (s := v)) (by omega)
  refine call hsp ?_
  rintro _ w11 ⟨sO, os, rfl, hos, J⟩
  have H := H.join J
  have hC : ∀ {w' : World} {A' : Asn}, Hp w w' (star (codeA q g sc rs n k) A') → RdCode w' q g sc rs n k := fun H => rdCode hG hkn.1 hkn.2.1 hkn.2.2 H
  have hV2 : ∀ {w' : World} {A' : Asn}, Hp w w' (star (own Ty_uint8 1 v (bs.map u8v)) A') → Byt w' v bs := fun H => H.cel (s := v)
  have hpt := put_c (x := ⟨⟨(n : Int), (k : Int), 0⟩, idOf is, q, 0, [], none⟩) (n := n) (k := k) (bs := bs) (key := key) (v := v) hC hV2 hok rfl hkn.2.2 rfl (Int.le_refl 0) (by show (0 : Int) < 4611686018427387903; decide) hkg.1 hkg.2 (by omega) (((H.take (codeA q g sc rs n k)).take (own Ty_uint8 1 v (bs.map u8v))).take (cliA p ⟨⟨(n : Int), (k : Int), 0⟩, idOf is, q, 0, [], none⟩))
  refine ⟨_, _, rfl, call hpt ?_⟩
  rintro _ w12 ⟨o, val, ph, r, ms, rfl, hms, H⟩
  have hosl : os.length = n := by
    have h1 : (mt os).length = n := by rw [hos, List.length_map]; exact hG.shp.len
    exact (mt_len os).symm.trans h1
  have hsO : sO.l = n := by rw [← hosl]; exact (rdR (H.take (rwsA sO os)).assoc).cel.lenM
  refine ⟨_, _, _, rfl, false, fun _ => ⟨_, H.cell2 (b := tp) (i := 0) (j := 0) rfl, ?_⟩, fun h => ?_, fun h => by simp at h, fun _ => H.new fun b124 w13 H => H.stoAll (b := b124) (by rfl) fun w14 H => ?_⟩
  · rw [hsO]; simp
  · exact absurd h (by decide)
  have H := ((((((((((H.blk tp).blk b13).take (codeA q g sc rs n k)).take (phA ph (⟨(n : Int), (k : Int), 0⟩, []))).take (opnA o ⟨0 + 1, true, key, val, bs, .ask, Tg.zero, ph⟩)).take (cliA p { (⟨⟨(n : Int), (k : Int), 0⟩, idOf is, q, 0, [], none⟩ : Cl) with ops := 0 + 1, now := some o })).take (rwsA sO os)).blk b10).blk b124).take (msgsA r ms))
  obtain ⟨q', hq'⟩ : ∃ q' : Nat, ((n : Int) + (k : Int) + 1) / 2 = (q' : Int) := ⟨(((n : Int) + (k : Int) + 1) / 2).toNat, by omega⟩
  have hph := phases_c (Q := Rt fun v w' => v = .bool true ∧ Fr [] w w') (q := q') (bs := bs) (id := idOf is) (nt := t.next 0 (idOf is)) hC hok rfl (by omega) hkn.2.2 (by omega) ⟨rfl, rfl, rfl, rfl, rfl, rfl, rfl, rfl, rfl, fun h => absurd rfl h, fun _ => rfl⟩ hib.1 (by omega) hv hm rfl hq' (by omega) (by omega) hms rfl hI hP hpl hos hosl (fun w' f => Rt.ok ⟨rfl, f⟩) H
  rw [← hq'] at hph
  exact hph
end
end Go.Proofs.YtabifopphhpciaaGreatDoor
